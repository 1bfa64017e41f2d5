/- The abstract layer: abstract values and heaps, what code does to them, the conditions of its operations as equations; no conditions of its own. -/
import Derived.Test.YthldjffimcngaaaGreatDoorAugFour
set_option linter.all false
set_option linter.unusedVariables false
set_option linter.unusedSimpArgs false
set_option linter.unusedSectionVars false

/-
  The abstract layer, heaps said by a list over another heap: what is known of a frame's blocks is a list, in the order in which they were made.
-/
namespace Go.Aug
def hp (R:Heap):List (Nat×AObj)→Heap
  | []=>R
  | (b,o)::l=>upd (hp R l) b o
def setL (b:Nat) (o:AObj):List (Nat×AObj)→List (Nat×AObj)
  | []=>[(b,o)]
  | (k,x)::l=>cnd (eqn b k) ((k,o)::l) ((k,x)::setL b o l)
def delL (b:Nat):List (Nat×AObj)→List (Nat×AObj)
  | []=>[]
  | (k,x)::l=>cnd (eqn b k) (delL b l) ((k,x)::delL b l)
def off (R:Heap):List (Nat×AObj)→Nat→Prop
  | [],b=>R b=none
  | (k,_)::l,b=>eqn b k=false∧eqn k b=false∧off R l b
def subL (H:Heap):List (Nat×AObj)→Prop
  | []=>True
  | (b,o)::l=>H b=some o∧subL H l
def inK (b:Nat):List (Nat×AObj)→Bool
  | []=>false
  | (k,_)::l=>cnd (eqn b k) true (inK b l)
def offR (R:Heap) (l1:List (Nat×AObj)):List (Nat×AObj)→Prop
  | []=>True
  | (b,_)::l=>(inK b l1=true∨R b=none)∧offR R l1 l
section
variable {R:Heap} {l l1 l2:List (Nat×AObj)} {b k:Nat} {o x:AObj}
@[go_sem] theorem zGT:hp R [] k=R k:=Eq.trans rfl rfl
@[go_sem] theorem zTi:hp R ((b,o)::l) k=cnd (eqn k b) (some o) (hid (hp R l k) ⟨⟩):=zVk
@[go_sem] theorem zDI:setL b o []=[(b,o)]:=Eq.trans rfl rfl
@[go_sem] theorem zCz:setL b o ((k,x)::l)=cnd (eqn b k) ((k,o)::l) (hid ((k,x)::setL b o l) ⟨⟩):=Eq.trans rfl rfl
@[go_sem] theorem zID:delL b []=[]:=Eq.trans rfl rfl
@[go_sem] theorem zGJ:delL b ((k,x)::l)=cnd (eqn b k) (delL b l) (hid ((k,x)::delL b l) ⟨⟩):=Eq.trans rfl rfl
@[go_sem] theorem zHQ:inK b []=false:=Eq.trans rfl rfl
@[go_sem] theorem zFZ:inK b ((k,x)::l)=cnd (eqn b k) true (hid (inK b l) ⟨⟩):=Eq.trans rfl rfl
@[go_sem] theorem zU:off R [] b=(R b=none):=Eq.trans rfl rfl
@[go_sem] theorem zN:off R ((k,x)::l) b=(eqn b k=false∧eqn k b=false∧off R l b):=Eq.trans rfl rfl
@[go_sem] theorem zJh {H:Heap}:subL H []=True:=Eq.trans rfl rfl
@[go_sem] theorem zHt {H:Heap}:subL H ((b,o)::l)=(H b=some o∧subL H l):=Eq.trans rfl rfl
@[go_sem] theorem zIW:offR R l1 []=True:=Eq.trans rfl rfl
@[go_sem] theorem zG5:offR R l1 ((b,o)::l)=((inK b l1=true∨R b=none)∧offR R l1 l):=Eq.trans rfl rfl
theorem zCb {a b:Nat} (h:eqn a b=true):a=b:=by simpa [eqn] using h
theorem zD6 {a b:Nat} (h:eqn a b=false):a≠b:=by simpa [eqn] using h
@[go_sem] theorem zLP:upd (hp R l) b o=hp R (setL b o l):=by
  induction l with
  | nil=>rfl
  | cons p l ih =>
    obtain ⟨k,x⟩:=p
    simp only [setL,hp,cnd]
    split
    · rename_i h
      have:=zCb h; subst this
      funext j; simp only [hp,upd]; split <;> rfl
    · rename_i h
      rw [hp,←ih]
      funext j
      have hne:b≠k:=fun e=>h (by simp [eqn,e])
      simp only [upd]
      split <;> split <;> simp_all
@[go_sem] theorem zYb (h:R b=none):del (hp R l) b=hp R (delL b l):=by
  induction l with
  | nil=>funext j; simp only [delL,hp,del]; split <;> simp_all
  | cons p l ih =>
    obtain ⟨k,x⟩:=p
    simp only [delL,hp,cnd]
    split
    · rename_i h'
      have:=zCb h'; subst this
      rw [←ih]
      funext j; simp only [del,upd]; split <;> simp_all
    · rename_i h'
      rw [hp,←ih]
      have hne:b≠k:=fun e=>h' (by simp [eqn,e])
      funext j
      simp only [upd,del]
      split <;> split <;> simp_all
theorem zFr:∀ {l:List (Nat×AObj)},hp R l b=none→off R l b
  | [],h=>h
  | (k,x)::l,h=>by
    have h1:=upd_eq_none.1 h
    exact ⟨zA5 h1.1,zA5 (Ne.symm h1.1),zFr h1.2⟩
theorem zNi:∀ {l:List (Nat×AObj)},off R l b→hp R l b=none
  | [],h=>h
  | (k,x)::l,h=>upd_eq_none.2 ⟨zD6 h.1,zNi h.2.2⟩
theorem yI {f:Nat→Prop} {lk:Lk f} (h:∀ b,off R l b→f b):newK (hp R l) (hid f lk):=fun b hb=>h b (zFr hb)
theorem vD {f:Nat→Value→Prop} {lk:Lk f} (h:∀ b v,off R l b→v.ownBlock=some b→f b v):newV (hp R l) (hid f lk):=fun b v hb hv=>h b v (zFr hb) hv
theorem zBE:∀ {l:List (Nat×AObj)},inK b l=false→hp R l b=R b
  | [],_=>rfl
  | (k,x)::l,h=>by
    simp only [inK,cnd] at h
    split at h
    · cases h
    · rename_i e
      have hne:b≠k:=fun e'=>e (by simp [eqn,e'])
      simp only [hp,upd,if_neg hne]
      exact zBE h
theorem zKJ {H:Heap}:∀ {l:List (Nat×AObj)},subL H l→inK b l=true→hp R l b=some o→H b=some o
  | [],_,h,_=>by cases h
  | (k,x)::l,hs,h,hg=>by
    by_cases e:b=k
    · subst e
      simp only [hp,upd,if_true] at hg
      rw [←hg]; exact hs.1
    · simp only [hp, upd, if_neg e] at hg
      simp only [inK,cnd,zA5 e,Bool.false_eq_true,if_false] at h
      exact zKJ hs.2 h hg
theorem zF9:∀ {l:List (Nat×AObj)},offR R l1 l→inK b l=true→inK b l1=true∨R b=none
  | [],_,h=>by cases h
  | (k,x)::l,ho,h=>by
    simp only [inK,cnd] at h
    split at h
    · rename_i e; have:=zCb e; subst this; exact ho.1
    · exact zF9 ho.2 h
theorem yM (h1:subL (hp R l2) l1) (h2:offR R l1 l2):LeH (hp R l1) (hp R l2):=by
  intro j o hj
  cases h:inK j l1 with
  | true=>exact zKJ h1 h hj
  | false =>
    rw [zBE h] at hj
    cases h':inK j l2 with
    | true =>
      rcases zF9 h2 h' with h3 | h3
      · rw [h] at h3; cases h3
      · rw [h3] at hj; cases hj
    | false=>rw [zBE h']; exact hj
theorem zO2 (h:R b=some o):hp R [(b,o)]=R:=by
  funext j; simp only [hp,upd]; split <;> simp_all
theorem ACall.hp_in {P:Program} {V:Env} {f:FuncId} {args:List A} {K:A→Heap→Prop} (h:R b=some o) (k:ACall P V f args (hp R [(b,o)]) K):ACall P V f args R K:=by rw [zO2 h] at k; exact k
theorem ACall.hp_start {P:Program} {V:Env} {f:FuncId} {args:List A} {K:A→Heap→Prop} (k:ACall P V f args (hp R []) K):ACall P V f args R K:=k
theorem vQ (h:offR R [] l):LeH R (hp R l):=yM (l1:=[]) trivial h
end
theorem vB {R R':Heap} {l1 l2:List (Nat×AObj)} (h0:LeH R R') (h1:subL (hp R' l2) l1) (h2:offR R l1 l2):LeH (hp R l1) (hp R' l2):=by
  intro j o hj
  cases h:inK j l1 with
  | true=>exact zKJ h1 h hj
  | false =>
    rw [zBE h] at hj
    cases h':inK j l2 with
    | true =>
      rcases zF9 h2 h' with h3 | h3
      · rw [h] at h3; cases h3
      · rw [h3] at hj; cases hj
    | false=>rw [zBE h']; exact h0 j o hj
def memK (k:Nat):List Nat→Bool
  | []=>false
  | j::l=>cnd (eqn k j) true (memK k l)
def okK (ks:List Nat) (R:Heap):List (Nat×AObj)→Prop
  | []=>True
  | (k,_)::l=>(memK k ks=true∨R k=none)∧okK ks R l
@[go_sem] theorem zF7 {k:Nat}:memK k []=false:=Eq.trans rfl rfl
@[go_sem] theorem zCi {k j:Nat} {l:List Nat}:memK k (j::l)=cnd (eqn k j) true (hid (memK k l) ⟨⟩):=Eq.trans rfl rfl
@[go_sem] theorem zKU {ks:List Nat} {R:Heap}:okK ks R []=True:=Eq.trans rfl rfl
@[go_sem] theorem zIX {ks:List Nat} {R:Heap} {k:Nat} {o:AObj} {l:List (Nat×AObj)}:okK ks R ((k,o)::l)=((memK k ks=true∨R k=none)∧okK ks R l):=Eq.trans rfl rfl
theorem zO5 {ks:List Nat} {R:Heap} {b:Nat}:∀ {l:List (Nat×AObj)},okK ks R l→inK b l=true→memK b ks=true∨R b=none
  | [],_,h=>by cases h
  | (k,x)::l,ho,h=>by
    simp only [inK,cnd] at h
    split at h
    · rename_i e; have:=zCb e; subst this; exact ho.1
    · exact zO5 ho.2 h
theorem zG6 {R:Heap} {b:Nat}:∀ {l:List (Nat×AObj)},off R l b→inK b l=false
  | [],_=>rfl
  | (k,x)::l,h=>by simp only [inK,cnd,h.1,Bool.false_eq_true,if_false]; exact zG6 h.2.2
theorem zDB {R:Heap} {b:Nat}:∀ {l:List (Nat×AObj)},off R l b→R b=none
  | [],h=>h
  | (_,_)::_,h=>zDB h.2.2
theorem zAi {R:Heap} {b:Nat} {o:AObj}:∀ {l:List (Nat×AObj)},inK b l=false→upd (hp R l) b o=hp (upd R b o) l
  | [],_=>rfl
  | (k,x)::l,h=>by
    simp only [inK,cnd] at h
    split at h
    · cases h
    · rename_i e
      have hne:b≠k:=fun e'=>e (by simp [eqn,e'])
      simp only [hp]
      rw [←zAi h,zDL (Ne.symm hne)]
theorem zFm {R:Heap} {b:Nat}:∀ {l:List (Nat×AObj)},inK b l=false→del (hp R l) b=hp (del R b) l
  | [],_=>rfl
  | (k,x)::l,h=>by
    simp only [inK,cnd] at h
    split at h
    · cases h
    · rename_i e
      have hne:b≠k:=fun e'=>e (by simp [eqn,e'])
      simp only [hp]
      rw [←zFm h]
      funext j; simp only [del,upd]; split <;> split <;> simp_all
theorem zHP {R:Heap} {b:Nat} {o:AObj} {l:List (Nat×AObj)} (h:inK b l=false):hp (upd R b o) l=hp R (setL b o l):=by rw [←zAi h,zLP]
def preK:List Nat→List (Nat×AObj)→Prop
  | [],_=>True
  | k::ks,(j,_)::l=>k=j∧preK ks l
  | _::_,[]=>False
@[go_sem] theorem zI1 {l:List (Nat×AObj)}:preK [] l=True:=by simp [preK]
@[go_sem] theorem zG8 {k j:Nat} {o:AObj} {ks:List Nat} {l:List (Nat×AObj)}:preK (k::ks) ((j,o)::l)=(k=j∧preK ks l):=Eq.trans rfl rfl
theorem zKW {b:Nat}:∀ {ks:List Nat} {l:List (Nat×AObj)},preK ks l→memK b ks=true→inK b l=true
  | [],_,_,h=>by cases h
  | k::ks,[],hp,_=>hp.elim
  | k::ks,(j,o)::l,hp,h=>by
    obtain ⟨rfl,hp⟩:=hp
    simp only [memK,inK,cnd] at h ⊢
    split
    · rfl
    · rename_i e; rw [if_neg e] at h; exact zKW hp h
def Acc (R:Heap) (ks:List Nat) (E:TypeId) (sz:Nat) (xs:List D) (a:A) (R':Heap):Prop :=
  LeH R R'∧((xs=[]∧a=.nils)∨∃ b v,a=.own b v∧memK b ks=false∧R b=none∧v.ownBlock=some b∧R' b=some (.arr E sz v xs))
section
variable {R R':Heap} {ks:List Nat} {E:TypeId} {sz:Nat} {xs:List D} {a:A} {l:List (Nat×AObj)}
theorem Acc.nils (R:Heap) (ks:List Nat) (E:TypeId) (sz:Nat):Acc R ks E sz [] .nils R:=⟨.refl _,.inl ⟨rfl,rfl⟩⟩
theorem Acc.new {b:Nat} {v:Value} (h1:memK b ks=false) (h2:R b=none) (h3:v.ownBlock=some b):Acc R ks E sz xs (.own b v) (upd R b (.arr E sz v xs)) :=
  ⟨zO h2 (.refl R),.inr ⟨b,v,rfl,h1,h2,h3,zV ..⟩⟩
theorem Acc.le (h:Acc R ks E sz xs a R'):LeH R R':=h.1
theorem Acc.allD (h:Acc R ks E sz xs a R') {t:List A}:allD (a::t)=none:=by
  rcases h.2 with ⟨_,rfl⟩ | ⟨b,v,rfl,_⟩ <;> rfl
theorem Acc.one (h:Acc R ks E sz xs a R'):a.good=true∧a.cells=[a]:=by
  rcases h.2 with ⟨_,rfl⟩ | ⟨b,v,rfl,_⟩ <;> exact ⟨rfl,rfl⟩
theorem Acc.out (h:Acc R ks E sz xs a R') (hl:okK ks R' l) {b:Nat} {v:Value} (ha:a=.own b v):inK b l=false:=by
  rcases h.2 with ⟨_,rfl⟩ | ⟨b',v',rfl,h1,h2,h3,h4⟩
  · cases ha
  · cases ha
    cases hb:inK b l with
    | false=>rfl
    | true =>
      rcases zO5 hl hb with h5 | h5
      · rw [h1] at h5; cases h5
      · rw [h4] at h5; cases h5
theorem Acc.appTo {ns:List D} {by_:Nat} {K:A→Heap→Prop} (h:Acc R ks E sz xs a R') (hl:okK ks R' l) (hks:preK ks l) (hsz:(xs.length+ns.length) * by_≤140737488355328)
    (hK:∀ a' R'',Acc R ks E sz (xs++ns) a' R''→(∀ k,inK k l=true→R' k=none→R'' k=none)→K a' (hp R'' l)):appTo a ns E sz by_ (hp R' l) K:=by
  have hm:∀ {b},inK b l=false→memK b ks=false:=fun {b} hb=>by
    cases hc:memK b ks with
    | false=>rfl
    | true=>rw [zKW hks hc] at hb; cases hb
  have hout:=fun b v (e:a=.own b v)=>h.out hl e
  obtain ⟨hle,⟨rfl,rfl⟩ | ⟨b,v,rfl,h1,h2,hv,hH⟩⟩:=h
  · refine zDZ (by simpa using hsz) ?_ ?_
    · rintro rfl; exact hK _ _ ⟨hle,.inl ⟨rfl,rfl⟩⟩ fun _ _ h=>h
    · intro _ b v hb hv
      have ho:=zFr hb
      rw [zAi (zG6 ho)]
      refine hK _ _ ⟨hle.up (zDB ho),.inr ⟨b,v,rfl,hm (zG6 ho),hle.free (zDB ho),hv,by simp [upd]⟩⟩ fun k hk hn=>?_
      refine upd_eq_none.2 ⟨?_,hn⟩
      rintro rfl; rw [zG6 ho] at hk; cases hk
  · have hb0 := hout b v rfl
    simp only [Go.Aug.appTo,zBE hb0,hH,true_and]
    refine ⟨hsz, ?_⟩
    intro b' v' hb' hv'
    have hin:inK b' l=false∧R b'=none:=by
      rcases hb' with rfl | hb'
      · exact ⟨hb0,h2⟩
      · exact ⟨zG6 (zFr hb'),hle.free (zDB (zFr hb'))⟩
    rw [zFm hb0,zAi hin.1]
    refine hK _ _ ⟨zO hin.2 (zHV h2 hle),.inr ⟨b',v',rfl,hm hin.1,hin.2,hv',by simp [upd]⟩⟩ fun k hk hn=>?_
    refine upd_eq_none.2 ⟨?_,del_eq_none.2 (.inr hn)⟩
    intro e; rw [e,hin.1] at hk; cases hk
theorem Acc.deep {K:D→Heap→Prop} (h:Acc R ks E sz xs a R') (hl:okK ks R' l) (hK:∀ R'',LeH R R''→(∀ k,R' k=none→R'' k=none)→K (.slice xs) (hp R'' l)):xG (hp R' l) a K:=by
  have hout:=fun b v (e:a=.own b v)=>h.out hl e
  obtain ⟨hle,⟨rfl,rfl⟩ | ⟨b,v,rfl,h1,h2,hv,hH⟩⟩:=h
  · simp only [zBq]; exact hK _ hle fun _ h=>h
  · simp only [xG, zBE (hout b v rfl), hH, true_and]
    rw [zAi (hout b v rfl)]
    exact hK _ (zO h2 hle) fun k hk=>upd_eq_none.2 ⟨fun e=>(by rw [e,hH] at hk; cases hk),hk⟩
theorem Acc.len {K:A→Prop} (h:Acc R ks E sz xs a R') (hl:okK ks R' l):aLen a (hp R' l) K=K (.d (.int .i64 xs.length)):=by
  have hout:=fun b v (e:a=.own b v)=>h.out hl e
  obtain ⟨hle,⟨rfl,rfl⟩ | ⟨b,v,rfl,h1,h2,hv,hH⟩⟩:=h
  · simp [aLen]
  · simp only [aLen,zBE (hout b v rfl),hH,true_and]
theorem Acc.lenable {P:Program} {t:TypeId} (h:Acc R ks E sz xs a R') (ht:wH P t=true):lenable P t a=true:=by
  rcases h.2 with ⟨_,rfl⟩ | ⟨b,v,rfl,_⟩
  · rw [zDd,ht]
  · rw [zEg,ht]
theorem Acc.up {R'':Heap} (h:Acc R ks E sz xs a R') (hle:LeH R' R''):Acc R ks E sz xs a R'':=by
  obtain ⟨h0,h | ⟨b,v,h1,h2,h3,h4,h5⟩⟩:=h
  · exact ⟨h0.trans hle,.inl h⟩
  · exact ⟨h0.trans hle,.inr ⟨b,v,h1,h2,h3,h4,hle _ _ h5⟩⟩
theorem Acc.deep2 {R2:Heap} {E2:TypeId} {sz2:Nat} {ys:List D} {a2:A} {K:D→Heap→Prop} (h:Acc R ks E sz xs a R') (h2:Acc R' ks E2 sz2 ys a2 R2) (hl:okK ks R2 l)
    (hK:∀ R3,Acc R ks E2 sz2 ys a2 R3→(∀ k,R2 k=none→R3 k=none)→K (.slice xs) (hp R3 l)):xG (hp R2 l) a K:=by
  have hup:=h.up h2.le
  have hout:=fun b v (e:a=.own b v)=>hup.out hl e
  have hb2:∀ R3,LeH R R3→(∀ b,R' b=none→R3 b=R2 b)→Acc R ks E2 sz2 ys a2 R3:=fun R3 hle he=>by
    refine ⟨hle, ?_⟩
    rcases h2.2 with h3 | ⟨b,v,h3,h4,h5,h6,h7⟩
    · exact .inl h3
    · exact .inr ⟨b,v,h3,h4,h.le.free h5,h6,by rw [he b h5]; exact h7⟩
  have hsome:∀ b v,a=.own b v→∃ o,R' b=some o:=fun b v e=>by
    rcases h.2 with ⟨_,rfl⟩ | ⟨b',v',rfl,_,_,_,h5⟩
    · cases e
    · cases e; exact ⟨_,h5⟩
  obtain ⟨hle,⟨rfl,rfl⟩ | ⟨b,v,rfl,h1,h2',hv,hH⟩⟩:=hup
  · simp only [zBq]; exact hK _ (hb2 _ hle fun _ _=>rfl) fun _ h=>h
  · simp only [xG, zBE (hout b v rfl), hH, true_and]
    rw [zAi (hout b v rfl)]
    refine hK _ (hb2 _ (zO h2' hle) fun c hc=>?_) fun k hk=>upd_eq_none.2 ⟨fun e=>(by rw [e,hH] at hk; cases hk),hk⟩
    rw [xI]
    rintro rfl
    obtain ⟨o,ho⟩:=hsome _ v rfl
    rw [ho] at hc; cases hc
end
theorem hpS:type_of% @zTi∧type_of% @zGT∧type_of% @zCz∧type_of% @zDI∧type_of% @zGJ∧type_of% @zID∧type_of% @zFZ∧type_of% @zHQ∧type_of% @zN∧type_of% @zU∧type_of% @zHt∧type_of% @zJh∧type_of% @zG5∧type_of% @zIW∧type_of% @zIX∧type_of% @zKU∧type_of% @zCi∧type_of% @zF7∧type_of% @zG8∧type_of% @zI1∧type_of% @zIG∧type_of% @zDx∧type_of% @zB9∧type_of% @true_or∧type_of% @or_true∧type_of% @and_true∧type_of% @true_and∧type_of% @and_self:=⟨@zTi,@zGT,@zCz,@zDI,@zGJ,@zID,@zFZ,@zHQ,@zN,@zU,@zHt,@zJh,@zG5,@zIW,@zIX,@zKU,@zCi,@zF7,@zG8,@zI1,@zIG,@zDx,@zB9,@true_or,@or_true,@and_true,@true_and,@and_self⟩
end Go.Aug

/-
  The abstract layer: several rows that grow, side by side.
-/
namespace Go.Aug
structure Pc where
  E:TypeId
  sz:Nat
  xs:List D
  a:A
section
variable {H R:Heap} {ks:List Nat} {ps pre post:List Pc} {p:Pc} {l:List (Nat×AObj)}
end
theorem zAt {H R:Heap} {l:List (Nat×AObj)} (h0:LeH H R) (h2:offR H [] l):LeH H (hp R l):=vB (l1:=[]) h0 trivial h2
end Go.Aug

/-
  The abstract layer: a deferred closure that recovers.
-/
namespace Go.Aug
open Go.RowKit
section
variable {P:Program} {V:Env} {N:Nat} {ds:Df} {Z:Nat→Prop} {F:Nat→A} {H:Heap} {a:Act} {w:World}
def zKa (D:List Deferred) (Q:Exit→Act→World→Prop):Exit→Act→World→Prop:=fun e a w=>Q e a w∧(e=.outgrown∨a.defers=D)
theorem zAF (a:Act) (d:Option Tmp) (v:Value):(a.put d v).defers=a.defers:=by cases d <;> rfl
def zCP:Op→Bool
  | .move _ | .assign _ | .alloc _ | .box .. | .build .. | .load .. | .store .. | .fieldAddr .. | .field .. | .extract .. => true
  | _=>false
theorem zKS {o:Oper} (h:zCP o.op=true) (ρ:Operand→Value) (w:World):∀ d w',(execOp ρ o).run P w≠.ok (.defer d) w':=by
  intro d w' he
  unfold execOp at he
  have hv:∀ (s:Sem Value),(do pure (Next.value (←s)):Sem Next).run P w≠.ok (.defer d) w':=fun s hs=>by
    simp only [Sem.run_bind,Sem.run_pure] at hs
    cases hr:s.run P w with
    | ok x w2=>rw [hr] at hs; cases hs
    | halt x w2=>rw [hr] at hs; cases hs
  have hu:∀ (s:Sem Unit),(do s; pure Next.skip:Sem Next).run P w≠.ok (.defer d) w':=fun s hs=>by
    simp only [Sem.run_bind,Sem.run_pure] at hs
    cases hr:s.run P w with
    | ok x w2=>rw [hr] at hs; cases hs
    | halt x w2=>rw [hr] at hs; cases hs
  cases ho:o.op <;> simp only [ho] at he h <;> first | exact hv _ he | exact hu _ he | (cases h; done) | (simp only [Sem.run_pure] at he; cases he)
theorem zIU {o:Op} (h:zCP o=true):∀ c,o≠.defer c:=fun c e=>by subst e; cases h
theorem zLS {G:Fence} {n:Nat} {o:Oper} (hnd:zCP o.op=true) {K:Act→World→Prop} {Q:Exit→Act→World→Prop} {D:List Deferred} (ha:a.defers=D)
    (hh:o.wpIn G n P a w K Q):o.wpIn G n P a w (fun a w=>K a w∧a.defers=D) (zKa D Q):=by
  unfold Oper.wpIn at *
  refine ⟨hh.1, ?_⟩
  have hh:=hh.2
  have hp:∀ v,(a.put o.dst v).defers=D:=fun v=>(zAF a o.dst v).trans ha
  rw [Oper.semAt_eq _ _ _ (zIU hnd)] at hh ⊢
  have nd:=zKS (P:=P) hnd a.eval w
  have lo:LetsOut Q→LetsOut (zKa D Q):=fun ⟨a,w,q⟩=>⟨a,w,q,.inl rfl⟩
  generalize (execOp a.eval o).run P w=r at *
  cases r with
  | ok x w' =>
    cases x with
    | value v=>exact ⟨hh,hp v⟩
    | skip=>exact ⟨hh,hp undef⟩
    | defer d=>exact absurd rfl (nd d w')
    | enter f args=>exact ⟨hh.1,CallsIn.mono hh.2 (fun e w'' he=>by cases e with | returned v=>exact ⟨he,hp v⟩ | panicked ch=>exact ⟨he,.inr ha⟩ | outgrown=>exact lo he)⟩
    | row f args=>exact ⟨hh.1,RowsIn.mono hh.2 (fun v _ he=>⟨he,hp v⟩)⟩
    | round l f t as b=>exact ⟨hh.1,RoundIn.mono hh.2 (fun e w'' he=>by cases e with | returned v=>exact ⟨he,hp v⟩ | panicked ch=>exact ⟨he,.inr ha⟩ | outgrown=>exact lo he)⟩
    | _=>exact hh.elim
  | halt x w'=>cases x <;> first | exact ⟨hh,.inr ha⟩ | exact hh.elim
theorem zE3 {G:Fence} {n:Nat} {ops:Array Oper} (hnd:∀ o ∈ ops.toList,zCP o.op=true) {i:Nat} {K:Act→World→Prop} {Q:Exit→Act→World→Prop} {D:List Deferred} (ha:a.defers=D)
    (hh:wpOpIn G n P ops Q i K a w):wpOpIn G n P ops (zKa D Q) i (fun a w=>K a w∧a.defers=D) a w:=by
  unfold wpOpIn at *
  cases ho:ops[i]? with
  | none=>simp only [ho] at hh ⊢; exact ⟨hh,ha⟩
  | some o =>
    simp only [ho] at hh ⊢
    have hm:=hnd o (by rw [Array.getElem?_eq_some_iff] at ho; obtain ⟨h,rfl⟩:=ho; simp)
    split
    · rename_i hw; simp only [hw,if_true] at hh; exact zLS hm ha hh
    · rename_i hw; simp only [hw] at hh; exact ⟨hh.1,hh.2,(zAF a o.dst undef).trans ha⟩
theorem zDn {G:Fence} {n:Nat} {ops:Array Oper} (hnd:∀ o ∈ ops.toList,zCP o.op=true) {Q:Exit→Act→World→Prop} {D:List Deferred}:∀ (l:List Nat) {a:Act} {w:World},a.defers=D →
    wpOpsIn G n P ops Q l a w→wpOpsIn G n P ops (zKa D Q) l a w
  | [],a,w,ha,h=>⟨h,.inr ha⟩
  | i::l,a,w,ha,h=>by
    rw [wpOpsIn_cons] at h ⊢
    exact wpOpIn_mono (fun a w h=>zDn hnd l h.2 h.1) (zE3 hnd ha h)
theorem zDm {G:Fence} {n:Nat} {md:Region.Mode} {ops:Array Oper} (hnd:∀ o ∈ ops.toList,zCP o.op=true) {Q:Exit→Act→World→Prop} {D:List Deferred}:∀ (fuel:Nat) {L:Array Bool} {a:Act} {w:World},a.defers=D →
    wpAnyIn G n P md ops Q fuel L a w→wpAnyIn G n P md ops (zKa D Q) fuel L a w
  | 0,L,a,w,ha,h=>⟨h.1,h.2,.inr ha⟩
  | fuel+1,L,a,w,ha,h=>⟨fun e=>⟨h.1 e,.inr ha⟩,fun i hi=>wpOpIn_mono (fun a w h=>zDm hnd fuel h.2 h.1) (zE3 hnd ha (h.2 i hi))⟩
theorem zJH {o:Oper} (h:zCP o.op=true) (ρ:Operand→Value) (w:World):(∃ v w',(execOp ρ o).run P w=.ok (.value v) w')∨(∃ w',(execOp ρ o).run P w=.ok .skip w')∨∃ x w',(execOp ρ o).run P w=.halt x w':=by
  unfold execOp
  have hv:∀ (s:Sem Value),(∃ v w',(do pure (Next.value (←s)):Sem Next).run P w=.ok (.value v) w')∨(∃ w',(do pure (Next.value (←s)):Sem Next).run P w=.ok .skip w')∨∃ x w',(do pure (Next.value (←s)):Sem Next).run P w=.halt x w':=fun s=>by
    simp only [Sem.run_bind,Sem.run_pure]
    cases hr:s.run P w with
    | ok x w2=>exact .inl ⟨x,w2,rfl⟩
    | halt x w2=>exact .inr (.inr ⟨x,w2,rfl⟩)
  have hu:∀ (s:Sem Unit),(∃ v w',(do s; pure Next.skip:Sem Next).run P w=.ok (.value v) w')∨(∃ w',(do s; pure Next.skip:Sem Next).run P w=.ok .skip w')∨∃ x w',(do s; pure Next.skip:Sem Next).run P w=.halt x w':=fun s=>by
    simp only [Sem.run_bind,Sem.run_pure]
    cases hr:s.run P w with
    | ok x w2=>exact .inr (.inl ⟨w2,rfl⟩)
    | halt x w2=>exact .inr (.inr ⟨x,w2,rfl⟩)
  cases ho:o.op <;> simp only [ho] at h ⊢ <;> first | exact hv _ | exact hu _ | (cases h; done) | exact .inl ⟨_,_,rfl⟩
theorem zE4 {ops:Array Oper} {Q0:Exit→Act→World→Prop} {Q:Exit→Act→List Frame→World→Prop} {cs:List Frame} {D:List Deferred} (hq:∀ e a w,Q0 e a w→a.defers=D→Q e a cs w):∀ (l:List Nat) {a:Act} {w:World},(∀ i ∈ l,∀ o,ops[i]?=some o→zCP o.op=true)→a.defers=D →
    wpOpsIn (wQ none) 0 P ops Q0 l a w→wpOpsSIn (wQ none) 0 P ops Q l a cs w
  | [],a,w,_,ha,h=>hq _ _ _ h ha
  | i::l,a,w,hl,ha,h=>by
    have ih:=fun {a:Act} {w:World}=>zE4 hq l (a:=a) (w:=w) (fun i hi=>hl i (.tail _ hi))
    simp only [wpOpsIn] at h
    simp only [wpOpsSIn]
    cases ho:ops[i]? with
    | none=>simp only [ho] at h ⊢; exact ih ha h
    | some o =>
      simp only [ho] at h ⊢
      have hm:=hl i (.head _) o ho
      refine ⟨fun _ _=>trivial, ?_⟩
      split
      · rename_i hw
        rw [if_pos hw] at h
        have h2:=h.2
        rw [Oper.semAt_eq _ _ _ (zIU hm)] at h2
        rcases zJH (P:=P) hm a.eval w with ⟨v,w',e⟩ | ⟨w',e⟩ | ⟨x,w',e⟩
        · rw [e] at h2 ⊢; exact ih ((zAF ..).trans ha) h2
        · rw [e] at h2 ⊢; exact ih ((zAF ..).trans ha) h2
        · rw [e] at h2 ⊢
          cases x with
          | panic v=>exact hq _ _ _ h2 ha
          | _=>exact h2.elim
      · rename_i hw
        rw [if_neg hw] at h
        exact ih ((zAF ..).trans ha) h.2
def zCk:Code→Bool
  | .skip=>true
  | .ret=>true
  | .seq x y=>zCk x && zCk y
  | .region _ ops _=>ops.toList.all fun o=>zCP o.op
  | .cond _ x y=>zCk x && zCk y
  | _=>false
theorem zOL {plans:Nat→Plan} {keeps:Nat→Option (List Nat)} (hm:P.follows .mixedOrders=true):∀ (c:Code),qI P plans c=true→zCk c=true→∀ {Q:Post} {F:Nat→A} {H:Heap},svc P V N (toS plans keeps c) Q F H →
    ∀ ds Z a w,St V N ds Z F H a w→c.wpIn (wQ none) 0 P (zKa a.defers (Behind V N ds Z H w Q)) a w:=by
  intro c
  induction c with
  | skip=>intro _ _ Q F H h ds Z a w s; exact wpIn_skip ⟨⟨Z,F,H,s,.refl Z H w,h⟩,.inr rfl⟩
  | ret=>intro _ _ Q F H h ds Z a w s; exact wpIn_ret ⟨⟨Z,F,H,s,.refl Z H w,h⟩,.inr rfl⟩
  | seq x y ihx ihy =>
    intro hp hn Q F H h ds Z a w s
    simp only [qI,Bool.and_eq_true] at hp
    simp only [zCk,Bool.and_eq_true] at hn
    refine wpIn_seq (wpIn_mono (ihx hp.1 hn.1 h ds Z a w s) ?_)
    rintro e a' w' ⟨⟨Z',F',H',st,x,q⟩,hd⟩
    cases e with
    | normal =>
      have hd':a'.defers=a.defers:=hd.resolve_left (by simp)
      refine wpIn_mono (ihy hp.2 hn.2 q ds Z' a' w' st) fun _ _ _ hb=>⟨hb.1.step s.mem.zlt x,hb.2.imp id fun e=>e.trans hd'⟩
    | exit id=>exact ⟨⟨Z',F',H',st,x,q⟩,hd⟩
    | goto l=>exact ⟨⟨Z',F',H',st,x,q⟩,hd⟩
    | ret=>exact ⟨⟨Z',F',H',st,x,q⟩,hd⟩
    | panic ch=>exact ⟨⟨Z',F',H',st,x,q⟩,hd⟩
    | outgrown=>exact ⟨⟨Z',F',H',st,x,q⟩,hd⟩
  | region id ops b =>
    intro hp hn Q F H h ds Z a w s
    have hnd:∀ o ∈ ops.toList,zCP o.op=true:=List.all_eq_true.1 hn
    cases b with
    | false =>
      simp only [toS,svc,zET,List.map_map] at h
      have s1:=s.le (zDA F (keeps id)) (.refl H)
      refine wpIn_region (zDn hnd _ rfl (zAB (List.range ops.size) ops.toList ?_ s1 h ?_ ?_))
      · apply List.ext_getElem
        · simp
        · intro j h1 h2; simp at h1; simp [h1]
      · intro F' Z' H' a' w' s' x' q
        exact ⟨Z',F',H',s',x',q⟩
      · intro v F' Z' H' a' w' s' f' x' q
        exact ⟨Z',_,H',s'.le f' (.refl _),x',q⟩
    | true =>
      simp only [qI,Bool.and_eq_true] at hp
      simp only [toS,svc,zBz _ hp.2] at h
      have s0:=s.le (zDA F (keeps id)) (.refl H)
      refine wpIn_region_any hm (zDm hnd _ rfl ?_)
      obtain ⟨m',x',k⟩:=s0.mem.drew
      have s':St V N ds Z (zGX F (keeps id)) H a w.drew:=⟨s0.defers.keep k,s0.size,fun i hi=>(s0.slots i hi).keep k,m'⟩
      have hsz:(Array.replicate ops.size false).size=ops.size:=by simp
      have hget:∀ i,(Array.replicate ops.size false).getD i false=false:=by
        intro i
        simp only [Array.getD_eq_getD_getElem?,Array.getElem?_replicate]
        split <;> rfl
      refine zFt (plans id).sz (plans id) (Nat.le_refl _) hp.1.1 hp.1.2 h ops.size ?_ ⟨hsz, ?_, ?_, ?_,trivial, ?_,_,s',fun _ _=>rfl⟩ ?_ ?_
      · unfold remN
        exact Nat.le_trans List.countP_le_length (by simp)
      · intro i hi; rw [hget] at hi; cases hi
      · intro i hi; simp at hi
      · intro i hi; rw [hget] at hi; cases hi
      · intro i hi; simp at hi
      · intro F' Z' H' a' w' st x2 q
        exact ⟨Z',F',H',st,x'.trans s.mem.zlt x2,q⟩
      · intro v F' Z' H' a' w' st x2 q
        exact ⟨Z',_,H',st.blank,x'.trans s.mem.zlt x2,q⟩
  | cond c x y ihx ihy =>
    intro hp hn Q F H h ds Z a w s
    simp only [qI,Bool.and_eq_true] at hp
    simp only [zCk,Bool.and_eq_true] at hn
    simp only [toS,svc] at h
    split at h
    · rename_i b hb
      have rb:=xM s c
      rw [hb] at rb
      have hv:a.eval c=.bool b:=by
        generalize a.eval c=v at rb
        cases rb with | d _ _ r=>cases r; rfl
      refine wpIn_cond hv ?_
      cases b with
      | true=>exact ihx hp.1 hn.1 (by simpa using h) ds Z a w s
      | false=>exact ihy hp.2 hn.2 (by simpa using h) ds Z a w s
    · exact h.elim
  | _=>intro _ hn; simp [zCk] at hn
def recC:Code→Bool
  | .seq (.region _ ops false) y=>((ops.toList.drop 2).all fun o=>zCP o.op) && zCk y
  | _=>false
theorem RecD.by {g d1 d2:Nat} {S T:TypeId} {ts:Array TypeId} {kk:Option (List Nat)} {os:List SOper} {X:SCode} {caps:List A} {u:Value} {x:A} {H2:Heap} (hm:P.follows .mixedOrders=true)
    (hf:FnIs P g N [] (.seq (.reg kk ({ dst:=some d1,gd:=none,op:=.call { callee:=.builtin .recover,args:=#[],argTypes:=ts } }::{ dst:=some d2,gd:=none,op:=.typeAssert (.tmp d1) S T true }::os)) X))
    (hc:((P.funcs[g]?).bind fun fn=>fn.body).map recC=some true) (hn:caps.length≤N) (h1:d1 < N) (h2:d2 < N)
    (hv:∀ w,(Instr.typeAssert (.iface T u) S T true).run P w=.ok (.tuple #[u,.bool true]) w) (hu:∀ w Z,RepA V w Z (.tuple #[u,.bool true]) x)
    (h:sops P V N os (updF (updF (zBI caps) d1 .undef) d2 x) H (fun F H=>svc P V N X (sret P V N [] fun _ H'=>H'=H2) F H) fun _ _=>False):RecD P V g caps H (.iface T u) H2:=by
  obtain ⟨fn,plans,keeps,c,k1,rfl,hrs,k4,k5,k6⟩:=hf
  obtain ⟨c1,c2,rfl,e1,e2⟩:=zAX k6
  obtain ⟨id,ops,rfl,e3⟩:=zIn e1
  rw [k1] at hc
  simp only [Option.bind_some,k4,Option.map_some,Option.some.injEq,recC,Bool.and_eq_true] at hc
  obtain ⟨hc1,hc2⟩:=hc
  simp only [qI,Bool.and_eq_true] at k5
  subst e2
  intro Z w cv hl hr m
  refine callsDIn_of_wpSIn k1 k4 trivial fun c₀ cs hmode=>?_
  have st:=St.first hn hl hr m
  apply wpSIn_seq
  apply wpSIn_region
  obtain ⟨l⟩:=ops
  match l,e3 with
  | o1::o2::tl,e3 =>
    simp only [List.map_cons,List.cons.injEq,short,SOper.mk.injEq] at e3
    obtain ⟨⟨a1,a2,a3⟩,⟨b1,b2,b3⟩,e4⟩:=e3
    have g1:o1.guard=none:=by simpa using a2
    have g2:o2.guard=none:=by simpa using b2
    have hrg:List.range (Array.mk (o1::o2::tl)).size=0::1::(List.range tl.length).map (·+2):=by
      show List.range (tl.length+1+1)=_
      simp [List.range_succ_eq_map,Function.comp_def]
    have e0:(Array.mk (o1::o2::tl))[0]?=some o1:=rfl
    have e1':(Array.mk (o1::o2::tl))[1]?=some o2:=rfl
    have w1:∀ y,Region.wanted o1 y=true:=fun y=>by unfold Region.wanted; rw [g1]
    have w2:∀ y,Region.wanted o2 y=true:=fun y=>by unfold Region.wanted; rw [g2]
    have hrec:recoverD (c₀::cs)=some (.iface T u,{ c₀ with mode:=.panicking [{ v:=.iface T u,recovered:=true }] }::cs):=by simp [recoverD,hmode]
    rw [hrg]
    simp only [wpOpsSIn,e0,e1',w1,w2,if_true]
    refine ⟨fun _ _=>trivial, ?_⟩
    have x1:∀ ρ:Operand→Value,(execOp ρ o1).run P w=.ok .recover w:=fun ρ=>by
      unfold execOp
      rw [a3]
      simp [resolve,invoke,builtin]
    rw [x1]
    simp only [hrec]
    rw [a1]
    have s1:=st.put (o:=some d1) (x:=.undef) (v:=.iface T u) (st.mem.keeps (Ext.refl Z H w)) st.mem (.undef _)
    refine ⟨fun _ _=>trivial, ?_⟩
    have ev1:∀ (b:Act),b.tmps.size=fn.ntmps→(b.put (some d1) (.iface T u)).eval (.tmp d1)=.iface T u:=fun b hb=>by
      have hsz:d1 < b.tmps.size:=by rw [hb]; exact h1
      simp [Act.put,Act.eval,hsz]
    have x2:(execOp (Act.put { tmps:=cv.toArray++Array.replicate (fn.ntmps - cv.toArray.size) undef,defers:=[] } (some d1) (.iface T u)).eval o2).run P w=.ok (.value (.tuple #[u,.bool true])) w:=by
      unfold execOp
      rw [b3]
      simp only [ev1 _ st.size,Sem.run_bind,hv,Result.andThen_ok,Sem.run_pure]
    rw [x2]
    simp only []
    rw [b1]
    have s2:=s1.put (o:=some d2) (x:=x) (v:=.tuple #[u,.bool true]) (st.mem.keeps (Ext.refl Z H w)) st.mem (hu w Z)
    have hnd:∀ o ∈ tl,zCP o.op=true:=by simpa using hc1
    have hidx:∀ i ∈ (List.range tl.length).map (·+2),∀ o,(Array.mk (o1::o2::tl))[i]?=some o→zCP o.op=true:=by
      intro i hi o ho
      obtain ⟨j,hj,rfl⟩:=List.mem_map.1 hi
      have hj':=List.mem_range.1 hj
      have:(Array.mk (o1::o2::tl))[j+2]?=tl[j]?:=by simp
      rw [this] at ho
      exact hnd o (List.mem_of_getElem? ho)
    refine zE4 (Q0:=fun e a' w'=>(e=.normal∧∃ Z' F' H',St V fn.ntmps ⟨[],w.heap.size⟩ Z' F' H' a' w'∧Ext Z H w Z' H' w'∧svc P V fn.ntmps (toS plans keeps c2) (sret P V fn.ntmps [] fun _ H'=>H'=H2) F' H')) (D:=[]) ?_ _ hidx rfl ?_
    · rintro e a' w' ⟨rfl, Z', F', H', s', x', q⟩ hd
      refine wpSIn_of_wpIn rfl (wpIn_mono (zOL hm c2 k5.2 hc2 q _ Z' a' w' s') ?_)
      rintro e a3 w3 ⟨⟨Z3,F3,H3,s3,x3,q3⟩,hd3⟩
      have fin:(e=.normal∨e=.ret)→sret P V fn.ntmps [] (fun _ H'=>H'=H2) .normal F3 H3→a3.defers=[]∧∃ u',({ c₀ with mode:=.panicking [{ v:=.iface T u,recovered:=true }] }::cs)={ c₀ with mode:=u' }::cs∧∃ v,(results fn a3.tmps).run P w3=.ok v w3 ∧
          ((Ending.returned v)=.returned (.tuple #[])∧u'=.panicking [{ v:=.iface T u,recovered:=true }]∧∃ Z',Mem V Z' H2 w3∧Ext Z H w Z' H2 w3):=by
        intro he q3
        refine ⟨?_,_,rfl, ?_⟩
        · have := hd3.resolve_left (by rcases he with rfl | rfl <;> simp)
          rw [this,hd]
        · obtain ⟨vv, hvv, rvv⟩ := zAb s3 (rs := []) (by rw [hrs]; rfl)
          obtain ⟨r',Z6,H6,r6,m6,x6,hK⟩:=q3 Z3 w3 vv rvv s3.mem
          subst hK
          have hvt:vv=.tuple #[]:=by
            have rvv':RepA V w3 Z3 vv (.tup []):=rvv
            cases rvv' with
            | tup cv _ hl _ =>
              have:cv=[]:=List.length_eq_zero_iff.1 hl
              rw [this]
          exact ⟨vv,hvv,by rw [hvt],rfl,Z6,m6,(x'.trans m.zlt x3).trans m.zlt x6⟩
      cases e with
      | normal=>exact fin (.inl rfl) q3
      | ret=>exact fin (.inr rfl) q3
      | _=>exact q3.elim
    · rw [← e4, zET] at h
      refine zAB _ tl ?_ s2 h ?_ fun _ _ _ _ _ _ _ _ _ hk=>hk.elim
      · apply List.ext_getElem
        · simp
        · intro j j1 j2
          simp only [List.length_map,List.length_range] at j1
          simp [j1]
      · intro F' Z' H' a' w' s' x' q
        exact ⟨rfl,Z',F',H',s',x',q⟩
  | [],e3=>simp at e3
  | [_],e3=>simp at e3
theorem RecD.le {g:FuncId} {caps:List A} {v:Value} {G H2:Heap} (h:RecD P V g caps G v H2) (hG:LeH G H):RecD P V g caps H v H2:=fun Z w cv hl hr m =>
  (h Z w cv hl hr (m.le hG)).mono fun _ _ _ ⟨a,b,Z',m',x⟩=>⟨a,b,Z',m',x.le hG⟩
theorem zJP {d1 d2:Nat} {os:List SOper} {X:SCode} {caps:List A} {x:A} {Q:Post}
    (h:letA (numb 0 caps) (hid (fun l=>sops P V N os (mkF ((d2,x)::(d1,.undef)::l)) H (hid (fun F H=>svc P V N X Q F H) ⟨⟩) (hid (fun _ _=>False) ⟨⟩)) ⟨⟩)):sops P V N os (updF (updF (zBI caps) d1 .undef) d2 x) H (fun F H=>svc P V N X Q F H) fun _ _=>False:=by
  rw [zFi,zJi,zJi]; exact h
def recQ (P:Program) (V:Env) (N:Nat) (X4:SCode) (rs:List ResultVar) (g:FuncId) (caps:Array Operand) (s:Nat) (K:A→Heap→Prop):Post
  | .normal,F,H=>svc P V N X4 (zIi P V N rs g (caps.toList.map (ev V N F)) K) (updF F s (.func g (caps.toList.map (ev V N F)))) H
  | e,F,H=>sret P V N rs K e F H
section
variable {X4:SCode} {rs:List ResultVar} {g s:Nat} {caps:Array Operand} {cs:List A} {K:A→Heap→Prop} {v:Value}
@[go_sem] theorem zQP:recQ P V N X4 rs g caps s K .normal F H=letA (caps.toList.map (ev V N F)) (hid (fun l=>svc P V N X4 (zIi P V N rs g l K) (updF F s (.func g l)) H) ⟨⟩):=Eq.trans rfl rfl
@[go_sem] theorem zWQ:recQ P V N X4 rs g caps s K .ret F H=sret P V N rs K .ret F H:=Eq.trans rfl rfl
@[go_sem] theorem zVd:zIi P V N rs g cs K .ret F H=sret P V N rs K .ret F H:=Eq.trans rfl rfl
theorem zIj (H2:Heap) (h:RecD P V g cs H v H2) (k:zR (vJ P V N F H2 rs) (hid (fun l=>letA (jL l) (hid (fun r=>retW V r H2 K) ⟨⟩)) ⟨⟩)):zIi P V N rs g cs K (.panic [{ v,recovered:=false }]) F H:=by
  refine ⟨H2,h, ?_⟩
  simp only [zR,letA,hid] at k
  cases hr:vJ P V N F H2 rs with
  | none=>rw [hr] at k; exact k
  | some l=>rw [hr] at k; exact k
@[go_sem] theorem zVK {l:List (Option Tmp)} {i:Nat}:zEj F l i=cnd (wrD l i) .undef (hid (F i) ⟨⟩):=by unfold zEj cnd; cases wrD l i <;> rfl
@[go_sem] theorem zX7 {i:Nat}:wrD [] i=false:=Eq.trans rfl rfl
@[go_sem] theorem zW5 {l:List (Option Tmp)} {i:Nat}:wrD (none::l) i=wrD l i:=Eq.trans rfl rfl
@[go_sem] theorem zW6 {l:List (Option Tmp)} {d i:Nat}:wrD (some d::l) i=cnd (i == d) true (hid (wrD l i) ⟨⟩):=by unfold cnd wrD; cases i == d <;> rfl
theorem ACall.rescuedQ {f:FuncId} {X1 X2 X3:SCode} {kk:Option (List Nat)} {args:List A} (hm:P.follows .mixedOrders=true)
    (hf:FnIs P f N rs (.seq X1 (.seq X2 (.seq X3 (.seq (.reg kk [{ dst:=some s,gd:=none,op:=.makeFunc (.func g) #[] caps },{ dst:=none,gd:=none,op:=.defer { callee:=.value (.tmp s),args:=#[],argTypes:=#[] } }]) X4)))))
    (hn:args.length≤N) (hs:s < N) (hi:∀ cv w1,(invoke (.fn (.func g) cv) #[]).run P w1=.ok (.enter g cv) w1) (idle:zHC P caps.size g)
    (h:svc P V N (.seq X1 (.seq X2 X3)) (recQ P V N X4 rs g caps s K) (zBI args) H):ACall P V f args H K:=by
  refine ACall.rescued hm hf hn hs hi idle ?_
  refine (congrArg (fun Q=>svc P V N (.seq X1 (.seq X2 X3)) Q (zBI args) H) (?_:recQ P V N X4 rs g caps s K=_)).mp h
  funext e F H; cases e <;> rfl
end
def sfst:SCode→SCode
  | .seq x _=>x
  | x=>x
def ssnd:SCode→SCode
  | .seq _ y=>y
  | x=>x
def sopL:SCode→List SOper
  | .reg _ l=>l
  | _=>[]
def skp:SCode→Option (List Nat)
  | .reg k _=>k
  | _=>none
end
end Go.Aug
