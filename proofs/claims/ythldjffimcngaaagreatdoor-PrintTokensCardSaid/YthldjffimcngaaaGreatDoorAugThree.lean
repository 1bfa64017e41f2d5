/- The abstract layer: abstract values and heaps, what code does to them, the conditions of its operations as equations; no conditions of its own. -/
import Derived.Test.YthldjffimcngaaaGreatDoorAugTwo
import Derived.Attr
set_option linter.all false
set_option linter.unusedVariables false
set_option linter.unusedSimpArgs false
set_option linter.unusedSectionVars false

/-
  The abstract layer, part T: the conditions of code, said so that they can be reckoned out step by step.
-/
set_option linter.unusedSimpArgs false
namespace Go.Aug
universe u v
def szs (sz : Nat) (ds : List D) : Prop := ∀ d ∈ ds, d.cells.length = sz
@[go_sem] theorem szs_nil {sz : Nat} : szs sz [] = True := by simp [szs]
@[go_sem] theorem szs_cons {sz : Nat} {d : D} {ds : List D} : szs sz (d :: ds) = (d.cells.length = sz ∧ szs sz ds) := by simp [szs]
@[go_sem] theorem szs_app {sz : Nat} {ds es : List D} : szs sz (ds ++ es) = (szs sz ds ∧ szs sz es) := by
  simp only [szs, List.mem_append, eq_iff_iff]
  exact ⟨fun h => ⟨fun d hd => h d (.inl hd), fun d hd => h d (.inr hd)⟩, fun h d hd => hd.elim (h.1 d) (h.2 d)⟩
inductive Lk {α : Sort u} (a : α) : Type where
  | mk
def hid {α : Sort u} (a : α) (_ : Lk a) : α := a
@[go_sem] theorem hid_app {α : Sort u} {β : Sort v} {f : α → β} {l : Lk f} {x : α} : hid f l x = f x := Eq.trans rfl rfl
@[go_sem] theorem gif_true_hid {x y : Prop} {l : Lk x} : gif true (hid x l) y = x := gif_true
@[go_sem] theorem gif_false_hid {x y : Prop} {l : Lk y} : gif false x (hid y l) = y := gif_false
theorem gif_split {b : Bool} {x y : Prop} {l : Lk x} {l' : Lk y} (h1 : b = true → x) (h2 : b = false → y) : gif b (hid x l) (hid y l') := gif_intro h1 h2
def cnd {α : Type} (b : Bool) (x y : α) : α := if b = true then x else y
@[go_sem] theorem cnd_true {α : Type} {x y : α} : cnd true x y = x := Eq.trans rfl rfl
@[go_sem] theorem cnd_false {α : Type} {x y : α} {l : Lk y} : cnd false x (hid y l) = y := Eq.trans rfl rfl
def onSome {α : Type} (o : Option α) (K : α → Prop) : Prop := match o with
  | some x => K x
  | none => False
@[go_sem] theorem onSome_some {α : Type} {x : α} {K : α → Prop} : onSome (some x) K = K x := Eq.trans rfl rfl
def letA {α : Type} (x : α) (K : α → Prop) : Prop := K x
@[go_sem] theorem letA_eq {α : Type} {x : α} {K : α → Prop} : letA x K = K x := Eq.trans rfl rfl
def onVar (o : Option AObj) (K : List A → Prop) : Prop := match o with
  | some (.var cs) => K cs
  | _ => False
@[go_sem] theorem onVar_var {cs : List A} {K : List A → Prop} : onVar (some (.var cs)) K = K cs := Eq.trans rfl rfl
def onArr (o : Option AObj) (v : Value) (K : TypeId → Nat → List D → Prop) (L : List D → Prop) : Prop := match o with
  | some (.arr E sz v' ds) => v' = v ∧ K E sz ds
  | some (.frz v' ds) => v' = v ∧ L ds
  | _ => False
@[go_sem] theorem onArr_arr {E : TypeId} {sz : Nat} {v : Value} {ds : List D} {K : TypeId → Nat → List D → Prop} {L : List D → Prop} : onArr (some (.arr E sz v ds)) v K L = K E sz ds := by simp [hid, szs, onArr]
@[go_sem] theorem onArr_frz {v : Value} {ds : List D} {K : TypeId → Nat → List D → Prop} {L : List D → Prop} : onArr (some (.frz v ds)) v K L = L ds := by simp [hid, szs, onArr]
def onBool (x : A) (K : Bool → Prop) : Prop := match x with
  | .d (.bool b) => K b
  | _ => False
@[go_sem] theorem onBool_bool {b : Bool} {K : Bool → Prop} : onBool (.d (.bool b)) K = K b := Eq.trans rfl rfl
def onInt (x : A) (K : Int → Prop) : Prop := intA x K
@[go_sem] theorem onInt_int {k : IntKind} {n : Int} {K : Int → Prop} : onInt (.d (.int k n)) K = K n := Eq.trans rfl rfl
def onTup (x : A) (K : List A → Prop) : Prop := match x with
  | .tup vs => K vs
  | _ => False
@[go_sem] theorem onTup_tup {vs : List A} {K : List A → Prop} : onTup (.tup vs) K = K vs := Eq.trans rfl rfl
def andK (p : Prop) (q : Prop) : Prop := p ∧ q
@[go_sem] theorem andK_true {q : Prop} {l : Lk q} : andK True (hid q l) = q := by simp [hid, szs, andK, hid]
theorem andK_split {p q : Prop} {l : Lk q} (h : p) (k : q) : andK p (hid q l) := ⟨h, k⟩
def pick (F : Nat → A) : List Nat → List (Nat × A)
  | [] => []
  | s :: l => (s, F s) :: pick F l
@[go_sem] theorem pick_nil {F : Nat → A} : pick F [] = [] := Eq.trans rfl rfl
@[go_sem] theorem pick_cons {F : Nat → A} {s : Nat} {l : List Nat} : pick F (s :: l) = (s, F s) :: pick F l := Eq.trans rfl rfl
theorem keepL_pick (F : Nat → A) : ∀ l, keepL F l = mkF (pick F l)
  | [] => rfl
  | s :: l => by
    funext i
    simp only [hid, szs, keepL, updF, pick, mkF, keepL_pick F l]
@[go_sem] theorem mkF_cons {s : Nat} {x : A} {l : List (Nat × A)} {i : Nat} : mkF ((s, x) :: l) i = cnd (i == s) x (hid (mkF l i) ⟨⟩) := by simp [hid, szs, mkF, cnd, hid]
@[go_sem] theorem updF_mkF {l : List (Nat × A)} {s : Nat} {x : A} : updF (mkF l) s x = mkF ((s, x) :: l) := Eq.trans rfl rfl
@[go_sem] theorem putF_some {F : Nat → A} {s : Nat} {x : A} : putF F (some s) x = updF F s x := Eq.trans rfl rfl
@[go_sem] theorem putF_none {F : Nat → A} {x : A} : putF F none x = F := Eq.trans rfl rfl
section
variable {P : Program} {V : Env} {N : Nat} {F : Nat → A} {H : Heap} {Q : Post} {K : A → Heap → Prop} {KF : (Nat → A) → Heap → Prop} {KP : Value → Heap → Prop}
@[go_sem] theorem svc_skip : svc P V N .skip Q F H = Q .normal F H := Eq.trans rfl rfl
@[go_sem] theorem svc_reg {k : List Nat} {ops : List SOper} : svc P V N (.reg (some k) ops) Q F H = letA (pick F k) (hid (fun l => sops P V N ops (mkF l) H (hid (fun F H => Q .normal F H) ⟨⟩) (hid (panQ Q (maskD (mkF l) (ops.map (·.dst)))) ⟨⟩)) ⟨⟩) := by
  simp only [hid, szs, svc, letA, keepF, keepL_pick]
@[go_sem] theorem svc_dreg {k : List Nat} {p : SPlan} : svc P V N (.dreg (some k) p) Q F H = letA (pick F k) (hid (fun l => sdops P V N p (mkF l) H (hid (fun F H => Q .normal F H) ⟨⟩) (hid (panQ Q fun _ => .undef) ⟨⟩)) ⟨⟩) := by
  simp only [hid, szs, svc, letA, keepF, keepL_pick]
@[go_sem] theorem svc_seq {x y : SCode} : svc P V N (.seq x y) Q F H = svc P V N x (thenQ (hid (fun F H => svc P V N y Q F H) ⟨⟩) Q) F H := Eq.trans rfl rfl
@[go_sem] theorem svc_cond {c : Operand} {x y : SCode} : svc P V N (.cond c x y) Q F H = onBool (ev V N F c) (hid (fun b => gif b (hid (svc P V N x Q F H) ⟨⟩) (hid (svc P V N y Q F H) ⟨⟩)) ⟨⟩) := by
  simp only [hid, szs, svc, onBool]
  generalize ev V N F c = u
  rcases u with _ | x | _ | _ | _ | _ | _ | _ | _ | _ | _ <;> rfl
@[go_sem] theorem svc_block {id : Nat} {c : SCode} : svc P V N (.block id c) Q F H = svc P V N c (inBlockQ id Q) F H := Eq.trans rfl rfl
@[go_sem] theorem svc_exit {id : Nat} : svc P V N (.exit id) Q F H = Q (.exit id) F H := Eq.trans rfl rfl
@[go_sem] theorem svc_ret : svc P V N .ret Q F H = Q .ret F H := Eq.trans rfl rfl
@[go_sem] theorem thenQ_normal : thenQ KF Q .normal F H = KF F H := Eq.trans rfl rfl
@[go_sem] theorem thenQ_ret : thenQ KF Q .ret F H = Q .ret F H := Eq.trans rfl rfl
@[go_sem] theorem thenQ_exit {id : Nat} : thenQ KF Q (.exit id) F H = Q (.exit id) F H := Eq.trans rfl rfl
@[go_sem] theorem inBlockQ_normal {id : Nat} : inBlockQ id Q .normal F H = Q .normal F H := Eq.trans rfl rfl
@[go_sem] theorem inBlockQ_ret {id : Nat} : inBlockQ id Q .ret F H = Q .ret F H := Eq.trans rfl rfl
@[go_sem] theorem inBlockQ_same {id : Nat} : inBlockQ id Q (.exit id) F H = Q .normal F H := by simp [hid, szs, inBlockQ]
@[go_sem] theorem inBlockQ_other {id id' : Nat} (h : (id' == id) = false) : inBlockQ id Q (.exit id') F H = Q (.exit id') F H := by
  have : id' ≠ id := by simpa using h
  simp [hid, szs, inBlockQ, this]
@[go_sem] theorem sret_ret {rs : List ResultVar} : sret P V N rs K .ret F H = onSome (resAll P V N F H rs) (hid (fun l => letA (tupled l) (hid (fun r => retW V r H K) ⟨⟩)) ⟨⟩) := by
  simp only [hid, szs, sret, onSome, letA]; cases resAll P V N F H rs <;> rfl
@[go_sem] theorem sret_normal {rs : List ResultVar} : sret P V N rs K .normal F H = onSome (resAll P V N F H rs) (hid (fun l => letA (tupled l) (hid (fun r => retW V r H K) ⟨⟩)) ⟨⟩) := by
  simp only [hid, szs, sret, onSome, letA]; cases resAll P V N F H rs <;> rfl
@[go_sem] theorem sretP_ret {rs : List ResultVar} : sretP P V N rs K KP .ret F H = onSome (resAll P V N F H rs) (hid (fun l => letA (tupled l) (hid (fun r => retW V r H K) ⟨⟩)) ⟨⟩) := by
  simp only [hid, szs, sretP, onSome, letA]; cases resAll P V N F H rs <;> rfl
@[go_sem] theorem sretP_normal {rs : List ResultVar} : sretP P V N rs K KP .normal F H = onSome (resAll P V N F H rs) (hid (fun l => letA (tupled l) (hid (fun r => retW V r H K) ⟨⟩)) ⟨⟩) := by
  simp only [hid, szs, sretP, onSome, letA]; cases resAll P V N F H rs <;> rfl
@[go_sem] theorem sretP_panic {rs : List ResultVar} {v : Value} : sretP P V N rs K KP (.panic [{ v, recovered := false }]) F H = panW V H (KP v) := Eq.trans rfl rfl
@[go_sem] theorem thenQ_panic {ch : List PanicEntry} : thenQ KF Q (.panic ch) F H = Q (.panic ch) F H := Eq.trans rfl rfl
@[go_sem] theorem inBlockQ_panic {id : Nat} {ch : List PanicEntry} : inBlockQ id Q (.panic ch) F H = Q (.panic ch) F H := Eq.trans rfl rfl
@[go_sem] theorem hid_panQ {v : Value} {M : Nat → A} {l : Lk (panQ Q M)} : hid (panQ Q M) l v H = Q (.panic [{ v, recovered := false }]) M H := Eq.trans rfl rfl
@[go_sem] theorem tupled_one {x : A} : tupled [x] = x := Eq.trans rfl rfl
@[go_sem] theorem tupled_none : tupled [] = .tup [] := Eq.trans rfl rfl
@[go_sem] theorem tupled_more {x y : A} {l : List A} : tupled (x :: y :: l) = .tup (x :: y :: l) := Eq.trans rfl rfl
@[go_sem] theorem resAll_nil : resAll P V N F H [] = some [] := Eq.trans rfl rfl
def consO {α : Type} : Option α → Option (List α) → Option (List α)
  | some x, some l => some (x :: l)
  | _, _ => none
@[go_sem] theorem consO_some {α : Type} {x : α} {l : List α} : consO (some x) (some l) = some (x :: l) := Eq.trans rfl rfl
@[go_sem] theorem resAll_cons {r : ResultVar} {rs : List ResultVar} : resAll P V N F H (r :: rs) = consO (resOf P V N F H r) (resAll P V N F H rs) := by
  simp only [hid, szs, resAll]; cases resOf P V N F H r <;> cases resAll P V N F H rs <;> rfl
@[go_sem] theorem resOf_tmp {t : Nat} : resOf P V N F H (.tmp t) = some (ev V N F (.tmp t)) := Eq.trans rfl rfl
@[go_sem] theorem sops_nil : sops P V N [] F H KF KP = KF F H := Eq.trans rfl rfl
@[go_sem] theorem sops_cons {o : SOper} {rest : List SOper} : sops P V N (o :: rest) F H KF KP =
    sguard N F o (hid (aopO P V N o.op F H (hid (fun x H' => sops P V N rest (putF F o.dst x) H' KF KP) ⟨⟩) KP) ⟨⟩) (hid (sops P V N rest (putF F o.dst (.tup [])) H KF KP) ⟨⟩) := Eq.trans rfl rfl
@[go_sem] theorem sdops_done : sdops P V N .done F H KF KP = KF F H := Eq.trans rfl rfl
@[go_sem] theorem sdops_fl {o : SOper} {rest : SPlan} : sdops P V N (.fl o rest) F H KF KP =
    sguard N F o (hid (aopO P V N o.op F H (hid (fun x H' => sdops P V N rest (putF F o.dst x) H' KF KP) ⟨⟩) KP) ⟨⟩) (hid (sdops P V N rest (putF F o.dst (.tup [])) H KF KP) ⟨⟩) := Eq.trans rfl rfl
@[go_sem] theorem sdops_eff {o : SOper} {chk : List SOper} {rest : SPlan} : sdops P V N (.eff o chk rest) F H KF KP =
    sguard N F o (hid (aopO P V N o.op F H (hid (fun x H' => sagain P V N (putF F o.dst x) H' chk ∧ sdops P V N rest (putF F o.dst x) H' KF KP) ⟨⟩) KP) ⟨⟩) (hid (sdops P V N rest (putF F o.dst (.tup [])) H KF KP) ⟨⟩) := Eq.trans rfl rfl
@[go_sem] theorem sdops_both {p q : SPlan} : sdops P V N (.both p q) F H KF KP = (sdops P V N p F H KF KP ∧ sdops P V N q F H KF KP) := Eq.trans rfl rfl
def sgd (d : Bool) (x : A) (want : Bool) (yes no : Prop) : Prop := if d = true then match x with
    | .d (.bool b) => match want with
      | true => gif b yes no
      | false => gif b no yes
    | .tup [] => no
    | _ => False
  else False
@[go_sem] theorem sgd_skip {want : Bool} {yes no : Prop} {l : Lk no} : sgd true (.tup []) want yes (hid no l) = no := Eq.trans rfl rfl
@[go_sem] theorem sgd_true {b : Bool} {yes no : Prop} : sgd true (.d (.bool b)) true yes no = gif b yes no := Eq.trans rfl rfl
@[go_sem] theorem sgd_false {b : Bool} {yes no : Prop} : sgd true (.d (.bool b)) false yes no = gif b no yes := Eq.trans rfl rfl
@[go_sem] theorem sguard_none {dst : Option Tmp} {op : Op} {yes no : Prop} {l : Lk yes} : sguard N F { dst := dst, gd := none, op := op } (hid yes l) no = yes := Eq.trans rfl rfl
@[go_sem] theorem sguard_some {dst : Option Tmp} {op : Op} {d : Nat} {want : Bool} {yes no : Prop} : sguard N F { dst := dst, gd := some (some d, want), op := op } yes no = sgd (decide (d < N)) (F d) want yes no := by
  simp only [hid, szs, sguard, sgd, onBool, decide_eq_true_eq]
  generalize F d = u
  cases u <;> first | rfl | (rename_i l; cases l <;> rfl)
@[go_sem] theorem ev_tmp {t : Nat} : ev V N F (.tmp t) = cnd (decide (t < N)) (F t) .undef := by simp [hid, szs, ev, cnd]
@[go_sem] theorem ev_const {v : Value} : ev V N F (.const v) = constA v := Eq.trans rfl rfl
@[go_sem] theorem ev_func {f : FuncId} : ev V N F (.func f) = .func f [] := Eq.trans rfl rfl
def globA : Option D → A
  | some x => .imm [x]
  | none => .undef
@[go_sem] theorem ev_global {g : Nat} : ev V N F (.global g) = globA (V.G g) := by simp only [hid, szs, ev]; cases V.G g <;> rfl
@[go_sem] theorem globA_some {x : D} : globA (some x) = .imm [x] := Eq.trans rfl rfl
@[go_sem] theorem constA_int {k : IntKind} {n : Int} : constA (.int k n) = .d (.int k n) := Eq.trans rfl rfl
@[go_sem] theorem constA_bool {b : Bool} : constA (.bool b) = .d (.bool b) := Eq.trans rfl rfl
@[go_sem] theorem constA_string {s : ByteArray} : constA (.string s) = .d (.str s) := Eq.trans rfl rfl
@[go_sem] theorem constA_slice : constA (.slice none 0 0) = .nils := Eq.trans rfl rfl
@[go_sem] theorem constA_ptr : constA (.pointer none) = .d (.raw (.pointer none)) := Eq.trans rfl rfl
@[go_sem] theorem constA_iface : constA .nilIface = .d (.raw .nilIface) := Eq.trans rfl rfl
def cvSel (b : Bool) (p q : Prop) : Prop := match b with
  | true => p
  | false => q
@[go_sem] theorem cvSel_true {p q : Prop} {l : Lk p} : cvSel true (hid p l) q = p := Eq.trans rfl rfl
@[go_sem] theorem cvSel_false {p q : Prop} {l : Lk q} : cvSel false p (hid q l) = q := Eq.trans rfl rfl
@[go_sem] theorem aopO_move {x : Operand} : aopO P V N (.move x) F H K KP = letA (ev V N F x) (hid (fun y => K y H) ⟨⟩) := Eq.trans rfl rfl
@[go_sem] theorem aopO_assign {x : Operand} : aopO P V N (.assign x) F H K KP = letA (ev V N F x) (hid (fun y => K y H) ⟨⟩) := Eq.trans rfl rfl
@[go_sem] theorem aopO_pick {c x y : Operand} : aopO P V N (.pick c x y) F H K KP = onBool (ev V N F c) (hid (fun b => gif b (hid (letA (ev V N F x) (hid (fun z => K z H) ⟨⟩)) ⟨⟩) (hid (letA (ev V N F y) (hid (fun z => K z H) ⟨⟩)) ⟨⟩)) ⟨⟩) := by
  simp only [hid, szs, aopO, onBool, letA, gif]
  generalize ev V N F c = u
  rcases u with _ | x | _ | _ | _ | _ | _ | _ | _ | _ | _ <;> rfl
@[go_sem] theorem aopO_load {t : TypeId} {x : Operand} : aopO P V N (.load t x) F H K KP = letA (ev V N F x) (hid (fun x => aLoad P t x H (hid (fun y => K y H) ⟨⟩)) ⟨⟩) := Eq.trans rfl rfl
@[go_sem] theorem aopO_store {t : TypeId} {x y : Operand} : aopO P V N (.store t x y) F H K KP = letA (ev V N F x) (hid (fun x => letA (ev V N F y) (hid (fun y => aStore P t x y H (hid (fun H => K .undef H) ⟨⟩)) ⟨⟩)) ⟨⟩) := Eq.trans rfl rfl
@[go_sem] theorem aopO_fieldAddr {t : TypeId} {x : Operand} {f : Nat} : aopO P V N (.fieldAddr t x f) F H K KP = letA (ev V N F x) (hid (fun x => aField P t x f (hid (fun y => K y H) ⟨⟩)) ⟨⟩) := Eq.trans rfl rfl
@[go_sem] theorem aopO_field {t : TypeId} {x : Operand} {f : Nat} : aopO P V N (.field t x f) F H K KP = letA (ev V N F x) (hid (fun x => aFieldOf P t x f (hid (fun y => K y H) ⟨⟩)) ⟨⟩) := Eq.trans rfl rfl
@[go_sem] theorem aopO_binOp {op : BinOp} {t t' : TypeId} {x y : Operand} : aopO P V N (.binOp op t x y t') F H K KP = letA (ev V N F x) (hid (fun u => letA (ev V N F y) (hid (fun v => aBin P V op t (isConst x || isConst y) u v (hid (fun z => letA z (hid (fun z => K z H) ⟨⟩)) ⟨⟩)) ⟨⟩)) ⟨⟩) := Eq.trans rfl rfl
@[go_sem] theorem aopO_unOp {op : UnOp} {t : TypeId} {x : Operand} : aopO P V N (.unOp op t x) F H K KP = letA (ev V N F x) (hid (fun u => aUn op u (hid (fun z => letA z (hid (fun z => K z H) ⟨⟩)) ⟨⟩)) ⟨⟩) := Eq.trans rfl rfl
def nilC (x : A) (K : A → Prop) : Prop := match x with
  | .ref .. | .imm _ | .eref .. | .func .. => K x
  | _ => False
@[go_sem] theorem nilC_ref {b o : Nat} {K : A → Prop} : nilC (.ref b o) K = K (.ref b o) := Eq.trans rfl rfl
@[go_sem] theorem aopO_nilCheck {x : Operand} : aopO P V N (.nilCheck x) F H K KP = letA (ev V N F x) (hid (fun u => nilC u (hid (fun u => K u H) ⟨⟩)) ⟨⟩) := by
  simp only [hid, szs, aopO, letA]
  generalize ev V N F x = u
  cases u <;> rfl
@[go_sem] theorem aopO_alloc {t : TypeId} : aopO P V N (.alloc t) F H K KP = onSome (zeroOf P t) (hid (fun cs => newK H (hid (fun b => K (.ref b 0) (upd H b (.var cs))) ⟨⟩)) ⟨⟩) := by
  simp only [hid, szs, aopO, aAlloc]; cases zeroOf P t <;> rfl
@[go_sem] theorem aopO_box {t : TypeId} {x : Operand} : aopO P V N (.box t x) F H K KP = letA (ev V N F x) (hid (fun u => andK (u.good = true) (hid (letA u.cells (hid (fun cs => newK H (hid (fun b => K (.ref b 0) (upd H b (.var cs))) ⟨⟩)) ⟨⟩)) ⟨⟩)) ⟨⟩) := Eq.trans rfl rfl
@[go_sem] theorem aopO_extract {x : Operand} {i : Nat} : aopO P V N (.extract x i) F H K KP = onTup (ev V N F x) (hid (fun vs => onSome vs[i]? (hid (fun y => K y H) ⟨⟩)) ⟨⟩) := by
  simp only [hid, szs, aopO, onTup]
  generalize ev V N F x = u
  cases u <;> try rfl
  rename_i vs
  simp only
  generalize vs[i]? = z
  cases z <;> rfl
@[go_sem] theorem aopO_convert {s d : TypeId} {x : Operand} : aopO P V N (.convert s d x) F H K KP = letA (ev V N F x) (hid (fun u => cvSel (sameSl P s d) (hid (aMark u H K) ⟨⟩) (hid (aConv P s d u H (hid (fun y => letA y (hid (fun y => K y H) ⟨⟩)) ⟨⟩)) ⟨⟩)) ⟨⟩) := by
  simp only [hid, aopO, letA, cvSel]
  cases sameSl P s d <;> rfl
@[go_sem] theorem aopO_makeMeth {f : FuncId} {x : Operand} : aopO P V N (.makeFunc (.func f) #[x] #[]) F H K KP = letA (ev V N F x) (hid (fun y => K (.meth f [y]) H) ⟨⟩) := by simp [hid, aopO, letA]
@[go_sem] theorem aopO_makeFunc {f : FuncId} {caps : Array Operand} : aopO P V N (.makeFunc (.func f) #[] caps) F H K KP = letA (caps.toList.map (ev V N F)) (hid (fun l => K (.func f l) H) ⟨⟩) := by
  simp [hid, szs, aopO, letA]
@[go_sem] theorem aopO_makeSlice {t : TypeId} {l c : Operand} : aopO P V N (.makeSlice t l c) F H K KP = letA (ev V N F l) (hid (fun l => letA (ev V N F c) (hid (fun c => aMakeSlice P t l c H K) ⟨⟩)) ⟨⟩) := Eq.trans rfl rfl
@[go_sem] theorem aopO_slice {t : TypeId} {x : Operand} {lo hi : Option Operand} : aopO P V N (.slice t x lo hi none) F H K KP =
    letA (ev V N F x) (hid (fun x => letA (lo.map (ev V N F)) (hid (fun lo => letA (hi.map (ev V N F)) (hid (fun hi => aSlice P t x lo hi H (hid (fun y H => letA y (hid (fun y => K y H) ⟨⟩)) ⟨⟩)) ⟨⟩)) ⟨⟩)) ⟨⟩) := Eq.trans rfl rfl
@[go_sem] theorem aopO_indexAddr {t : TypeId} {x i : Operand} : aopO P V N (.indexAddr t x i) F H K KP = letA (ev V N F x) (hid (fun x => letA (ev V N F i) (hid (fun i => aIndexAddr P t x i H (hid (fun y => K y H) ⟨⟩)) ⟨⟩)) ⟨⟩) := Eq.trans rfl rfl
@[go_sem] theorem aopO_index {t : TypeId} {x i : Operand} : aopO P V N (.index t x i) F H K KP = letA (ev V N F x) (hid (fun x => letA (ev V N F i) (hid (fun i => aIndex P t x i (hid (fun y => K y H) ⟨⟩)) ⟨⟩)) ⟨⟩) := Eq.trans rfl rfl
@[go_sem] theorem aopO_build {t : TypeId} {parts : Array (Nat × Operand)} : aopO P V N (.build t parts) F H K KP = letA (parts.toList.map (hid (fun p => (p.1, ev V N F p.2)) ⟨⟩)) (hid (fun l => aBuild P t l (hid (fun y => letA (nzSel (V.nz t) y) (hid (fun y => K y H) ⟨⟩)) ⟨⟩)) ⟨⟩) := Eq.trans rfl rfl
@[go_sem] theorem nzSel_false {y : A} : nzSel false y = y := by cases y <;> rfl
@[go_sem] theorem nzSel_d {b : Bool} {x : D} : nzSel b (.d x) = .d x := by cases b <;> rfl
@[go_sem] theorem aopO_buildSlice {t : TypeId} {n : Nat} {parts : Array (Nat × Operand)} : aopO P V N (.buildSlice t n parts) F H K KP = letA (parts.toList.map (hid (fun p => (p.1, ev V N F p.2)) ⟨⟩)) (hid (fun l => aBuildSlice P t n l H K) ⟨⟩) := Eq.trans rfl rfl
@[go_sem] theorem aopO_call {c : Call} : aopO P V N (.call c) F H K KP = aCallOp P V N F c H K KP := Eq.trans rfl rfl
def onIfc (x : A) (K : TypeId → Value → Prop) : Prop := match x with
  | .d (.raw (.iface t v)) => K t v
  | _ => False
@[go_sem] theorem onIfc_is {t : TypeId} {v : Value} {K : TypeId → Value → Prop} : onIfc (.d (.raw (.iface t v))) K = K t v := Eq.trans rfl rfl
@[go_sem] theorem aopO_panic {x : Operand} : aopO P V N (.panic x) F H K KP = onIfc (ev V N F x) (hid (fun t v => KP (.iface t v) H) ⟨⟩) := by
  simp only [hid, szs, aopO, onIfc]
  generalize ev V N F x = u
  cases u with
  | d c => cases c with
    | raw v => cases v <;> rfl
    | _ => rfl
  | _ => rfl
@[go_sem] theorem conc_sent {g : Nat} : conc V (.sent g) = some (V.E g) := Eq.trans rfl rfl
@[go_sem] theorem ifcOf_agg {t : TypeId} {c : D} : ifcOf P V t (.d (.agg [c])) = (match ifcT P t with | true => (conc V c).map fun v => .iface t (.agg #[v]) | false => none) := Eq.trans rfl rfl
@[go_sem] theorem aopO_makeInterface {t : TypeId} {x : Operand} : aopO P V N (.makeInterface t x) F H K KP = onSome (ifcOf P V t (ev V N F x)) (hid (fun v => K (.d (.raw v)) H) ⟨⟩) := by
  simp only [hid, szs, aopO, onSome]
  generalize ifcOf P V t (ev V N F x) = u
  cases u <;> rfl
def onFn (x : A) (K : FuncId → List A → List A → Prop) (Y : Nat → Prop) : Prop := match x with
  | .func f caps => K f [] caps
  | .meth f bs => K f bs []
  | .yld l => Y l
  | _ => False
@[go_sem] theorem onFn_func {f : FuncId} {caps : List A} {K : FuncId → List A → List A → Prop} {Y : Nat → Prop} {k : Lk K} {l : Lk Y} : onFn (.func f caps) (hid K k) (hid Y l) = K f [] caps := Eq.trans rfl rfl
@[go_sem] theorem onFn_meth {f : FuncId} {bs : List A} {K : FuncId → List A → List A → Prop} {Y : Nat → Prop} {k : Lk K} {l : Lk Y} : onFn (.meth f bs) (hid K k) (hid Y l) = K f bs [] := Eq.trans rfl rfl
def pnK (b : Bool) (x y : Prop) : Prop := match b with
  | false => x
  | true => y
@[go_sem] theorem pnK_false {x y : Prop} {k : Lk x} {l : Lk y} : pnK false (hid x k) (hid y l) = x := Eq.trans rfl rfl
@[go_sem] theorem pnK_true {x y : Prop} {k : Lk y} {l : Lk x} : pnK true (hid x l) (hid y k) = y := Eq.trans rfl rfl
@[go_sem] theorem aCallOp_value {f : Operand} {args : Array Operand} {ts : Array TypeId} : aCallOp P V N F { callee := .value f, args := args, argTypes := ts } H K KP =
    onFn (ev V N F f) (hid (fun g bs caps => andK (callable P g = true) (hid (letA (bs ++ (args.toList.map (ev V N F) ++ caps)) (hid (fun l => pnK (V.pan g) (hid (ACall P V g l H K) ⟨⟩) (hid (ACallP P V g l H K KP) ⟨⟩)) ⟨⟩)) ⟨⟩)) ⟨⟩)
      (hid (fun n => letA (args.toList.map (ev V N F)) (hid (fun l => ARound P V n l H K) ⟨⟩)) ⟨⟩) := by
  simp only [hid, szs, aCallOp]
  generalize ev V N F f = u
  cases u with
  | func g caps => simp only [onFn, pnK, letA, andK, List.nil_append]; cases V.pan g <;> rfl
  | meth g bs => simp only [onFn, pnK, letA, andK, List.append_nil]; cases V.pan g <;> rfl
  | _ => rfl
@[go_sem] theorem aCallOp_len {x : Operand} {t : TypeId} : aCallOp P V N F { callee := .builtin .len, args := #[x], argTypes := #[t] } H K KP =
    letA (ev V N F x) (hid (fun x => andK (lenable P t x = true) (hid (aLen x H (hid (fun y => letA y (hid (fun y => K y H) ⟨⟩)) ⟨⟩)) ⟨⟩)) ⟨⟩) := Eq.trans rfl rfl
@[go_sem] theorem aCallOp_append {x y : Operand} {t : TypeId} : aCallOp P V N F { callee := .builtin .append, args := #[x, y], argTypes := #[t, t] } H K KP =
    letA (ev V N F x) (hid (fun x => letA (ev V N F y) (hid (fun y => aAppend P t x y H K) ⟨⟩)) ⟨⟩) := by
  simp [hid, szs, aCallOp, letA]
end
def isStrT (P : Program) (t : TypeId) : Bool := match P.underlying t with
  | some .string => true
  | _ => false
section
variable {P : Program} {V : Env} {H : Heap} {K : A → Prop} {KH : A → Heap → Prop}
@[go_sem] theorem lenable_str {t : TypeId} {s : ByteArray} : lenable P t (.d (.str s)) = isStrT P t := by
  unfold lenable isStrT
  cases P.underlying t with
  | none => rfl
  | some u => cases u <;> rfl
@[go_sem] theorem lenable_slice {t : TypeId} {s : List D} : lenable P t (.d (.slice s)) = isSliceT P t := by
  unfold lenable isSliceT
  cases P.underlying t with
  | none => rfl
  | some u => cases u <;> rfl
@[go_sem] theorem lenable_nils {t : TypeId} : lenable P t .nils = isSliceT P t := by
  unfold lenable isSliceT
  cases P.underlying t with
  | none => rfl
  | some u => cases u <;> rfl
@[go_sem] theorem lenable_own {t : TypeId} {b : Nat} {v : Value} : lenable P t (.own b v) = isSliceT P t := by
  unfold lenable isSliceT
  cases P.underlying t with
  | none => rfl
  | some u => cases u <;> rfl
@[go_sem] theorem aLen_str {s : ByteArray} : aLen (.d (.str s)) H K = K (.d (.int .i64 s.size)) := Eq.trans rfl rfl
@[go_sem] theorem aLen_slice {es : List D} : aLen (.d (.slice es)) H K = K (.d (.int .i64 es.length)) := Eq.trans rfl rfl
@[go_sem] theorem aLen_own {b : Nat} {v : Value} : aLen (.own b v) H K = onArr (H b) v (hid (fun _ _ ds => K (.d (.int .i64 ds.length))) ⟨⟩) (hid (fun ds => K (.d (.int .i64 ds.length))) ⟨⟩) := by
  simp only [hid, szs, aLen, onArr]
  cases H b with
  | none => rfl
  | some o => cases o <;> rfl
def ldV (s : Bool × Nat) (cs : List A) (off : Nat) (K : A → Prop) : Prop := match s with
  | (true, n) => off + n ≤ cs.length ∧ K (aggN ((cs.drop off).take n))
  | (false, _) => onSome cs[off]? K
@[go_sem] theorem ldV_one {n : Nat} {cs : List A} {off : Nat} : ldV (false, n) cs off K = onSome cs[off]? K := Eq.trans rfl rfl
@[go_sem] theorem ldV_agg {n : Nat} {cs : List A} {off : Nat} : ldV (true, n) cs off K = andK (off + n ≤ cs.length) (hid (letA (aggN ((cs.drop off).take n)) K) ⟨⟩) := Eq.trans rfl rfl
def ldD (s : Bool × Nat) (cs : List D) (off : Nat) (K : A → Prop) : Prop := match s with
  | (true, n) => off + n ≤ cs.length ∧ K (.d (.agg ((cs.drop off).take n)))
  | (false, _) => onSome cs[off]? fun d => K (unraw d)
@[go_sem] theorem ldD_one {n : Nat} {cs : List D} {off : Nat} : ldD (false, n) cs off K = onSome cs[off]? (hid (fun d => letA (unraw d) K) ⟨⟩) := Eq.trans rfl rfl
@[go_sem] theorem ldD_agg {n : Nat} {cs : List D} {off : Nat} : ldD (true, n) cs off K = andK (off + n ≤ cs.length) (hid (letA (D.agg ((cs.drop off).take n)) (hid (fun d => K (.d d)) ⟨⟩)) ⟨⟩) := Eq.trans rfl rfl
@[go_sem] theorem aLoad_ref {t : TypeId} {b off : Nat} : aLoad P t (.ref b off) H K = onVar (H b) (hid (fun cs => onSome (tshape P t) (hid (fun s => ldV s cs off K) ⟨⟩)) ⟨⟩) := by
  simp only [hid, szs, aLoad, onVar, onSome, ldV]
  cases H b with
  | none => rfl
  | some o =>
    cases o with
    | var cs =>
      cases tshape P t with
      | none => rfl
      | some s => obtain ⟨b, n⟩ := s; cases b <;> first | rfl | (simp only; cases cs[off]? <;> rfl)
    | _ => rfl
@[go_sem] theorem aLoad_imm {t : TypeId} {ds : List D} : aLoad P t (.imm ds) H K = onSome (tshape P t) (hid (fun s => ldD s ds 0 K) ⟨⟩) := by
  simp only [hid, szs, aLoad, onSome, ldD]
  cases tshape P t with
  | none => rfl
  | some s =>
    obtain ⟨b, n⟩ := s
    cases b
    · simp only; cases ds[0]? <;> rfl
    · simp
def arrOnly (o : Option AObj) (v : Value) (K : TypeId → Nat → List D → Prop) : Prop := match o with
  | some (.arr E sz v' ds) => v' = v ∧ K E sz ds
  | _ => False
@[go_sem] theorem arrOnly_arr {E : TypeId} {sz : Nat} {v : Value} {ds : List D} {K : TypeId → Nat → List D → Prop} : arrOnly (some (.arr E sz v ds)) v K = K E sz ds := by simp [hid, szs, arrOnly]
@[go_sem] theorem aLoad_eref {t : TypeId} {b : Nat} {v : Value} {sz i off : Nat} : aLoad P t (.eref b v sz i off) H K = arrOnly (H b) v (hid (fun _ sz' ds => onSome (tshape P t) (hid (fun s => onSome ds[i]? (hid (fun e => andK (sz' = sz) (hid (ldD s e.cells off K) ⟨⟩)) ⟨⟩)) ⟨⟩)) ⟨⟩) := by
  simp only [hid, szs, aLoad, onSome, ldD, arrOnly, andK]
  cases H b with
  | none => rfl
  | some o =>
    cases o with
    | arr E sz' v' ds =>
      cases tshape P t with
      | none => simp
      | some s =>
        obtain ⟨b, n⟩ := s
        cases b <;> simp only <;> generalize ds[i]? = z
        · cases z with
          | none => simp
          | some e => simp only; generalize e.cells[off]? = y; cases y <;> rfl
        · cases z with
          | none => simp
          | some e => rfl
    | _ => rfl
@[go_sem] theorem aStore_ref {t : TypeId} {b off : Nat} {y : A} {K : Heap → Prop} : aStore P t (.ref b off) y H K = onVar (H b) (hid (fun cs => onSome (tshape P t) (hid (fun s =>
    andK (y.good = true ∧ y.cells.length = s.2 ∧ off + s.2 ≤ cs.length) (hid (letA (setMany cs off y.cells) (hid (fun l => K (upd H b (.var l))) ⟨⟩)) ⟨⟩)) ⟨⟩)) ⟨⟩) := by
  simp only [hid, szs, aStore, onVar, onSome, andK, letA]
  cases H b with
  | none => rfl
  | some o =>
    cases o with
    | var cs =>
      cases tshape P t with
      | none => rfl
      | some s => obtain ⟨b, n⟩ := s; simp only [hid, szs, and_assoc]
    | _ => rfl
theorem setMany_succ {α : Type} {c : α} {cs xs : List α} {o : Nat} : setMany (c :: cs) (o + 1) xs = c :: setMany cs o xs := by simp [hid, szs, setMany, Nat.add_right_comm]
theorem setMany_cons0 {α : Type} {c y : α} {cs xs : List α} : setMany (c :: cs) 0 (y :: xs) = y :: setMany cs 0 xs := by simp [hid, szs, setMany, Nat.add_comm]
theorem setMany_nil {α : Type} {cs : List α} : setMany cs 0 [] = cs := by simp [hid, szs, setMany]
attribute [go_sem] setMany_succ setMany_cons0 setMany_nil
@[go_sem] theorem aStore_eref {t : TypeId} {b : Nat} {v : Value} {sz i off : Nat} {y : A} {K : Heap → Prop} : aStore P t (.eref b v sz i off) y H K = putE H y (hid (fun d H => arrOnly (H b) v (hid (fun E sz' ds =>
    onSome (tshape P t) (hid (fun s => onSome ds[i]? (hid (fun e => letA d.cells (hid (fun xs => andK (sz' = sz ∧ xs.length = s.2 ∧ off + s.2 ≤ e.cells.length) (hid (letA (ds.set i (e.withCells (setMany e.cells off xs))) (hid (fun l => K (upd H b (.arr E sz' v l))) ⟨⟩)) ⟨⟩)) ⟨⟩)) ⟨⟩)) ⟨⟩)) ⟨⟩)) ⟨⟩) := by
  simp only [aStore, hid, letA, andK]
  congr 1
  funext d H
  simp only [arrOnly, onSome]
  cases H b with
  | none => rfl
  | some o =>
    cases o with
    | arr E sz' v' ds =>
      cases tshape P t with
      | none => simp
      | some s =>
        obtain ⟨g, n⟩ := s
        simp only
        generalize ds[i]? = z
        cases z with
        | none => simp
        | some e =>
          simp only [eq_iff_iff]
          constructor
          · rintro ⟨h1, h2, h3, h4, h5⟩
            subst h1 h2
            exact ⟨rfl, ⟨rfl, h3, h4⟩, h5⟩
          · rintro ⟨h1, ⟨h2, h3, h4⟩, h5⟩
            subst h1 h2
            exact ⟨rfl, rfl, h3, h4, h5⟩
    | _ => rfl
@[go_sem] theorem putE_d {x : D} {K : D → Heap → Prop} : putE H (.d x) K = K x H := Eq.trans rfl rfl
@[go_sem] theorem deepK_d {x : D} {K : D → Heap → Prop} : deepK H (.d x) K = K x H := by simp only [deepK]
@[go_sem] theorem deepK_nils {K : D → Heap → Prop} : deepK H .nils K = K (.slice []) H := by simp only [deepK]
@[go_sem] theorem deepK_own {b : Nat} {v : Value} {K : D → Heap → Prop} : deepK H (.own b v) K = onArr (H b) v (hid (fun _ _ ds => K (.slice ds) (upd H b (.frz v ds))) ⟨⟩) (hid (fun ds => K (.slice ds) H) ⟨⟩) := by
  simp only [deepK, onArr, hid]
  cases H b with
  | none => rfl
  | some o => cases o <;> rfl
@[go_sem] theorem deepK_agg {cs : List A} {K : D → Heap → Prop} : deepK H (.agg cs) K = deepL H cs (hid (fun ds H => K (.agg ds) H) ⟨⟩) := by simp only [deepK, hid]
@[go_sem] theorem deepL_nil {K : List D → Heap → Prop} : deepL H [] K = K [] H := by simp only [deepL]
@[go_sem] theorem deepL_cons {c : A} {cs : List A} {K : List D → Heap → Prop} : deepL H (c :: cs) K = deepK H c (hid (fun d H => deepL H cs (hid (fun ds H => K (d :: ds) H) ⟨⟩)) ⟨⟩) := by simp only [deepL, hid]
@[go_sem] theorem frzM_true {ms : List Bool} {x : A} {xs : List A} {K : List A → Heap → Prop} : frzM (true :: ms) H (x :: xs) K = deepK H x (hid (fun d G => frzM ms G xs (hid (fun l G => K (.d d :: l) G) ⟨⟩)) ⟨⟩) := Eq.trans rfl rfl
@[go_sem] theorem frzM_false {ms : List Bool} {x : A} {xs : List A} {K : List A → Heap → Prop} : frzM (false :: ms) H (x :: xs) K = frzM ms H xs (hid (fun l G => K (x :: l) G) ⟨⟩) := Eq.trans rfl rfl
def addO (x : A) (o : Nat) (K : A → Prop) : Prop := match x with
  | .ref b off => K (.ref b (off + o))
  | .imm ds => o ≤ ds.length ∧ K (.imm (ds.drop o))
  | .eref b v sz i off => K (.eref b v sz i (off + o))
  | _ => False
@[go_sem] theorem addO_ref {b off o : Nat} : addO (.ref b off) o K = letA (off + o) (hid (fun n => K (.ref b n)) ⟨⟩) := Eq.trans rfl rfl
@[go_sem] theorem addO_imm {ds : List D} {o : Nat} : addO (.imm ds) o K = andK (o ≤ ds.length) (hid (letA (ds.drop o) (hid (fun l => K (.imm l)) ⟨⟩)) ⟨⟩) := Eq.trans rfl rfl
@[go_sem] theorem aField_eq {s : TypeId} {x : A} {f : Nat} : aField P s x f K = onSome (fieldOff P s f) (hid (fun o => addO x o K) ⟨⟩) := by
  simp only [hid, szs, aField, onSome]; cases fieldOff P s f <;> rfl
def partAt (P : Program) (s : TypeId) (f : Nat) : Option ((Bool × Nat) × Nat) :=
  match P.underlying s with
  | some (.struct fields) => match fields[f]? with
    | some fd => match tshape P fd.type with
      | some t => some (t, fd.offset)
      | none => none
    | none => none
  | _ => none
def ofPart (x : A) (s : (Bool × Nat) × Nat) (K : A → Prop) : Prop := match x with
  | .agg cs => ldV s.1 cs s.2 K
  | .d (.agg cs) => ldD s.1 cs s.2 K
  | _ => False
@[go_sem] theorem ofPart_d {cs : List D} {s : Bool × Nat} {o : Nat} : ofPart (.d (.agg cs)) (s, o) K = ldD s cs o K := Eq.trans rfl rfl
theorem aPart_eq {t : TypeId} {x : A} {o : Nat} : aPart P t x o K = onSome (tshape P t) fun s => ofPart x (s, o) K := by
  simp only [hid, szs, aPart, onSome, ofPart]
  cases tshape P t with
  | none =>
    rcases x with _ | x | _ | _ | _ | _ | _ | _ | _ | _ <;> try rfl
    cases x <;> rfl
  | some s =>
    obtain ⟨b, n⟩ := s
    rcases x with _ | x | _ | cs | _ | _ | _ | _ | _ | _ <;> try rfl
    · cases x with
      | agg cs => cases b <;> first | rfl | (simp only [hid, szs, ldD, onSome]; cases cs[o]? <;> rfl)
      | _ => rfl
    · cases b <;> first | rfl | (simp only [hid, szs, ldV, onSome]; cases cs[o]? <;> rfl)
@[go_sem] theorem aFieldOf_eq {s : TypeId} {x : A} {f : Nat} : aFieldOf P s x f K = onSome (partAt P s f) (hid (fun p => ofPart x p K) ⟨⟩) := by
  simp only [hid, szs, aFieldOf, partAt]
  cases P.underlying s with
  | none => rfl
  | some u =>
    cases u with
    | struct fields =>
      simp only
      cases fields[f]? with
      | none => rfl
      | some fd =>
        simp only [hid, szs, aPart_eq]
        cases tshape P fd.type <;> rfl
    | _ => rfl
def idxOf (P : Program) (t : TypeId) : Option Nat := match P.underlying t with
  | some (.slice e) => (tshape P e).map (·.2)
  | _ => none
def idxA (x : A) (sz n : Nat) (H : Heap) (K : A → Prop) : Prop := match x with
  | .d (.slice es) => onSome es[n]? fun d => d.cells.length = sz ∧ K (.imm d.cells)
  | .own b v => onArr (H b) v (fun _ sz' ds => sz' = sz ∧ n < ds.length ∧ K (.eref b v sz n 0)) (fun es => onSome es[n]? fun d => d.cells.length = sz ∧ K (.imm d.cells))
  | _ => False
@[go_sem] theorem idxA_slice {es : List D} {sz n : Nat} : idxA (.d (.slice es)) sz n H K = onSome es[n]? (hid (fun d => andK (d.cells.length = sz) (hid (letA d.cells (hid (fun l => K (.imm l)) ⟨⟩)) ⟨⟩)) ⟨⟩) := Eq.trans rfl rfl
@[go_sem] theorem idxA_own {b : Nat} {v : Value} {sz n : Nat} : idxA (.own b v) sz n H K = onArr (H b) v (hid (fun _ sz' ds => andK (sz' = sz ∧ n < ds.length) (hid (K (.eref b v sz n 0)) ⟨⟩)) ⟨⟩)
    (hid (fun es => onSome es[n]? (hid (fun d => andK (d.cells.length = sz) (hid (letA d.cells (hid (fun l => K (.imm l)) ⟨⟩)) ⟨⟩)) ⟨⟩)) ⟨⟩) := by simp only [hid, szs, idxA, andK, letA, and_assoc]
@[go_sem] theorem aIndexAddrS_eq {t : TypeId} {x i : A} : aIndexAddrS P t x i H K = onSome (idxOf P t) (hid (fun sz => onInt i (hid (fun n => andK (0 ≤ n) (hid (letA n.toNat (hid (fun n => idxA x sz n H K) ⟨⟩)) ⟨⟩)) ⟨⟩)) ⟨⟩) := by
  simp only [hid, szs, aIndexAddrS, idxOf]
  cases P.underlying t with
  | none => rfl
  | some u =>
    cases u with
    | slice e =>
      simp only
      cases tshape P e with
      | none => rfl
      | some s =>
        simp only [hid, szs, Option.map_some, onSome, onInt, andK, letA, idxA, onArr]
        congr 1
        funext n
        congr 1
        rcases x with _ | x | _ | cs | _ | _ | _ | _ | _ | _ <;> try rfl
        · cases x with
          | slice es => simp only; cases es[n.toNat]? <;> rfl
          | _ => rfl
        · rename_i b v
          simp only
          cases H b with
          | none => rfl
          | some o =>
            cases o with
            | frz v' es => simp only; cases es[n.toNat]? <;> rfl
            | _ => rfl
    | _ => rfl
@[go_sem] theorem aIndexS_eq {t : TypeId} {s : ByteArray} {i : A} : aIndexS P t (.d (.str s)) i K = andK (isStrT P t = true) (hid (onInt i (hid (fun n => andK (0 ≤ n) (hid (onSome s[n.toNat]? (hid (fun b => K (.d (.int .u8 b.toNat))) ⟨⟩)) ⟨⟩)) ⟨⟩)) ⟨⟩) := by
  simp only [hid, szs, aIndexS, isStrT, andK]
  cases P.underlying t with
  | none => simp
  | some u => cases u <;> first | (simp; done) | skip
              simp only [hid, szs, true_and, onInt, onSome]
              congr 1
              funext n
              congr 1
              cases s[n.toNat]? <;> rfl
def arrOf (P : Program) (t : TypeId) : Option (Nat × (Bool × Nat)) := match P.underlying t with
  | some (.array len e) => (tshape P e).map fun s => (len, s)
  | _ => none
@[go_sem] theorem aIndexAddr_d {t : TypeId} {x : D} {i : A} : aIndexAddr P t (.d x) i H K = aIndexAddrS P t (.d x) i H K := Eq.trans rfl rfl
@[go_sem] theorem aIndexAddr_own {t : TypeId} {b : Nat} {v : Value} {i : A} : aIndexAddr P t (.own b v) i H K = aIndexAddrS P t (.own b v) i H K := Eq.trans rfl rfl
@[go_sem] theorem aIndexAddr_ref {t : TypeId} {b off : Nat} {i : A} : aIndexAddr P t (.ref b off) i H K = onSome (arrOf P t) (hid (fun p => onInt i (hid (fun n => andK (0 ≤ n ∧ n.toNat < p.1) (hid (letA (off + n.toNat * p.2.2) (hid (fun o => K (.ref b o)) ⟨⟩)) ⟨⟩)) ⟨⟩)) ⟨⟩) := by
  simp only [hid, aIndexAddr, aIndexArr, arrOf]
  cases P.underlying t with
  | none => rfl
  | some u =>
    cases u with
    | array len e =>
      simp only
      cases tshape P e with
      | none => rfl
      | some s => simp only [Option.map_some, onSome, onInt, andK, letA, and_assoc]
    | _ => rfl
@[go_sem] theorem aIndex_str {t : TypeId} {s : ByteArray} {i : A} : aIndex P t (.d (.str s)) i K = aIndexS P t (.d (.str s)) i K := Eq.trans rfl rfl
theorem aIndexA_eq {t : TypeId} {x i : A} : aIndexA P t x i K = onSome (arrOf P t) (hid (fun p => onInt i (hid (fun n => andK (0 ≤ n ∧ n.toNat < p.1) (hid (letA (n.toNat * p.2.2) (hid (fun o => ofPart x (p.2, o) K) ⟨⟩)) ⟨⟩)) ⟨⟩)) ⟨⟩) := by
  simp only [hid, aIndexA, arrOf]
  cases P.underlying t with
  | none => rfl
  | some u =>
    cases u with
    | array len e =>
      simp only
      cases hs : tshape P e with
      | none => rfl
      | some s => simp only [Option.map_some, onSome, onInt, andK, letA, and_assoc, aPart_eq, hs]
    | _ => rfl
@[go_sem] theorem aIndex_dagg {t : TypeId} {cs : List D} {i : A} : aIndex P t (.d (.agg cs)) i K = onSome (arrOf P t) (hid (fun p => onInt i (hid (fun n => andK (0 ≤ n ∧ n.toNat < p.1) (hid (letA (n.toNat * p.2.2) (hid (fun o => ofPart (.d (.agg cs)) (p.2, o) K) ⟨⟩)) ⟨⟩)) ⟨⟩)) ⟨⟩) := aIndexA_eq
@[go_sem] theorem bounds_sn {a : A} {n : Nat} {K : Nat → Nat → Prop} : bounds (some a) none n K = onInt a (hid (fun l => andK (0 ≤ l ∧ l.toNat ≤ n) (hid (letA l.toNat (hid (fun l => K l n) ⟨⟩)) ⟨⟩)) ⟨⟩) := by simp only [hid, szs, bounds, onInt, andK, letA, and_assoc]
@[go_sem] theorem bounds_ss {a c : A} {n : Nat} {K : Nat → Nat → Prop} : bounds (some a) (some c) n K = onInt c (hid (fun h => andK (0 ≤ h ∧ h.toNat ≤ n) (hid (onInt a (hid (fun l => andK (0 ≤ l ∧ l.toNat ≤ h.toNat) (hid (letA l.toNat (hid (fun l => letA h.toNat (hid (fun h => K l h) ⟨⟩)) ⟨⟩)) ⟨⟩)) ⟨⟩)) ⟨⟩)) ⟨⟩) := by
  simp only [hid, szs, bounds, onInt, andK, letA, and_assoc]
def sliceOf (P : Program) (t : TypeId) : Option (Option Nat) := match P.underlying t with
  | some .string => some none
  | some (.slice e) => (tshape P e).map fun s => some s.2
  | _ => none
def slA (x : A) (lo hi : Option A) (H : Heap) (K : A → Heap → Prop) : Option Nat → Prop
  | none => match x with
    | .d (.str s) => bounds lo hi s.size fun l m => K (.d (.str (s.extract l m))) H
    | _ => False
  | some sz => match x with
    | .nils => bounds lo hi 0 fun _ _ => K .nils H
    | .d (.slice es) => (szs sz es) ∧ bounds lo hi es.length fun l m => K (.d (.slice ((es.take m).drop l))) H
    | .own b v => match H b with
      | some (.arr E sz' v' ds) => v' = v ∧ sz = sz' ∧ match lo with
        | none => bounds none hi ds.length fun _ m => ∀ v2 : Value, v2.ownBlock = some b → K (.own b v2) (upd H b (.arr E sz' v2 (ds.take m)))
        | some _ => bounds lo hi ds.length fun l m => K (.d (.slice ((ds.take m).drop l))) (upd H b (.frz v ds))
      | some (.frz v' ds) => v' = v ∧ (szs sz ds) ∧ bounds lo hi ds.length fun l m => K (.d (.slice ((ds.take m).drop l))) H
      | _ => False
    | _ => False
@[go_sem] theorem slA_str {s : ByteArray} {lo hi : Option A} : slA (.d (.str s)) lo hi H KH none = bounds lo hi s.size (hid (fun l m => KH (.d (.str (s.extract l m))) H) ⟨⟩) := Eq.trans rfl rfl
@[go_sem] theorem aSlice_eq {t : TypeId} {x : A} {lo hi : Option A} : aSlice P t x lo hi H KH = onSome (sliceOf P t) (hid (fun s => slA x lo hi H KH s) ⟨⟩) := by
  simp only [hid, szs, aSlice, sliceOf]
  cases P.underlying t with
  | none => cases x <;> rfl
  | some u =>
    cases u with
    | string =>
      rcases x with _ | x | _ | cs | _ | _ | _ | _ | _ | _ <;> try rfl
      cases x <;> rfl
    | slice e =>
      simp only
      have he : onSome ((tshape P e).map fun s => some s.2) (fun s => slA x lo hi H KH s) = onSome (tshape P e) fun s => slA x lo hi H KH (some s.2) := by
        cases tshape P e <;> rfl
      rw [he]
      clear he
      simp only [hid, szs, onSome]
      rcases x with _ | x | _ | cs | _ | _ | _ | b | _ | _
      case d =>
        cases x with
        | slice es => simp only [hid, szs, slA]; generalize tshape P e = s; cases s <;> rfl
        | _ => simp only [hid, szs, slA]; cases tshape P e <;> rfl
      case nils => simp only [hid, szs, slA]; generalize tshape P e = s; cases s <;> simp
      case own =>
        rename_i v
        simp only [hid, szs, slA]
        cases H b with
        | none => cases tshape P e <;> rfl
        | some o =>
          cases o with
          | var cs => simp only; cases tshape P e <;> rfl
          | arr E sz v' ds => simp only; generalize tshape P e = s; cases s <;> first | rfl | (cases lo <;> rfl)
          | frz v' ds => simp only; generalize tshape P e = s; cases s <;> rfl
          | map s m => simp only; cases tshape P e <;> rfl
          | loop L n F => simp only; cases tshape P e <;> rfl
      all_goals (simp only [hid, szs, slA]; cases tshape P e <;> rfl)
    | _ => cases x <;> rfl
def appOf (P : Program) (t : TypeId) : Option (TypeId × Nat × Nat) := match P.underlying t with
  | some (.slice e) => match P.info? e with
    | some i => match i.zero with
      | some z => if z.cells.size = i.size ∧ 0 < i.size ∧ 0 < i.bytes then some (e, i.size, i.bytes) else none
      | none => none
    | none => none
  | _ => none
@[go_sem] theorem srcK_own {b : Nat} {v : Value} {K : List D → Prop} : srcK H (.own b v) K = onArr (H b) v (hid (fun _ _ ds => K ds) ⟨⟩) K := by
  simp only [hid, szs, srcK, onArr]
  cases H b with
  | none => rfl
  | some o => cases o <;> rfl
def appTo (dst : A) (ns : List D) (e : TypeId) (sz by_ : Nat) (H : Heap) (K : A → Heap → Prop) : Prop := match dst with
  | .nils => ns.length * by_ ≤ 140737488355328 ∧ (ns = [] → K .nils H) ∧ (ns ≠ [] → newV H fun b v => K (.own b v) (upd H b (.arr e sz v ns)))
  | .own b v => match H b with
    | some (.arr E sz' v' ds) => v' = v ∧ E = e ∧ sz' = sz ∧ (ds.length + ns.length) * by_ ≤ 140737488355328 ∧
      growV H b fun b' v' => K (.own b' v') (upd (del H b) b' (.arr e sz v' (ds ++ ns)))
    | some (.frz v' ds) => v' = v ∧ vfull v = true ∧ ns ≠ [] ∧ ds ≠ [] ∧ (∀ d ∈ ds, d.cells.length = sz) ∧ (ds.length + ns.length) * by_ ≤ 140737488355328 ∧
      newV H fun b' v' => K (.own b' v') (upd H b' (.arr e sz v' (ds ++ ns)))
    | _ => False
  | .d (.slice es) => ns = [] ∧ K (.d (.slice es)) H
  | _ => False
@[go_sem] theorem appTo_nils {n : D} {ns : List D} {e : TypeId} {sz by_ : Nat} : appTo .nils (n :: ns) e sz by_ H KH = andK ((ns.length + 1) * by_ ≤ 140737488355328) (hid (newV H (hid (fun b v => KH (.own b v) (upd H b (.arr e sz v (n :: ns)))) ⟨⟩)) ⟨⟩) := by
  simp [hid, szs, appTo, andK]
theorem appTo_nils' {ns : List D} {e : TypeId} {sz by_ : Nat} (h : ns.length * by_ ≤ 140737488355328) (h0 : ns = [] → KH .nils H) (h1 : ns ≠ [] → newV H fun b v => KH (.own b v) (upd H b (.arr e sz v ns))) : appTo .nils ns e sz by_ H KH := ⟨h, h0, h1⟩
@[go_sem] theorem appTo_own {b : Nat} {v : Value} {ns : List D} {e : TypeId} {sz by_ : Nat} : appTo (.own b v) ns e sz by_ H KH = onArr (H b) v (hid (fun E sz' ds => andK (E = e ∧ sz' = sz ∧ (ds.length + ns.length) * by_ ≤ 140737488355328)
      (hid (growV H b (hid (fun b' v' => letA (ds ++ ns) (hid (fun l => KH (.own b' v') (upd (del H b) b' (.arr e sz v' l))) ⟨⟩)) ⟨⟩)) ⟨⟩)) ⟨⟩)
      (hid (fun ds => andK (vfull v = true ∧ ns ≠ [] ∧ ds ≠ [] ∧ szs sz ds ∧ (ds.length + ns.length) * by_ ≤ 140737488355328)
      (hid (newV H (hid (fun b' v' => letA (ds ++ ns) (hid (fun l => KH (.own b' v') (upd H b' (.arr e sz v' l))) ⟨⟩)) ⟨⟩)) ⟨⟩)) ⟨⟩) := by
  simp only [hid, szs, appTo, onArr, andK, letA]
  cases H b with
  | none => rfl
  | some o => cases o <;> simp [hid, szs, and_assoc]
@[go_sem] theorem aAppend_eq {t : TypeId} {dst src : A} : aAppend P t dst src H KH = onSome (appOf P t) (hid (fun f => srcK H src (hid (fun ns => andK (szs f.2.1 ns) (hid (appTo dst ns f.1 f.2.1 f.2.2 H KH) ⟨⟩)) ⟨⟩)) ⟨⟩) := by
  simp only [hid, szs, aAppend, appOf]
  cases P.underlying t with
  | none => rfl
  | some u =>
    cases u with
    | slice e =>
      simp only
      cases P.info? e with
      | none => rfl
      | some i =>
        simp only
        cases i.zero with
        | none => rfl
        | some z =>
          simp only
          by_cases h : z.cells.size = i.size ∧ 0 < i.size ∧ 0 < i.bytes
          · rw [if_pos h]
            simp only [hid, szs, onSome, h.1, h.2.1, h.2.2, true_and, andK, appTo]
            congr 1
            funext ns
            congr 1
            cases dst with
            | own b v =>
              simp only
              cases H b with
              | none => rfl
              | some o =>
                cases o with
                | arr E sz' v' ds =>
                  simp only [hid, szs, eq_iff_iff]
                  constructor <;> (rintro ⟨a, b, rfl, d, e⟩; exact ⟨a, b, rfl, d, e⟩)
                | _ => rfl
            | d x => cases x <;> rfl
            | _ => rfl
          · rw [if_neg h]
            simp only [hid, szs, onSome, eq_iff_iff, iff_false]
            rintro ⟨a, b, c, _⟩
            exact h ⟨a, b, c⟩
    | _ => rfl
def bldOf (P : Program) (t : TypeId) : Option (List A × List (Nat × Nat)) := match P.underlying t with
  | some (.array len e) => (P.info? e).bind fun i => (zeroOf P t).map fun zs => (zs, (List.range len).map fun k => (k * i.size, i.size))
  | some (.struct fields) => if sizesOk P fields = true then (zeroOf P t).map fun zs => (zs, fields.toList.map fun f => (f.offset, ((P.info? f.type).map (·.size)).getD 0)) else none
  | _ => none
def fillL (pl : List (Nat × Nat)) : List A → List (Nat × A) → (List A → Prop) → Prop
  | cs, [], K => K cs
  | cs, (i, x) :: rest, K => onSome pl[i]? fun p => x.good = true ∧ x.cells.length = p.2 ∧ p.1 + p.2 ≤ cs.length ∧ fillL pl (setMany cs p.1 x.cells) rest K
@[go_sem] theorem fillL_nil {pl : List (Nat × Nat)} {cs : List A} {K : List A → Prop} : fillL pl cs [] K = K cs := Eq.trans rfl rfl
@[go_sem] theorem fillL_cons {pl : List (Nat × Nat)} {cs : List A} {i : Nat} {x : A} {rest : List (Nat × A)} {K : List A → Prop} : fillL pl cs ((i, x) :: rest) K =
    onSome pl[i]? (hid (fun p => letA x.cells (hid (fun xs => andK (x.good = true ∧ xs.length = p.2 ∧ p.1 + p.2 ≤ cs.length) (hid (letA (setMany cs p.1 xs) (hid (fun cs => fillL pl cs rest K) ⟨⟩)) ⟨⟩)) ⟨⟩)) ⟨⟩) := by
  simp only [hid, szs, fillL, letA, andK, and_assoc]
theorem fillL_eq {place : Nat → Option (Nat × Nat)} {pl : List (Nat × Nat)} (hp : ∀ i, place i = pl[i]?) {K : List A → Prop} : ∀ (l : List (Nat × A)) (cs : List A),
    onSome (fillA place cs l) K = fillL pl cs l K
  | [], cs => rfl
  | (i, x) :: rest, cs => by
    simp only [hid, szs, fillA, fillL, hp i]
    cases pl[i]? with
    | none => rfl
    | some p =>
      show onSome (if x.good = true ∧ x.cells.length = p.2 ∧ p.1 + p.2 ≤ cs.length then fillA place (setMany cs p.1 x.cells) rest else none) K = _
      by_cases h : x.good = true ∧ x.cells.length = p.2 ∧ p.1 + p.2 ≤ cs.length
      · rw [if_pos h, fillL_eq hp rest]
        simp only [hid, szs, onSome, h.1, h.2.1, h.2.2, true_and]
      · rw [if_neg h]
        simp only [hid, szs, onSome, eq_iff_iff, false_iff]
        rintro ⟨a, b, c, _⟩
        exact h ⟨a, b, c⟩
@[go_sem] theorem aBuild_eq {t : TypeId} {l : List (Nat × A)} : aBuild P t l K = onSome (bldOf P t) (hid (fun f => fillL f.2 f.1 l (hid (fun cs => letA (aggN cs) K) ⟨⟩)) ⟨⟩) := by
  simp only [hid, szs, aBuild, bldOf]
  cases P.underlying t with
  | none => rfl
  | some u =>
    cases u with
    | struct fields =>
      simp only
      cases zeroOf P t with
      | none => simp only [hid, szs, Option.map_none, ite_self]; rfl
      | some zs =>
        simp only [hid, szs, Option.map_some]
        by_cases h : sizesOk P fields = true
        · rw [if_pos h, if_pos h]
          simp only [hid, szs, onSome]
          refine Eq.trans (b := onSome (fillA (placeS P fields) zs l) fun cs => letA (aggN cs) K) ?_ (fillL_eq ?_ l zs)
          · cases fillA (placeS P fields) zs l <;> rfl
          · intro i
            simp only [hid, szs, placeS, List.getElem?_map, Array.getElem?_toList]
            cases hf : fields[i]? with
            | none => rfl
            | some f =>
              have := Array.all_eq_true_iff_forall_mem.1 h f (Array.mem_of_getElem? hf)
              obtain ⟨j, hj⟩ := Option.isSome_iff_exists.1 this
              simp [hid, szs, hj]
        · rw [if_neg h, if_neg h]; rfl
    | array len e =>
      simp only
      cases zeroOf P t with
      | none => cases P.info? e <;> rfl
      | some zs =>
        simp only
        cases P.info? e with
        | none => rfl
        | some i =>
          simp only [hid, szs, Option.map_some, Option.bind_some, onSome]
          refine Eq.trans (b := onSome (fillA (placeA len i.size) zs l) fun cs => letA (aggN cs) K) ?_ (fillL_eq ?_ l zs)
          · cases fillA (placeA len i.size) zs l <;> rfl
          · intro k
            simp only [placeA, List.getElem?_map]
            by_cases h : k < len
            · rw [if_pos h, List.getElem?_range h]; rfl
            · rw [if_neg h, List.getElem?_eq_none (by simpa using h)]; rfl
    | _ => rfl
def bsOf (P : Program) (t : TypeId) : Option (TypeId × Nat × Bool) := match P.underlying t with
  | some (.slice e) => match P.info? e, zeroOf P e with
    | some i, some zs => if zs.length = i.size ∧ 0 < i.size then some (e, i.size, isU8 P e) else none
    | _, _ => none
  | _ => none
@[go_sem] theorem rowK_false {n : Nat} {K : Nat → Value → Prop} : rowK false n H K = newV H K := Eq.trans rfl rfl
@[go_sem] theorem rowK_true {n : Nat} {K : Nat → Value → Prop} {l : Lk K} : rowK true n H (hid K l) = newK H (hid (fun b => K b (litV b n)) ⟨⟩) := Eq.trans rfl rfl
@[go_sem] theorem aBuildSlice_eq {t : TypeId} {n : Nat} {l : List (Nat × A)} : aBuildSlice P t n l H KH = onSome (bsOf P t) (hid (fun f => andK (n * f.2.1 ≤ 16777216) (hid (andK (l.map (·.1) = List.range n) (hid (letA (l.map (·.2)) (hid (fun l =>
    deepL H l (hid (fun ds H => andK (szs f.2.1 ds) (hid (rowK f.2.2 n H (hid (fun b v => KH (.own b v) (upd H b (.arr f.1 f.2.1 v ds))) ⟨⟩)) ⟨⟩)) ⟨⟩)) ⟨⟩)) ⟨⟩)) ⟨⟩)) ⟨⟩) := by
  simp only [hid, szs, aBuildSlice, bsOf]
  cases P.underlying t with
  | none => rfl
  | some u =>
    cases u with
    | slice e =>
      simp only
      cases P.info? e with
      | none => rfl
      | some i =>
        cases zeroOf P e with
        | none => rfl
        | some zs =>
          simp only
          by_cases h : zs.length = i.size ∧ 0 < i.size
          · rw [if_pos h]
            simp only [hid, szs, onSome, h.1, h.2, true_and, andK, letA]
          · rw [if_neg h]
            simp only [hid, szs, onSome, eq_iff_iff, iff_false]
            rintro ⟨a, b, _⟩
            exact h ⟨a, b⟩
    | _ => rfl
def mkOf (P : Program) (t : TypeId) : Option (TypeId × Nat × Nat × D) := match P.underlying t with
  | some (.slice e) => match P.info? e, zeroDOf P e with
    | some i, some zd => if 0 < i.size ∧ zd.cells.length = i.size ∧ 0 < i.bytes then some (e, i.size, i.bytes, zd) else none
    | _, _ => none
  | _ => none
@[go_sem] theorem aMakeSlice_eq {t : TypeId} {l c : A} : aMakeSlice P t l c H KH = onSome (mkOf P t) (hid (fun f => onInt l (hid (fun n => onInt c (hid (fun m => andK (m = n ∧ 0 ≤ n ∧ n * f.2.2.1 ≤ 140737488355328) (hid (letA n.toNat (hid (fun n =>
    newV H (hid (fun b v => KH (.own b v) (upd H b (.arr f.1 f.2.1 v (List.replicate n f.2.2.2)))) ⟨⟩)) ⟨⟩)) ⟨⟩)) ⟨⟩)) ⟨⟩)) ⟨⟩) := by
  simp only [hid, szs, aMakeSlice, mkOf]
  cases P.underlying t with
  | none => rfl
  | some u =>
    cases u with
    | slice e =>
      simp only
      cases P.info? e with
      | none => rfl
      | some i =>
        cases zeroDOf P e with
        | none => rfl
        | some zd =>
          simp only
          by_cases h : 0 < i.size ∧ zd.cells.length = i.size ∧ 0 < i.bytes
          · rw [if_pos h]
            simp only [hid, szs, onSome, onInt, h.1, h.2.1, h.2.2, true_and, andK, letA, and_assoc]
          · rw [if_neg h]
            simp only [hid, szs, onSome, eq_iff_iff, iff_false]
            rintro ⟨a, b, hh⟩
            cases l <;> try exact hh.elim
            rename_i x
            cases x <;> try exact hh.elim
            cases c <;> try exact hh.elim
            rename_i x
            cases x <;> try exact hh.elim
            simp only [hid, szs, intA] at hh
            exact h ⟨a, b, hh.2.2.2.1⟩
    | _ => rfl
end
end Go.Aug
