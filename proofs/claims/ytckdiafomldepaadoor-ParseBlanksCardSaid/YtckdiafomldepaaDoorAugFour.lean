/- The abstract layer: abstract values and heaps, what code does to them, the conditions of its operations as equations; no conditions of its own. -/
import Derived.Test.YtckdiafomldepaaDoorAugThree
import Derived.Laws.BitsLemmas
import Derived.Laws.Bits64
import Derived.ChangeArms
import Derived.DataReads
import GoSem.ClaimChange
import Derived.Lib.LaidTab
import Derived.Stop.LaidErr
import Derived.ChangeSame
import Derived.ChangeVars
import Derived.JoinedOf
import Derived.RowKit
import Derived.Carry
import Derived.OpenShut
set_option linter.all false
set_option linter.unusedVariables false
set_option linter.unusedSimpArgs false
set_option linter.unusedSectionVars false

/-
  The abstract layer, part U: comparing, reckoning and converting, said so that they can be reckoned out; what is handed back.
-/
set_option linter.unusedSimpArgs false
namespace Go.Aug
section
variable {P : Program} {V : Env} {H : Heap} {K : A → Prop}
variable {t : TypeId} {l : Bool} {k : IntKind} {a b : Int}
@[go_sem] theorem aBin_add : aBin P V .add t l (.d (.int k a)) (.d (.int k b)) K = K (.d (.int k (k.wrap (a + b)))) := by simp [hid, aBin, intOp]
@[go_sem] theorem aBin_sub : aBin P V .sub t l (.d (.int k a)) (.d (.int k b)) K = K (.d (.int k (k.wrap (a - b)))) := by simp [hid, aBin, intOp]
@[go_sem] theorem aBin_mul : aBin P V .mul t l (.d (.int k a)) (.d (.int k b)) K = K (.d (.int k (k.wrap (a * b)))) := by simp [hid, aBin, intOp]
@[go_sem] theorem aBin_quo : aBin P V .quo t l (.d (.int k a)) (.d (.int k b)) K = andK (b ≠ 0) (hid (K (.d (.int k (k.wrap (a.tdiv b))))) ⟨⟩) := by simp [hid, aBin, intOp, andK]
@[go_sem] theorem aBin_rem : aBin P V .rem t l (.d (.int k a)) (.d (.int k b)) K = andK (b ≠ 0) (hid (K (.d (.int k (a.tmod b)))) ⟨⟩) := by simp [hid, aBin, intOp, andK]
@[go_sem] theorem aBin_eql : aBin P V .eql t l (.d (.int k a)) (.d (.int k b)) K = K (.d (.bool (decide (a = b)))) := by simp [hid, aBin, intOp]
@[go_sem] theorem aBin_neq : aBin P V .neq t l (.d (.int k a)) (.d (.int k b)) K = K (.d (.bool (!decide (a = b)))) := by simp [hid, aBin, intOp]
@[go_sem] theorem aBin_lss : aBin P V .lss t l (.d (.int k a)) (.d (.int k b)) K = K (.d (.bool (decide (a < b)))) := by simp [hid, aBin, intOp]
@[go_sem] theorem aBin_leq : aBin P V .leq t l (.d (.int k a)) (.d (.int k b)) K = K (.d (.bool (decide (a ≤ b)))) := by simp [hid, aBin, intOp]
@[go_sem] theorem aBin_gtr : aBin P V .gtr t l (.d (.int k a)) (.d (.int k b)) K = K (.d (.bool (decide (b < a)))) := by simp [hid, aBin, intOp]
@[go_sem] theorem aBin_geq : aBin P V .geq t l (.d (.int k a)) (.d (.int k b)) K = K (.d (.bool (decide (b ≤ a)))) := by simp [hid, aBin, intOp]
variable {s u : ByteArray}
@[go_sem] theorem aBin_sadd : aBin P V .add t l (.d (.str s)) (.d (.str u)) K = andK (s.size + u.size ≤ 9223372036854775807) (hid (K (.d (.str (s ++ u)))) ⟨⟩) := Eq.trans rfl rfl
@[go_sem] theorem aBin_seql : aBin P V .eql t l (.d (.str s)) (.d (.str u)) K = K (.d (.bool (decide (s = u)))) := Eq.trans rfl rfl
@[go_sem] theorem aBin_sneq : aBin P V .neq t l (.d (.str s)) (.d (.str u)) K = K (.d (.bool (!decide (s = u)))) := Eq.trans rfl rfl
@[go_sem] theorem aBin_eqBool {a b : Bool} : aBin P V .eql t l (.d (.bool a)) (.d (.bool b)) K = andK (isBoolT P t = true) (hid (K (.d (.bool (a == b)))) ⟨⟩) := by simp [hid, aBin, aEq, andK]
@[go_sem] theorem aBin_neBool {a b : Bool} : aBin P V .neq t l (.d (.bool a)) (.d (.bool b)) K = andK (isBoolT P t = true) (hid (K (.d (.bool !(a == b)))) ⟨⟩) := by simp [hid, aBin, aEq, andK]
variable {g g' : Nat}
@[go_sem] theorem aBin_eqSent : aBin P V .eql t l (.d (.sent g)) (.d (.sent g')) K = andK (errTy P V t = true ∧ V.G g = some (.sent g) ∧ V.G g' = some (.sent g')) (hid (K (.d (.bool (decide (g = g'))))) ⟨⟩) := by simp [hid, aBin, aEq, andK, and_assoc]
@[go_sem] theorem aBin_eqSentNil : aBin P V .eql t l (.d (.sent g)) (.d (.raw .nilIface)) K = andK (isIface P t = true) (hid (K (.d (.bool false))) ⟨⟩) := by simp [hid, aBin, aEq, andK]
@[go_sem] theorem aBin_neSentNil : aBin P V .neq t l (.d (.sent g)) (.d (.raw .nilIface)) K = andK (isIface P t = true) (hid (K (.d (.bool true))) ⟨⟩) := by simp [hid, aBin, aEq, andK]
@[go_sem] theorem aBin_neRawNil {t' : TypeId} {u : Value} : aBin P V .neq t l (.d (.raw (.iface t' u))) (.d (.raw .nilIface)) K = andK (isIface P t = true) (hid (K (.d (.bool true))) ⟨⟩) := by simp [hid, aBin, aEq, andK]
@[go_sem] theorem aBin_eqNilNil : aBin P V .eql t l (.d (.raw .nilIface)) (.d (.raw .nilIface)) K = andK (l = true ∧ isIface P t = true) (hid (K (.d (.bool true))) ⟨⟩) := by simp [hid, aBin, aEq, andK, and_assoc]
@[go_sem] theorem aBin_neNilNil : aBin P V .neq t l (.d (.raw .nilIface)) (.d (.raw .nilIface)) K = andK (l = true ∧ isIface P t = true) (hid (K (.d (.bool false))) ⟨⟩) := by simp [hid, aBin, aEq, andK, and_assoc]
@[go_sem] theorem aUn_neg : aUn .neg (.d (.int k a)) K = K (.d (.int k (k.wrap (0 - a)))) := Eq.trans rfl rfl
@[go_sem] theorem aUn_not {b : Bool} : aUn .not (.d (.bool b)) K = K (.d (.bool (!b))) := Eq.trans rfl rfl
inductive Conv where
  | int (k : IntKind)
  | str
  | toStr
  | toBytes
def convOf (P : Program) (s d : TypeId) : Option Conv := match P.underlying s, P.underlying d with
  | some _, some (.int k) => some (.int k)
  | some .string, some .string => some .str
  | some (.slice e), some .string => match P.underlying e with
    | some (.int .u8) => some .toStr
    | _ => none
  | some .string, some (.slice e) => match P.underlying e with
    | some (.int .u8) => some .toBytes
    | _ => none
  | _, _ => none
def cvA (x : A) (H : Heap) (K : A → Prop) : Conv → Prop
  | .int k => onInt x fun n => K (.d (.int k (k.wrap n)))
  | .str => match x with
    | .d (.str s) => K (.d (.str s))
    | _ => False
  | .toStr => srcK H x fun es => ∃ bs : List UInt8, es = bs.map byteD ∧ K (.d (.str ⟨bs.toArray⟩))
  | .toBytes => match x with
    | .d (.str s) => K (.d (.slice (s.data.toList.map byteD)))
    | _ => False
@[go_sem] theorem cvA_int {x : A} : cvA x H K (.int k) = onInt x (hid (fun n => K (.d (.int k (k.wrap n)))) ⟨⟩) := Eq.trans rfl rfl
@[go_sem] theorem aConv_eq {s d : TypeId} {x : A} : aConv P s d x H K = onSome (convOf P s d) (hid (fun c => cvA x H K c) ⟨⟩) := by
  simp only [hid, aConv, convOf]
  cases P.underlying s with
  | none => rfl
  | some a =>
    cases P.underlying d with
    | none => cases a <;> rfl
    | some b =>
      cases b with
      | int k =>
        cases a <;> (simp only [hid, onSome, cvA, onInt]; cases x <;> first | rfl | (rename_i x; cases x <;> rfl))
      | string =>
        cases a with
        | string =>
          simp only [hid, onSome, cvA]
          cases x <;> first | rfl | (rename_i x; cases x <;> rfl)
        | slice e =>
          simp only
          cases P.underlying e with
          | none => rfl
          | some u => cases u <;> first | rfl | (rename_i k; cases k <;> rfl)
        | _ => rfl
      | slice e =>
        cases a with
        | string =>
          simp only
          cases P.underlying e with
          | none => rfl
          | some u => cases u <;> first | rfl | (rename_i k; cases k <;> first | rfl | (cases x <;> first | rfl | (rename_i x; cases x <;> rfl)))
        | _ => rfl
      | _ => cases a <;> rfl
end
def numb : Nat → List A → List (Nat × A)
  | _, [] => []
  | i, x :: l => (i, x) :: numb (i + 1) l
@[go_sem] theorem numb_nil {i : Nat} : numb i [] = [] := Eq.trans rfl rfl
@[go_sem] theorem numb_cons {i : Nat} {x : A} {l : List A} : numb i (x :: l) = (i, x) :: numb (i + 1) l := Eq.trans rfl rfl
theorem mkF_numb : ∀ (l : List A) (i j : Nat), mkF (numb i l) j = if i ≤ j then l.getD (j - i) .undef else .undef
  | [], i, j => by simp [numb, mkF]
  | x :: l, i, j => by
    simp only [numb, mkF, mkF_numb l]
    by_cases h : j = i
    · subst h; simp
    · rw [if_neg h]
      by_cases h1 : i ≤ j
      · rw [if_pos h1, if_pos (by omega)]
        have : j - i = (j - (i + 1)) + 1 := by omega
        rw [this]; rfl
      · rw [if_neg h1, if_neg (by omega)]
theorem argsF_numb (l : List A) : argsF l = mkF (numb 0 l) := by
  funext j
  rw [mkF_numb]
  simp [argsF]
theorem svc_start {P : Program} {V : Env} {N : Nat} {s : SCode} {args : List A} {H : Heap} {Q : Post}
    (h : letA (numb 0 args) (hid (fun l => svc P V N s Q (mkF l) H) ⟨⟩)) : svc P V N s Q (argsF args) H := by
  rw [argsF_numb]; exact h
@[go_sem] theorem unraw_int {k : IntKind} {n : Int} : unraw (.int k n) = .d (.int k n) := Eq.trans rfl rfl
@[go_sem] theorem unraw_bool {b : Bool} : unraw (.bool b) = .d (.bool b) := Eq.trans rfl rfl
@[go_sem] theorem unraw_str {s : ByteArray} : unraw (.str s) = .d (.str s) := Eq.trans rfl rfl
@[go_sem] theorem unraw_slice {l : List D} : unraw (.slice l) = .d (.slice l) := Eq.trans rfl rfl
@[go_sem] theorem unraw_sent {g : Nat} : unraw (.sent g) = .d (.sent g) := Eq.trans rfl rfl
@[go_sem] theorem cells_int {k : IntKind} {n : Int} : D.cells (.int k n) = [.int k n] := Eq.trans rfl rfl
@[go_sem] theorem cells_bool {b : Bool} : D.cells (.bool b) = [.bool b] := Eq.trans rfl rfl
@[go_sem] theorem cells_str {s : ByteArray} : D.cells (.str s) = [.str s] := Eq.trans rfl rfl
@[go_sem] theorem cells_slice {l : List D} : D.cells (.slice l) = [.slice l] := Eq.trans rfl rfl
@[go_sem] theorem cells_agg {l : List D} : D.cells (.agg l) = l := Eq.trans rfl rfl
@[go_sem] theorem cells_sent {g : Nat} : D.cells (.sent g) = [.sent g] := Eq.trans rfl rfl
@[go_sem] theorem cells_raw {v : Value} : D.cells (.raw v) = [.raw v] := Eq.trans rfl rfl
@[go_sem] theorem Acells_d {x : D} : A.cells (.d x) = x.cells.map .d := Eq.trans rfl rfl
@[go_sem] theorem Acells_agg {l : List A} : A.cells (.agg l) = l := Eq.trans rfl rfl
@[go_sem] theorem Acells_nils : A.cells .nils = [.nils] := Eq.trans rfl rfl
@[go_sem] theorem Acells_own {b : Nat} {v : Value} : A.cells (.own b v) = [.own b v] := Eq.trans rfl rfl
@[go_sem] theorem Acells_ref {b o : Nat} : A.cells (.ref b o) = [.ref b o] := Eq.trans rfl rfl
@[go_sem] theorem good_d {x : D} : A.good (.d x) = true := Eq.trans rfl rfl
@[go_sem] theorem good_agg {l : List A} : A.good (.agg l) = true := Eq.trans rfl rfl
@[go_sem] theorem good_nils : A.good .nils = true := Eq.trans rfl rfl
@[go_sem] theorem good_own {b : Nat} {v : Value} : A.good (.own b v) = true := Eq.trans rfl rfl
@[go_sem] theorem good_ref {b o : Nat} : A.good (.ref b o) = true := Eq.trans rfl rfl
def aggO : Option (List D) → List A → A
  | some ds, _ => .d (.agg ds)
  | none, cs => .agg cs
@[go_sem] theorem aggN_eq {cs : List A} : aggN cs = aggO (allD cs) cs := by unfold aggN; cases allD cs <;> rfl
@[go_sem] theorem aggO_some {ds : List D} {cs : List A} : aggO (some ds) cs = .d (.agg ds) := Eq.trans rfl rfl
@[go_sem] theorem aggO_none {cs : List A} : aggO none cs = .agg cs := Eq.trans rfl rfl
def consD (x : D) : Option (List D) → Option (List D)
  | some l => some (x :: l)
  | none => none
@[go_sem] theorem consD_some {x : D} {l : List D} : consD x (some l) = some (x :: l) := Eq.trans rfl rfl
@[go_sem] theorem consD_none {x : D} : consD x none = none := Eq.trans rfl rfl
@[go_sem] theorem allD_nil : allD [] = some [] := Eq.trans rfl rfl
@[go_sem] theorem allD_d {x : D} {l : List A} : allD (.d x :: l) = consD x (allD l) := by simp only [allD]; cases allD l <;> rfl
@[go_sem] theorem allD_nils {l : List A} : allD (.nils :: l) = none := Eq.trans rfl rfl
attribute [go_sem] List.map_cons List.map_nil List.length_cons List.length_nil List.getElem?_cons_succ List.getElem?_cons_zero List.drop_succ_cons List.drop_zero List.take_succ_cons List.take_zero List.cons_append List.nil_append List.append_nil decide_true and_true true_and Option.map_some Option.map_none List.set_cons_zero List.set_cons_succ
@[go_sem] theorem range_0 : List.range 0 = [] := Eq.trans rfl rfl
@[go_sem] theorem sagain_nil {P : Program} {V : Env} {N : Nat} {F : Nat → A} {H : Heap} : sagain P V N F H [] = True := Eq.trans rfl rfl
@[go_sem] theorem sagain_cons {P : Program} {V : Env} {N : Nat} {F : Nat → A} {H : Heap} {d : Nat} {gd : Option (Option Nat × Bool)} {op : Op} {js : List SOper} : sagain P V N F H ({ dst := some d, gd := gd, op := op } :: js) =
    (letA (F d) (hid (fun z => sguard N F { dst := some d, gd := gd, op := op } (hid (aopO P V N op F H (hid (fun y _ => y = z) ⟨⟩) noP) ⟨⟩) (hid (z = .tup []) ⟨⟩)) ⟨⟩) ∧ sagain P V N F H js) := Eq.trans rfl rfl
@[go_sem] theorem FrameIs_nil {F : Nat → A} : FrameIs F [] = True := Eq.trans rfl rfl
@[go_sem] theorem FrameIs_cons {F : Nat → A} {s : Nat} {x : A} {l : List (Nat × A)} : FrameIs F ((s, x) :: l) = (F s = x ∧ FrameIs F l) := Eq.trans rfl rfl
def roundQ (V : Env) (N : Nat) {X : Type} (l : X → List (Nat × A)) (J : X → Heap → Prop) (m : X → Nat) (x : X) (F' : Nat → A) (H' : Heap) : Prop :=
  turn V N F' H' fun F' H' => ∃ x' H'', J x' H'' ∧ m x' < m x ∧ FrameIs F' (l x') ∧ LeH H'' H'
theorem roundQ_next {V : Env} {N : Nat} {X : Type} {l : X → List (Nat × A)} {J : X → Heap → Prop} {m : X → Nat} {x : X} {F' : Nat → A} {H' : Heap} (x' : X) (H'' : Heap) (h1 : J x' H'') (h2 : m x' < m x) (h3 : FrameIs F' (l x')) (h4 : LeH H'' H') : roundQ V N l J m x F' H' :=
  turn.refl ⟨x', H'', h1, h2, h3, h4⟩
theorem svc_loop {P : Program} {V : Env} {N : Nat} {c : SCode} {Q : Post} {F : Nat → A} {H : Heap} {X : Type} (l : X → List (Nat × A)) (J : X → Heap → Prop) (m : X → Nat) (x0 : X) (H0 : Heap)
    (h0 : J x0 H0) (hF : FrameIs F (l x0)) (hH : LeH H0 H)
    (h : ∀ x H, J x H → letA (l x) (hid (fun fl => svc P V N c (thenQ (hid (fun F' H' => roundQ V N l J m x F' H') ⟨⟩) Q) (mkF fl) H) ⟨⟩)) : svc P V N (.loop c) Q F H :=
  turn.refl ⟨X, l, J, m, x0, H0, h0, hF, hH, h⟩
theorem leH_upd {G H : Heap} {b : Nat} {o : AObj} (hb : G b = none) (h : LeH G H) : LeH G (upd H b o) := by
  intro k x hx
  unfold upd
  split
  · rename_i e; subst e; rw [hb] at hx; cases hx
  · exact h k x hx
theorem leH_del {G H : Heap} {b : Nat} (hb : G b = none) (h : LeH G H) : LeH G (del H b) := by
  intro k x hx
  unfold del
  split
  · rename_i e; subst e; rw [hb] at hx; cases hx
  · exact h k x hx
def eqn (a b : Nat) : Bool := decide (a = b)
@[go_sem] theorem eqn_self {a : Nat} : eqn a a = true := by simp [eqn]
theorem eqn_ne {a b : Nat} (h : a ≠ b) : eqn a b = false := by simp [eqn, h]
@[go_sem] theorem upd_at {H : Heap} {b k : Nat} {o : AObj} : upd H b o k = cnd (eqn k b) (some o) (hid (H k) ⟨⟩) := by
  simp only [upd, cnd, eqn, hid, decide_eq_true_eq]
theorem fresh_ne {H : Heap} {b : Nat} (h : H b = none) (r : Nat) (hr : (H r).isSome = true) : eqn r b = false :=
  eqn_ne (by rintro rfl; rw [h] at hr; cases hr)
theorem fresh_ne' {H : Heap} {b : Nat} (h : H b = none) (r : Nat) (hr : (H r).isSome = true) : eqn b r = false :=
  eqn_ne (by rintro rfl; rw [h] at hr; cases hr)
theorem newK_intro {H : Heap} {f : Nat → Prop} {l : Lk f} (h : ∀ b, H b = none → (∀ r, (H r).isSome = true → eqn r b = false) → (∀ r, (H r).isSome = true → eqn b r = false) → f b) : newK H (hid f l) :=
  fun b hb => h b hb (fresh_ne hb) (fresh_ne' hb)
theorem newV_intro {H : Heap} {f : Nat → Value → Prop} {l : Lk f} (h : ∀ b v, H b = none → (∀ r, (H r).isSome = true → eqn r b = false) → (∀ r, (H r).isSome = true → eqn b r = false) → v.ownBlock = some b → f b v) : newV H (hid f l) :=
  fun b v hb hv => h b v hb (fresh_ne hb) (fresh_ne' hb) hv
theorem growV_intro {H : Heap} {b0 : Nat} {f : Nat → Value → Prop} {l : Lk f} (h : ∀ b v, (b = b0 ∨ H b = none) → (∀ r, (del H b0 r).isSome = true → eqn r b = false) → (∀ r, (del H b0 r).isSome = true → eqn b r = false) → v.ownBlock = some b → f b v) : growV H b0 (hid f l) :=
  fun b v hb hv => h b v hb
    (fun r hr => eqn_ne (by rintro rfl; unfold del at hr; split at hr <;> simp_all))
    (fun r hr => eqn_ne (by rintro rfl; unfold del at hr; split at hr <;> simp_all)) hv
theorem upd_eq_none {H : Heap} {b k : Nat} {o : AObj} : upd H b o k = none ↔ k ≠ b ∧ H k = none := by
  unfold upd; split <;> simp_all
theorem del_eq_none {H : Heap} {b k : Nat} : del H b k = none ↔ k = b ∨ H k = none := by
  unfold del; split <;> simp_all
def nilQ (es : List D) (K : Bool → Prop) : Prop := K false ∧ (es = [] → K true)
theorem nilQ_intro {es : List D} {K : Bool → Prop} {l : Lk K} (h1 : K false) (h2 : es = [] → K true) : nilQ es (hid K l) := ⟨h1, h2⟩
attribute [go_sem] Option.isSome_some Option.isSome_none
theorem wrap64 {n : Int} (h1 : -9223372036854775808 ≤ n) (h2 : n < 9223372036854775808) : IntKind.i64.wrap n = n := by
  rw [IntKind.wrap_i64]; omega
def planAt : List (Nat × Plan) → Nat → Plan
  | [], _ => .done
  | (i, p) :: l, k => if k = i then p else planAt l k
def keepAt : List (Nat × List Nat) → Nat → Option (List Nat)
  | [], _ => some []
  | (i, p) :: l, k => if k = i then some p else keepAt l k
section
variable {P : Program} {V : Env} {N : Nat} {F : Nat → A} {H : Heap} {K : A → Prop} {KH : A → Heap → Prop} {KU : Heap → Prop} {KP : Value → Heap → Prop}
attribute [go_sem] Bool.and_true
end
end Go.Aug

/-
  The abstract layer, part V: a row that is appended to, round by round.
-/
namespace Go.Aug
theorem LeH.free {G H : Heap} (h : LeH G H) {b : Nat} (hb : H b = none) : G b = none := by
  cases hg : G b with
  | none => rfl
  | some o => rw [h b o hg] at hb; cases hb
theorem LeH.up {G H : Heap} {b : Nat} {o : AObj} (h : LeH G H) (hb : H b = none) : LeH G (upd H b o) := leH_upd (h.free hb) h
@[go_sem] theorem frzM_empty {ms : List Bool} {H : Heap} {K : List A → Heap → Prop} : frzM ms H [] K = K [] H := by
  rcases ms with _ | ⟨m, ms⟩
  · simp only [frzM]
  · cases m <;> simp only [frzM]
theorem upd_comm {H : Heap} {b c : Nat} {o o' : AObj} (h : b ≠ c) : upd (upd H b o) c o' = upd (upd H c o') b o := by
  funext k; unfold upd; split <;> split <;> simp_all

/-- A reading's element as one deep value. -/
def elemOf (P : Program) (e : TypeId) (cs : List D) : D := match P.underlying e with
  | some (.struct _) => .agg cs
  | _ => cs.headD (.slice [])
/-- The cells of a value of a type: no pointers, maps, interfaces, functions. -/
def HasT (P : Program) : Nat → TypeId → List D → Prop
  | 0, _, _ => False
  | n + 1, t, ds => match P.underlying t with
    | some .bool => ∃ b, ds = [.bool b]
    | some (.int k) => ∃ m, ds = [.int k m] ∧ (Lit.int k m).wf = true
    | some .string => ∃ s : ByteArray, ds = [.str s] ∧ s.size ≤ maxLen
    | some (.slice e) => ∃ ess : List (List D), ds = [.slice (ess.map (elemOf P e))] ∧ ess.length ≤ maxLen ∧ ∀ cs ∈ ess, HasT P n e cs
    | some (.struct fs) => ds.length = P.cellsOf t ∧ ∀ (i : Nat) (f : Field), fs[i]? = some f → HasT P n f.type ((ds.drop f.offset).take (P.cellsOf f.type))
    | _ => False
def contig (P : Program) : Nat → List Field → Option Nat
  | off, [] => some off
  | off, f :: fs => if f.offset = off then contig P (off + P.cellsOf f.type) fs else none
/-- Types that hold such types alone. -/
def closedT (P : Program) (T : List TypeId) : Bool := T.all fun t => match P.underlying t with
  | some .bool | some (.int _) | some .string => P.cellsOf t == 1
  | some (.slice e) => P.cellsOf t == 1 && T.contains e && decide (0 < P.cellsOf e)
  | some (.struct fs) => fs.toList.all (fun f => T.contains f.type) && (contig P 0 fs.toList == some (P.cellsOf t))
  | _ => false
def RepL (V : Env) (w : World) (Z : Nat → Prop) (vs : List Value) (ds : List D) : Prop :=
  vs.length = ds.length ∧ ∀ (j : Nat) (v : Value) (d : D), vs[j]? = some v → ds[j]? = some d → RepD V w Z v d ∧ v.oneCell' = true
section
variable {V : Env} {w : World} {Z : Nat → Prop} {P : Program}
theorem RepL.nil : RepL V w Z [] [] := ⟨rfl, fun j v d h => by simp at h⟩
theorem RepL.one {v : Value} {d : D} (h : RepD V w Z v d) (h1 : v.oneCell' = true) : RepL V w Z [v] [d] := ⟨rfl, fun j v' d' hv hd => by
  cases j with
  | zero => simp at hv hd; subst hv hd; exact ⟨h, h1⟩
  | succ j => simp at hv⟩
theorem RepL.append {a b : List Value} {x y : List D} (h : RepL V w Z a x) (k : RepL V w Z b y) : RepL V w Z (a ++ b) (x ++ y) := by
  refine ⟨by simp [h.1, k.1], fun j v d hv hd => ?_⟩
  by_cases e : j < a.length
  · rw [List.getElem?_append_left e] at hv
    rw [List.getElem?_append_left (by rw [← h.1]; exact e)] at hd
    exact h.2 j v d hv hd
  · rw [List.getElem?_append_right (by omega)] at hv
    rw [List.getElem?_append_right (by rw [← h.1]; omega), ← h.1] at hd
    exact k.2 _ v d hv hd
theorem elemOf_cells {n : Nat} {e : TypeId} {cs : List D} (h : HasT P n e cs) : (elemOf P e cs).cells = cs := by
  cases n with
  | zero => exact h.elim
  | succ n =>
    simp only [HasT] at h
    unfold elemOf
    split at h
    · rename_i hu; obtain ⟨b, rfl⟩ := h; simp only [hu]; rfl
    · rename_i hu; obtain ⟨b, rfl, _⟩ := h; simp only [hu]; rfl
    · rename_i hu; obtain ⟨b, rfl, _⟩ := h; simp only [hu]; rfl
    · rename_i hu; obtain ⟨b, rfl, _⟩ := h; simp only [hu]; rfl
    · rename_i hu; simp only [hu]; rfl
    · exact h.elim
theorem closedT_at {T : List TypeId} (h : closedT P T = true) {t : TypeId} (ht : t ∈ T) : (match P.underlying t with
  | some .bool | some (.int _) | some .string => P.cellsOf t == 1
  | some (.slice e) => P.cellsOf t == 1 && T.contains e && decide (0 < P.cellsOf e)
  | some (.struct fs) => fs.toList.all (fun f => T.contains f.type) && (contig P 0 fs.toList == some (P.cellsOf t))
  | _ => false) = true := List.all_eq_true.1 h t ht
theorem HasT.length {T : List TypeId} (hT : closedT P T = true) {n : Nat} {t : TypeId} (ht : t ∈ T) {ds : List D} (h : HasT P n t ds) : ds.length = P.cellsOf t := by
  have hc := closedT_at hT ht
  cases n with
  | zero => exact h.elim
  | succ n =>
    simp only [HasT] at h
    split at h
    · rename_i hu; obtain ⟨b, rfl⟩ := h; simp only [hu, beq_iff_eq] at hc; simp [hc]
    · rename_i hu; obtain ⟨b, rfl, _⟩ := h; simp only [hu, beq_iff_eq] at hc; simp [hc]
    · rename_i hu; obtain ⟨b, rfl, _⟩ := h; simp only [hu, beq_iff_eq] at hc; simp [hc]
    · rename_i hu; obtain ⟨b, rfl, _⟩ := h; simp only [hu, Bool.and_eq_true, beq_iff_eq] at hc; simp [hc.1.1]
    · exact h.1
    · exact h.elim
/-- A struct's fields, one behind the other. -/
theorem fields_rep {n : Nat} {cs : List Value} : ∀ (fs : List Field) (off fin : Nat), contig P off fs = some fin → fin ≤ cs.length →
    (∀ f ∈ fs, ∃ ds : List D, ds.length = P.cellsOf f.type ∧ HasT P n f.type ds ∧ RepL V w Z ((cs.drop f.offset).take (P.cellsOf f.type)) ds) →
    off ≤ fin ∧ ∃ ds : List D, ds.length = fin - off ∧ RepL V w Z ((cs.drop off).take (fin - off)) ds ∧ ∀ f ∈ fs, off ≤ f.offset ∧ HasT P n f.type ((ds.drop (f.offset - off)).take (P.cellsOf f.type))
  | [], off, fin, h, hl, _ => by
    simp only [contig, Option.some.injEq] at h
    subst h
    exact ⟨Nat.le_refl _, [], by simp, by rw [Nat.sub_self, List.take_zero]; exact RepL.nil, fun f hf => by simp at hf⟩
  | f :: fs, off, fin, h, hl, hx => by
    simp only [contig] at h
    split at h
    · rename_i ho
      obtain ⟨x, hxl, hxt, hxr⟩ := hx f (by simp)
      obtain ⟨h1, ds, h2, h3, h4⟩ := fields_rep fs _ fin h hl (fun g hg => hx g (by simp [hg]))
      rw [ho] at hxr
      have e : (cs.drop off).take (fin - off) = (cs.drop off).take (P.cellsOf f.type) ++ (cs.drop (off + P.cellsOf f.type)).take (fin - (off + P.cellsOf f.type)) := by
        have : fin - off = P.cellsOf f.type + (fin - (off + P.cellsOf f.type)) := by omega
        rw [this, List.take_add, List.drop_drop]
      refine ⟨by omega, x ++ ds, by simp [hxl, h2]; omega, by rw [e]; exact hxr.append h3, ?_⟩
      intro g hg
      rcases List.mem_cons.1 hg with rfl | hg
      · rw [ho, Nat.sub_self, List.drop_zero, List.take_append_of_le_length (by omega), List.take_of_length_le (by omega)]
        exact ⟨Nat.le_refl _, hxt⟩
      · obtain ⟨q1, q2⟩ := h4 g hg
        refine ⟨by omega, ?_⟩
        have : g.offset - off = x.length + (g.offset - (off + P.cellsOf f.type)) := by omega
        rw [this, List.drop_append]
        rw [List.drop_of_length_le (by omega), List.nil_append]
        have : x.length + (g.offset - (off + P.cellsOf f.type)) - x.length = g.offset - (off + P.cellsOf f.type) := by omega
        rw [this]; exact q2
    · cases h
theorem cells?_some {base : Nat} {a : Addr} {n : Nat} {cs : List Value} (h : w.cells? base a n = some cs) : cs.length = n ∧ ∀ i, i < n → w.cell? (a.add i) = cs[i]? := by
  unfold World.cells? at h
  split at h
  · refine ⟨by simpa using mapM_some_length h, fun i hi => ?_⟩
    exact mapM_some_get h i i (by simp [hi])
  · cases h
theorem cell_addr {a : Addr} {v : Value} (h : w.cell? a = some v) : a = ⟨a.block, a.off, none⟩ ∧ a.block < w.heap.size := by
  obtain ⟨b, o, s⟩ := a
  unfold World.cell? at h
  simp only at h
  split at h
  · rename_i hh
    split at h
    · cases h
    · rename_i hs
      have : s = none := by cases s with
        | none => rfl
        | some x => simp at hs
      subst this
      exact ⟨rfl, (Array.getElem?_eq_some_iff.1 hh).1⟩
  · cases h
variable {H : Type} {enc : TypeId × Value → H}
theorem trod_rep {T : List TypeId} (hT : closedT P T = true) (hZ : ∀ b, ¬ Z b) {base : Nat} {sp : Nat → Bool} {held : Bool} : ∀ (fuel : Nat) (t : TypeId) (cs : List Value) (x : DataW H × List MemPlace), t ∈ T →
    DataW.trod enc P w base sp held fuel t cs = some x → ∃ ds : List D, HasT P fuel t ds ∧ RepL V w Z cs ds
  | 0, _, _, _, _, h => by simp [DataW.trod] at h
  | fuel + 1, t, cs, x, ht, h => by
    have hc := closedT_at hT ht
    cases hu : P.underlying t with
    | none => simp only [hu] at hc; cases hc
    | some u =>
      cases u with
      | bool =>
        obtain ⟨b, rfl, _⟩ := DataW.trod_bool hu h
        exact ⟨[.bool b], by simp only [HasT, hu]; exact ⟨b, rfl⟩, .one (.bool b) rfl⟩
      | int k =>
        obtain ⟨n, rfl, _, hw⟩ := DataW.trod_int hu h
        exact ⟨[.int k n], by simp only [HasT, hu]; exact ⟨n, rfl, hw⟩, .one (.int k n) rfl⟩
      | string =>
        obtain ⟨s, rfl, _, hw⟩ := DataW.trod_string hu h
        exact ⟨[.str s], by simp only [HasT, hu]; exact ⟨s, rfl, hw⟩, .one (.str s) rfl⟩
      | slice e =>
        simp only [hu, Bool.and_eq_true, beq_iff_eq, decide_eq_true_eq, List.contains_iff_mem] at hc
        obtain ⟨⟨hc1, he⟩, hpos⟩ := hc
        rcases DataW.trod_slice hu h with ⟨rfl, _⟩ | ⟨a, len, cap, elems, rest, n, hn, rfl, _, hb, hlc, hcm, hel, hget, _⟩
        · exact ⟨[.slice []], by simp only [HasT, hu]; exact ⟨[], rfl, Nat.zero_le _, fun cs h => by simp at h⟩, .one (.empty none 0) rfl⟩
        · obtain rfl : n = fuel := by omega
          have hex : ∀ i, ∃ ds : List D, i < len → HasT P n e ds ∧ ∃ cs', w.cells? base (a.add (i * P.cellsOf e)) (P.cellsOf e) = some cs' ∧ RepL V w Z cs' ds := by
            intro i
            by_cases hi : i < len
            · have := hget i hi
              have hil : elems[i]? = some (elems[i]'(by omega)) := List.getElem?_eq_getElem (by omega)
              rw [hil, Option.bind_eq_some_iff] at this
              obtain ⟨cs', h1, h2⟩ := this
              obtain ⟨ds, h3, h4⟩ := trod_rep hT hZ n e cs' _ he h2
              exact ⟨ds, fun _ => ⟨h3, cs', h1, h4⟩⟩
            · exact ⟨[], fun h => absurd h hi⟩
          obtain ⟨f, hf⟩ := Classical.skolem.1 hex
          let ess : List (List D) := (List.range len).map f
          have hess : ∀ cs ∈ ess, HasT P n e cs := by
            intro cs hcs
            obtain ⟨i, hi, rfl⟩ := List.mem_map.1 hcs
            exact (hf i (List.mem_range.1 hi)).1
          have hesl : ess.length = len := by simp [ess]
          refine ⟨[.slice (ess.map (elemOf P e))], by simp only [HasT, hu]; exact ⟨ess, rfl, by omega, hess⟩, .one ?_ rfl⟩
          by_cases h0 : len = 0
          · have : ess = [] := List.length_eq_zero_iff.1 (by omega)
            rw [this, h0]; exact .empty _ _
          · have hlen : (ess.map (elemOf P e)).length = len := by simp [hesl]
            have hsz : ∀ x ∈ ess.map (elemOf P e), (D.cells x).length = P.cellsOf e := by
              intro x hx
              obtain ⟨cs, hcs, rfl⟩ := List.mem_map.1 hx
              rw [elemOf_cells (hess cs hcs)]
              exact (hess cs hcs).length hT he
            have hfl := flat_length hsz
            have hcell : ∀ i r, i < len → r < P.cellsOf e → ∃ v d, w.cell? ⟨a.block, a.off + (i * P.cellsOf e + r), none⟩ = some v ∧ (flat (ess.map (elemOf P e)))[i * P.cellsOf e + r]? = some d ∧ RepD V w Z v d ∧ v.oneCell' = true := by
              intro i r hi hr
              obtain ⟨h1, cs', h2, h3⟩ := hf i hi
              obtain ⟨h4, h5⟩ := cells?_some h2
              have h6 := h5 r hr
              rw [List.getElem?_eq_getElem (by omega)] at h6
              have hd : (f i)[r]? = some ((f i)[r]'(by rw [← h3.1]; omega)) := List.getElem?_eq_getElem _
              obtain ⟨h7, h8⟩ := h3.2 r _ _ (List.getElem?_eq_getElem (by omega)) hd
              refine ⟨_, _, ?_, ?_, h7, h8⟩
              · rw [← h6]
                have hh := (cell_addr h6).1
                congr 1
                rw [hh]
                have e1 : ((a.add (i * P.cellsOf e)).add r).block = a.block := by unfold Addr.add; split <;> split <;> rfl
                have e2 : ((a.add (i * P.cellsOf e)).add r).off = a.off + (i * P.cellsOf e + r) := by
                  have q : ∀ (b : Addr) (n : Nat), (b.add n).off = b.off + n := by
                    intro b n; unfold Addr.add; split
                    · rename_i h; subst h; rfl
                    · rfl
                  rw [q, q, Nat.add_assoc]
                rw [e1, e2]
              · rw [flat_get hsz i r (by omega) hr]
                have e3 : (ess.map (elemOf P e))[i]'(by omega) = elemOf P e (f i) := by simp [ess]
                rw [e3, elemOf_cells h1, hd]
            have hdiv : ∀ j, j < (flat (ess.map (elemOf P e))).length → j / P.cellsOf e < len ∧ j % P.cellsOf e < P.cellsOf e ∧ j / P.cellsOf e * P.cellsOf e + j % P.cellsOf e = j := by
              intro j hj
              rw [hfl, hlen] at hj
              exact ⟨(Nat.div_lt_iff_lt_mul hpos).2 hj, Nat.mod_lt _ hpos, by rw [Nat.mul_comm]; exact Nat.div_add_mod _ _⟩
            have hcell' : ∀ j (hj : j < (flat (ess.map (elemOf P e))).length), ∃ v, w.cell? ⟨a.block, a.off + j, none⟩ = some v ∧ RepD V w Z v (flat (ess.map (elemOf P e)))[j] ∧ v.oneCell' = true := by
              intro j hj
              obtain ⟨q1, q2, q3⟩ := hdiv j hj
              obtain ⟨v, d, r1, r2, r3, r4⟩ := hcell _ _ q1 q2
              rw [q3] at r1 r2
              rw [List.getElem?_eq_getElem hj, Option.some.injEq] at r2
              exact ⟨v, r1, by rw [r2]; exact r3, r4⟩
            have ha : a = ⟨a.block, a.off, none⟩ ∧ a.block < w.heap.size := by
              obtain ⟨_, cs', h2, h3⟩ := hf 0 (by omega)
              obtain ⟨h4, h5⟩ := cells?_some h2
              have h6 := h5 0 hpos
              rw [List.getElem?_eq_getElem (by omega)] at h6
              have e0 : (a.add (0 * P.cellsOf e)).add 0 = a := by rw [Nat.zero_mul]; rfl
              rw [e0] at h6
              exact cell_addr h6
            rw [ha.1]
            have := RepD.slice (V := V) (w := w) (Z := Z) a.block a.off cap (ess.map (elemOf P e)) (P.cellsOf e) (fun j => (w.cell? ⟨a.block, a.off + j, none⟩).getD undef) (by omega) (hZ _) ha.2 hsz
              (fun j hj => by obtain ⟨v, q, _⟩ := hcell' j hj; simp only [q, Option.getD_some])
              (fun j hj => by obtain ⟨v, q, _, q2⟩ := hcell' j hj; simp only [q, Option.getD_some]; exact q2)
              (fun j hj => by obtain ⟨v, q, q1, _⟩ := hcell' j hj; simp only [q, Option.getD_some]; exact q1)
            rw [hlen] at this
            exact this
      | struct fs =>
        simp only [hu, Bool.and_eq_true, beq_iff_eq, List.all_eq_true, List.contains_iff_mem] at hc
        obtain ⟨hcf, hct⟩ := hc
        obtain ⟨xs, n, hn, _, hcl, hxl, hf⟩ := DataW.trod_struct hu h
        obtain rfl : n = fuel := by omega
        have hall : ∀ f ∈ fs.toList, ∃ ds : List D, ds.length = P.cellsOf f.type ∧ HasT P n f.type ds ∧ RepL V w Z ((cs.drop f.offset).take (P.cellsOf f.type)) ds := by
          intro f hfm
          obtain ⟨i, hi⟩ := List.getElem?_of_mem hfm
          rw [Array.getElem?_toList] at hi
          have h1 := hf i f hi
          have hil : i < xs.length := by rw [hxl]; exact (Array.getElem?_eq_some_iff.1 hi).1
          rw [List.getElem?_eq_getElem hil] at h1
          obtain ⟨ds, h2, h3⟩ := trod_rep hT hZ n f.type _ _ (hcf f hfm) h1
          exact ⟨ds, h2.length hT (hcf f hfm), h2, h3⟩
        obtain ⟨_, ds, h1, h2, h3⟩ := fields_rep fs.toList 0 _ hct (by omega) hall
        rw [Nat.sub_zero] at h1 h2
        rw [List.drop_zero, List.take_of_length_le (by omega)] at h2
        refine ⟨ds, ?_, h2⟩
        simp only [HasT, hu]
        refine ⟨h1, fun i f hi => ?_⟩
        have := (h3 f (by rw [Array.mem_toList_iff]; exact Array.mem_of_getElem? hi)).2
        rwa [Nat.sub_zero] at this
      | _ => simp only [hu] at hc; cases hc
end
end Go.Aug

/-
  The abstract layer: what is read as data is a deep value of its type's shape, and no larger than the reading (a measure of the reading that counts each value and each letter).
-/
namespace Go.Aug
section
variable {V : Env} {w : World} {Z : Nat → Prop} {P : Program}
variable {H : Type} {enc : TypeId × Value → H} {f : DataW H → Nat}
end
end Go.Aug

/-
  The abstract layer: what a row's list of package variables (errors made by errors.New) gives the environment.
-/
namespace Go.Aug
open Go.ChangeShapes Go.RowKit
theorem laid_mem {P : Program} {W : World} : ∀ {L : List (String × DataW Unit)}, laidMet P L W → ∀ x ∈ L, laidMet P [x] W
  | [], _, x, h => by cases h
  | y :: L, h, x, hx => by
    rcases List.mem_cons.1 hx with rfl | hx
    · obtain ⟨ps, hv, hnd, hrows⟩ := h
      obtain ⟨n, d⟩ := x
      obtain ⟨g, t, cs, fuel, p, q, e1, e2, e3, e4, hq, rfl⟩ := hv
      exact ⟨_, ⟨g, t, cs, fuel, p, [], e1, e2, e3, e4, rfl, rfl⟩, List.Nodup.sublist (by simp) hnd, fun b off hm => hrows b off (List.mem_append_left _ (by simpa using hm))⟩
    · exact laid_mem h.tail x hx
/-- A listed table: the variable's block. -/
theorem laid_tab {P : Program} {W : World} {L : List (String × DataW Unit)} {name : String} {k : IntKind} {zs : List Int} {g : Nat} {t e : TypeId} {n : Nat}
    (h : laidMet P L W) (hm : (name, Lib.tabData k zs) ∈ L)
    (hg : P.globalNamed name = some g) (hty : (P.globals[g]?).map (·.type) = some t) (ht : P.underlying t = some (.array n e)) (he : P.underlying e = some (.int k)) (hce : P.cellsOf e = 1) (hct : P.cellsOf t = n) :
    ∃ T fr, W.heap[g]? = some (.cells (zs.map fun z => Value.int k z).toArray T fr) := by
  have := Lib.tabIs_of_head hg hty ht he hce hct (laid_mem h _ hm)
  unfold Lib.TabIs World.var? at this
  simp only [hg, Option.bind_some] at this
  split at this
  · rename_i cs T fr hh
    simp only [Option.some.injEq] at this
    exact ⟨T, fr, by rw [hh, this]⟩
  · cases this
/-- A listed error. -/
def SentRow (P : Program) (ti : TypeId) (g : Nat) (x : String × DataW Unit) : Prop :=
  P.globalNamed x.1 = some g ∧ (P.globals[g]?).map (·.type) = some ti ∧ ∃ s, x.2 = .iface "*errors.errorString" (.ptr (.agg [.lit (.string s)]))
theorem laid_sents {P : Program} {W : World} {ti tp te ts : TypeId} {ms : Array (String × TypeId)} {f : Field}
    (hi : P.underlying ti = some (.interface ms)) (hrow : ∀ u, P.typeName? 3 u = some "*errors.errorString" → u = tp)
    (hp : P.underlying tp = some (.pointer te)) (he : P.underlying te = some (.struct #[f])) (hft : f.type = ts) (hfo : f.offset = 0) (hs : P.underlying ts = some .string) (hc : P.cellsOf te = 1) (hcs : P.cellsOf ts = 1) :
    ∀ (L : List (String × DataW Unit)) (ps : List MemPlace), DataW.LaidVars P W L ps → ps.Nodup →
      (∀ b off, MemPlace.cell b off ∈ ps → (∃ c t, W.heap[b]? = some (.cells c t (0, 0))) ∧ ∀ u v, W.cell? ⟨b, off, none⟩ = some (.iface u v) → Value.okWide P W .any 0 u v) →
      ∃ eb : Nat → Addr, (∀ x ∈ L, ∀ g, SentRow P ti g x → W.cell? ⟨g, 0, none⟩ = some (.iface tp (.pointer (some (eb g)))) ∧ (∃ c t, W.heap[(eb g).block]? = some (.cells c t (0, 0))) ∧ .cell g 0 ∈ ps ∧ .cell (eb g).block (eb g).off ∈ ps) ∧
        (∀ x ∈ L, ∀ y ∈ L, ∀ g g', SentRow P ti g x → SentRow P ti g' y → eb g = eb g' → g = g')
  | [], ps, _, _, _ => ⟨fun _ => ⟨0, 0, none⟩, ⟨fun x hx => (List.not_mem_nil hx).elim, fun x hx => (List.not_mem_nil hx).elim⟩⟩
  | (n, d) :: L, ps, hv, hnd, hrows => by
    obtain ⟨g0, t0, cs0, f0, p0, q0, hg0, ht0, hv0, hd0, hq, rfl⟩ := hv
    have hnd' := hnd
    rw [List.nodup_append] at hnd
    obtain ⟨hnd1, hnd2, hdis⟩ := hnd
    obtain ⟨eb, h1, h2⟩ := laid_sents hi hrow hp he hft hfo hs hc hcs L q0 hq hnd2 (fun b off hm => hrows b off (List.mem_append_right _ hm))
    by_cases hS : ∃ g, SentRow P ti g (n, d)
    · obtain ⟨g, hg, ht, s, hd⟩ := hS
      obtain rfl := Option.some.inj (hg.symm.trans hg0)
      obtain rfl := Option.some.inj (ht.symm.trans ht0)
      simp only at hd
      subst hd
      obtain ⟨l0⟩ := cs0
      have ok0 : ∀ u v, l0 = [.iface u v] → Value.okWide P W .any 0 u v := fun u v e => by
        subst e
        exact (hrows g 0 (by simp [MemPlace.row])).2 u v (by simpa using World.var?_cell hg0 hv0 0)
      obtain ⟨a0, s0, rfl, hc0, hs0, hz0, rfl⟩ := errorString_of_trod hi hrow hp he hft hfo hs hc hcs hd0 ok0
      have m1 : MemPlace.cell g 0 ∈ MemPlace.row ⟨g, 0, none⟩ (Array.mk [Value.iface tp (.pointer (some a0))]).size ++ MemPlace.row a0 1 := by simp [MemPlace.row]
      have m2 : MemPlace.cell a0.block a0.off ∈ MemPlace.row ⟨g, 0, none⟩ (Array.mk [Value.iface tp (.pointer (some a0))]).size ++ MemPlace.row a0 1 := by simp [MemPlace.row]
      refine ⟨fun k => if k = g then a0 else eb k, ?_, ?_⟩
      · intro x hx k hk
        rcases List.mem_cons.1 hx with rfl | hx
        · obtain rfl := Option.some.inj (hk.1.symm.trans hg0)
          simp only [if_true]
          exact ⟨by simpa using World.var?_cell hg0 hv0 0, (hrows _ _ (List.mem_append_left _ m2)).1, List.mem_append_left _ m1, List.mem_append_left _ m2⟩
        · obtain ⟨q1, q2, q3, q4⟩ := h1 x hx k hk
          have hne : k ≠ g := fun e => by subst e; exact hdis _ m1 _ q3 rfl
          simp only [if_neg hne]
          exact ⟨q1, q2, List.mem_append_right _ q3, List.mem_append_right _ q4⟩
      · intro x hx y hy k k' hk hk' e
        simp only at e
        rcases List.mem_cons.1 hx with rfl | hx <;> rcases List.mem_cons.1 hy with rfl | hy
        · exact Option.some.inj (hk.1.symm.trans hk'.1)
        · obtain rfl := Option.some.inj (hk.1.symm.trans hg0)
          obtain ⟨q1, q2, q3, q4⟩ := h1 y hy k' hk'
          by_cases hne : k' = k
          · exact hne.symm
          · rw [if_pos rfl, if_neg hne] at e
            rw [← e] at q4
            exact absurd rfl (hdis _ m2 _ q4)
        · obtain rfl := Option.some.inj (hk'.1.symm.trans hg0)
          obtain ⟨q1, q2, q3, q4⟩ := h1 x hx k hk
          by_cases hne : k = k'
          · exact hne
          · rw [if_pos rfl, if_neg hne] at e
            rw [e] at q4
            exact absurd rfl (hdis _ m2 _ q4)
        · have n1 : k ≠ g := fun e => by subst e; exact hdis _ m1 _ (h1 x hx _ hk).2.2.1 rfl
          have n2 : k' ≠ g := fun e => by subst e; exact hdis _ m1 _ (h1 y hy _ hk').2.2.1 rfl
          rw [if_neg n1, if_neg n2] at e
          exact h2 x hx y hy k k' hk hk' e
    · refine ⟨eb, ?_, ?_⟩
      · intro x hx k hk
        rcases List.mem_cons.1 hx with rfl | hx
        · exact absurd ⟨k, hk⟩ hS
        · obtain ⟨q1, q2, q3, q4⟩ := h1 x hx k hk
          exact ⟨q1, q2, List.mem_append_right _ q3, List.mem_append_right _ q4⟩
      · intro x hx y hy k k' hk hk' e
        rcases List.mem_cons.1 hx with rfl | hx
        · exact absurd ⟨k, hk⟩ hS
        · rcases List.mem_cons.1 hy with rfl | hy
          · exact absurd ⟨k', hk'⟩ hS
          · exact h2 x hx y hy k k' hk hk' e
/-- The environment that a row's list gives: its errors, and the blocks of its tables as they are. -/
theorem laid_env {P : Program} {W : World} {ti tp te ts TE : TypeId} {ms : Array (String × TypeId)} {f : Field}
    (hi : P.underlying ti = some (.interface ms)) (hrow : ∀ u, P.typeName? 3 u = some "*errors.errorString" → u = tp)
    (hp : P.underlying tp = some (.pointer te)) (he : P.underlying te = some (.struct #[f])) (hft : f.type = ts) (hfo : f.offset = 0) (hs : P.underlying ts = some .string) (hc : P.cellsOf te = 1) (hcs : P.cellsOf ts = 1)
    {L : List (String × DataW Unit)} (h : laidMet P L W) (G : Nat → Option D)
    (hG : ∀ g x, G g = some x → x = .sent g ∧ ∃ y ∈ L, SentRow P ti g y) :
    ∃ eb : Nat → Addr, ∀ (B : Nat → Bool) (nz : TypeId → Bool) (pan : FuncId → Bool), EnvOK ⟨tp, TE, eb, G, fun b => if B b then W.heap[b]? else none, nz, pan⟩ W (fun _ => False) := by
  obtain ⟨ps, hv, hnd, hrows⟩ := h
  obtain ⟨eb, h1, h2⟩ := laid_sents hi hrow hp he hft hfo hs hc hcs L ps hv hnd hrows
  refine ⟨eb, fun B nz pan => ⟨?_, ?_, ?_, ?_⟩⟩
  · intro g x hg
    obtain ⟨rfl, y, hy, hs⟩ := hG g x hg
    obtain ⟨q1, _, _, _⟩ := h1 y hy g hs
    exact ⟨id, World.block_lt_of_cell? W _ q1, _, q1, rfl, .sent (V := ⟨tp, TE, eb, G, fun b => if B b then W.heap[b]? else none, nz, pan⟩) g⟩
  · intro g hg
    obtain ⟨_, y, hy, hs⟩ := hG g _ hg
    obtain ⟨_, ⟨c, t, hb⟩, _, _⟩ := h1 y hy g hs
    exact ⟨id, (Array.getElem?_eq_some_iff.1 hb).1, c, t, hb⟩
  · intro g g' hg hg' e
    obtain ⟨_, y, hy, hs⟩ := hG g _ hg
    obtain ⟨_, y', hy', hs'⟩ := hG g' _ hg'
    exact h2 y hy y' hy' g g' hs hs' e
  · intro b o hb
    simp only at hb
    split at hb
    · exact ⟨id, (Array.getElem?_eq_some_iff.1 hb).1, hb⟩
    · cases hb
end Go.Aug

/-
  The abstract layer: the bridge from a row's condition to a contract, for every program.
-/
namespace Go.Aug
open Go.ChangeShapes Go.WideShapes Go.RowKit
section
variable {P : Program} {n : Nat} {t e : TypeId} {ds : List D}
end
theorem below_of {Z' : Nat → Prop} {H' : Heap} {W W' : World} (x : Ext (fun _ => False) (fun _ => none) W Z' H' W') : Below W.heap.size W W' :=
  ⟨x.os, x.tape, x.output, x.size, fun k hk => x.block k hk (fun ⟨_, h, _⟩ => by cases h)⟩
end Go.Aug
