/- The facts of the program's functions, and the contracts of its lexer and parser; conditions stand in each contract. -/
import Derived.Test.YtckdiafomldepaaDoorReaderTwo
import Derived.Test.YtckdiafomldepaaDoorAugSix
set_option linter.all false
set_option linter.unusedVariables false
set_option linter.unusedSimpArgs false
set_option linter.unusedSectionVars false

/- The program's parser: what reads a whole text (printed by PqI.py). -/
namespace Go.Aug
open Go.Proofs
set_option maxRecDepth 100000
set_option linter.unusedSimpArgs false
attribute [local irreducible] hid andK letA onSome onVar onArr arrOnly onInt onBool onTup idxA ldV ldD addO ofPart appTo fillL slA srcK nilQ retW gif sgd sguard svc sops sdops sagain aopO aLoad aStore aBin aUn aConv aLen aIndexAddr aIndex aIndexAddrS aIndexS aSlice aAppend aBuild aBuildSlice aMakeSlice aField aFieldOf aCallOp deepK deepL frzM putE newK newV growV ACall roundQ thenQ inBlockQ sret cnd szs nilC aLookup aMapUpdate aMakeMap
attribute [local go_sem] Int.natCast_zero
theorem ritems_err {l : List Tok} {k : Nat} {is : List It} {s : RdS} (h : s.err ≠ 0) : ritems l k is s = (is, s) := by
 have hr : rend l s = true := by simp [rend, h]
 cases k with
 | zero => rfl
 | succ k => rw [ritems, if_pos hr]
theorem ritems_end {l : List Tok} {k : Nat} {is : List It} {s : RdS} (he : s.err = 0) (h : l.length ≤ s.pos) : ritems l k is s = (is, s) := by
 have hr : rend l s = true := by rw [rend_eq he]; simpa using h
 cases k with
 | zero => rfl
 | succ k => rw [ritems, if_pos hr]
set_option maxHeartbeats 4000000 in
theorem items_ok {eb : EbG} [On eb 2] [On eb 1] [On eb 0] (p : Nat) (l : List Tok) : One eb noH p l 20 [.ref p 0] (fun is => D.slice (is.map It.d)) (ritems l (l.length + 1) []) := by
 intro H s _ h K KP hK hP
 have hsh := h.short
 have hle := h.le
 have he := h.ok
 generalize hres : ritems l (l.length + 1) [] s = res at hK hP
 refine ACallP.hp_in h.at_ ?_
 refine ACallP.by mixed fn20 (by simp) ?_
 conv in s20 => cbv
 refine svc_start ?_
 simp -dsimp only [go_sem, gS]
 refine svc_loop (X := PRow It) (fun x => [(0, .ref p 0), (3, x.a)])
  (fun x G => G = hp x.R [(p, .var (psA l x.s.pos))] ∧ Acc H [p] 54 20 (x.xs.map It.d) x.a x.R ∧ ritems l x.k x.xs x.s = res ∧ x.s.err = 0 ∧ x.s.pos ≤ l.length ∧ l.length < x.k + x.s.pos ∧ x.xs.length ≤ 512)
  (fun x => x.k) ⟨l.length + 1, [], s, .nils, H⟩ _ ⟨rfl, Acc.nils .., hres, he, hle, by simp only; omega, by simp⟩ (by simp -dsimp only [go_sem, gS]) (.refl _) ?_
 rintro ⟨k, xs, s2, a, R⟩ G ⟨rfl, hacc, hrun, he2, hle2, hk, hn⟩
 simp only at hacc hrun he2 hle2 hk hn
 have hok : okK [p] R [(p, .var (psA l s2.pos))] := by simp only [hpS, eq_self, implies_true, hsh]
 have hdel : ∀ n, LeH (del H p) (del (hp R [(p, .var (psA l n))]) p) := fun n => leH_gone (o := .var (psA l n)) hacc.le (by simp only [hpS, eq_self, implies_true, hsh])
 simp -dsimp only [go_sem, gS]
 refine gif_split (fun h1 => ?_) (fun h1 => ?_)
 ·have h1' : s2.pos < l.length := by have := of_decide_eq_true h1; omega
  have hr : rend l s2 = false := by rw [rend_eq he2]; simp; omega
  obtain ⟨k, rfl⟩ : ∃ j, k = j + 1 := ⟨k - 1, by omega⟩
  rw [ritems, if_neg (by rw [hr]; exact Bool.false_ne_true)] at hrun
  simp -dsimp only [go_sem, gS]
  refine andK_split (hacc.lenable (by simp -dsimp only [go_sem, gS])) ?_
  rw [hacc.len hok]
  simp -dsimp only [go_sem, gS]
  refine gif_split (fun h2 => ?_) (fun h2 => ?_)
  ·have h2' : xs.length = 512 := by have := of_decide_eq_true h2; omega
   rw [if_pos h2', rfail, if_pos he2] at hrun
   rw [← hrun] at hP
   simp -dsimp only [go_sem, gS, h2, seatV_on inferInstance]
   refine give_ok _ _ _ _ _ ?_
   simp -dsimp only [go_sem, gS]
   exact panW_drop ((hdel _).trans (leH_del1 _ p)) (panW_is (hP (by simp only; omega)))
  ·have h2' : ¬ xs.length = 512 := by have := of_decide_eq_false h2; omega
   rw [if_neg h2'] at hrun
   simp -dsimp only [go_sem, gS, h2]
   refine itemP_ok p l _ s2 (leH_noH _) (.len hsh hle2 he2 (by simp only [hpS, eq_self, implies_true, hsh])) _ _ (fun h3 => ?_) (fun h3 => ?_)
   ·have hle3 := (ritem_steps l).le _ hle2
    have hge3 := (ritem_steps l).ge s2
    have hcs := (ritem l s2).1.cs_length
    generalize (ritem l s2).1 = t at hrun hcs ⊢
    generalize (ritem l s2).2 = s3 at hrun hle3 hge3 h3 ⊢
    simp -dsimp only [go_sem, gS, hcs, It.d]
    refine newV_hp (fun b6 v6 f6 w6 => ?_)
    simp only [off_cons, off_nil] at f6
    simp -dsimp only [go_sem, gS, f6, hcs, It.d]
    refine hacc.appTo (by simp only [hpS, eq_self, implies_true, f6]) (by simp only [hpS, eq_self, implies_true, hsh]) (by simp only [List.length_map, List.length_cons, List.length_nil]; omega) (fun a' R' hacc' hnn => ?_)
    have hone' := hacc'.one
    have f60 := hacc.le.free f6.2.2
    have f6' := hnn b6 (by simp only [hpS, eq_self, implies_true, f6]) f6.2.2
    rw [show xs.map It.d ++ [D.agg t.cs] = (xs ++ [t]).map It.d by simp [It.d]] at hacc'
    simp -dsimp only [go_sem, gS, f6, hone']
    have e4 : rneed l ⟨#[46]⟩ s3 = rneed l kDot s3 := rfl
    refine must_ok _ p l s3 _ (.len hsh hle3 h3 (by simp only [hpS, eq_self, implies_true, f6])) _ _ (fun h4 => ?_) (fun h4 => ?_)
    ·rw [e4] at h4 ⊢
     have hle4 := rneed_le (t := kDot) hle3
     have hge4 := (rneed_ok h4).2
     simp -dsimp only [go_sem, gS, f6]
     refine roundQ_next ⟨k, xs ++ [t], rneed l kDot s3, a', R'⟩ _ ⟨rfl, hacc', hrun, h4, hle4, by simp only; omega, by simp; omega⟩ (Nat.lt_succ_self k) (by simp -dsimp only [go_sem, gS]) (leH_hp (by simp only [hpS, eq_self, implies_true, f6, f6']) (by simp only [hpS, eq_self, implies_true, f6, f6']))
    ·rw [e4] at h4 ⊢
     rw [ritems_err h4] at hrun
     rw [← hrun] at hP
     simp -dsimp only [go_sem, gS]
     refine panW_drop (leH_gone (o := .var (psA l s3.pos)) hacc'.le (by simp only [hpS, eq_self, implies_true, f6, f60])) (panW_is (hP h4))
   ·rw [rneed_err h3, ritems_err h3] at hrun
    rw [← hrun] at hP
    simp -dsimp only [go_sem, gS]
    exact panW_drop (hdel _) (panW_is (hP h3))
 ·have h1' : l.length ≤ s2.pos := by have := of_decide_eq_false h1; omega
  rw [ritems_end he2 h1'] at hrun
  rw [← hrun] at hK
  simp -dsimp only [go_sem, gS]
  refine retW_deep ?_
  refine hacc.deep (by simp only [hpS, eq_self, implies_true, hsh]) (fun R' hle' hn' => ?_)
  refine retW_drop (G := hp H [(p, .var (psA l s2.pos))]) (leH_hp2 hle' (by simp only [hpS, eq_self, implies_true, hsh]) (by simp only [hpS, eq_self, implies_true, hsh])) (retW_is (hK he2))

/-- An error, by its number. -/
def errD (e : Int) : D := if e = 0 then .raw .nilIface else .sent (errG e)
class Errs (eb : EbG) : Prop where
 a : On eb 2
 b : On eb 1
 c : On eb 0
 d : On eb 3
instance {eb : EbG} [h : Errs eb] : On eb 2 := h.a
instance {eb : EbG} [h : Errs eb] : On eb 1 := h.b
instance {eb : EbG} [h : Errs eb] : On eb 0 := h.c
instance {eb : EbG} [h : Errs eb] : On eb 3 := h.d
/-- What the program's lexer answers. -/
def LexIs (eb : EbG) : Prop := ∀ (H : Heap) (s : ByteArray) (K : A → Heap → Prop), K (.tup [.d (.slice ((rlex s).1.map Tok.d)), .d (errD (rlex s).2)]) H → ACall Tryd.prog (seatV eb) 34 [.d (.str s)] H K
/-- A whole text, read in a way. -/
def rwholeD {α : Type} (q : List Tok → RdS → α × RdS) (enc : α → D) (z : D) (s : ByteArray) : D × Int :=
 if (rdone (rlex s).1 (q (rlex s).1 ⟨0, (rlex s).2⟩).2).err ≠ 0 then (z, (rdone (rlex s).1 (q (rlex s).1 ⟨0, (rlex s).2⟩).2).err) else (enc (q (rlex s).1 ⟨0, (rlex s).2⟩).1, 0)
theorem rdone_errs {l : List Tok} {s : RdS} (h : s.err ≠ 0) : rdone l s = s := by rw [rdone, if_neg (fun hh => h hh.1)]
theorem underB : (Tryd.prog.underlying 82).map (fun u => match u with | .struct _ => true | _ => false) = some true := by kernel_rfl
theorem zeroB : (Tryd.prog.info? 82).map (fun i => (i.zero, i.size)) = some (some (.agg #[.nilIface]), 1) := by kernel_rfl
theorem assertB {S : TypeId} (w : World) : (Instr.typeAssert .nilIface S 82 true).run Tryd.prog w = .ok (.tuple #[.agg #[.nilIface], .bool false]) w := by
 have h1 := underB
 have h2 := zeroB
 cases hu : Tryd.prog.underlying 82 with
 | none => rw [hu] at h1; cases h1
 | some u =>
  cases hi : Tryd.prog.info? 82 with
  | none => rw [hi] at h2; cases h2
  | some i =>
   rw [hu] at h1; rw [hi] at h2
   simp only [Option.map_some, Option.some.injEq, Prod.mk.injEq] at h1 h2
   cases u with
   | struct fs => simp [Instr.typeAssert, run_underlying hu, zeroValue, typeInfo, hi, h2.1]
   | _ => cases h1
theorem assertB2 {S : TypeId} (u : Value) (w : World) : (Instr.typeAssert (.iface 82 u) S 82 true).run Tryd.prog w = .ok (.tuple #[u, .bool true]) w := by
 have h1 := underB
 cases hu : Tryd.prog.underlying 82 with
 | none => rw [hu] at h1; cases h1
 | some u' =>
  rw [hu] at h1
  simp only [Option.map_some, Option.some.injEq] at h1
  cases u' with
  | struct fs => simp [Instr.typeAssert, run_underlying hu]
  | _ => cases h1
theorem rlex_short (s : ByteArray) : (rlex s).1.length < 1073741824 := by have := rlex_len s; omega
theorem entersI (cv : Array Value) (w1 : World) : (invoke (.fn (.func 35) cv) #[]).run Tryd.prog w1 = .ok (.enter 35 cv) w1 := by
 have hn : (Tryd.f35.name == "runtime.NumGoroutine") = false := by kernel_rfl
 have h1 : Tryd.f35.name ≠ "runtime.NumGoroutine" := by simpa using hn
 have hb : (Tryd.f35.body.isSome) = true := by kernel_rfl
 obtain ⟨c, hc⟩ := Option.isSome_iff_exists.1 hb
 have hf : Tryd.prog.funcs[(35 : Nat)]? = some Tryd.f35 := by kernel_rfl
 show (callFunc 35 (#[] ++ cv)).run Tryd.prog w1 = .ok (.enter 35 cv) w1
 simp [callFunc, hf, h1, hc]
theorem idleI : IdleD Tryd.prog 2 35 := by
 intro cv w hcv
 obtain ⟨l⟩ := cv
 match l, hcv with
 | [p, q], _ =>
 have hf : Tryd.prog.funcs[(35 : Nat)]? = some Tryd.f35 := by kernel_rfl
 have hnt : Tryd.f35.ntmps = 14 := by kernel_rfl
 have hres : Tryd.f35.results = #[] := by kernel_rfl
 refine callsDIn_of_wpSIn hf rfl trivial fun c₀ cs hu => ?_
 apply wpSIn_seq
 apply wpSIn_region
 have hta := assertB (S := 20)
 simp [wpOpsSIn, go_sem, recoverD, hu, hnt, Exit.thenS, hta]
 apply wpSIn_seq
 apply wpSIn_region
 simp [wpOpsSIn, go_sem, Exit.thenS]
 refine wpSIn_cond (t := false) (by simp [Act.eval, Array.replicate]) ?_
 simp only [Bool.false_eq_true, if_false]
 refine wpSIn_of_wpIn rfl (wpIn_skip ?_)
 have hb : RowKit.Below w.heap.size w (w.alloc (Obj.cells #[Value.nilIface] 82)) := (RowKit.Below.refl w.heap.size w).alloc (Nat.le_refl _) _
 cases c₀
 simp_all [bodyPostS, results]
noncomputable def s35o : List SOper := (sopL (sfst s35)).drop 2
noncomputable def s35x : SCode := ssnd s35
theorem s35_is : s35 = .seq (.reg (skp (sfst s35)) ({ dst := some 6, gd := none, op := .call { callee := .builtin .recover, args := #[], argTypes := #[] } } :: { dst := some 7, gd := none, op := .typeAssert (.tmp 6) 20 82 true } :: s35o)) s35x := by kernel_rfl
theorem recI {eb : EbG} (R : Heap) (b4 b5 g : Nat) (z : A) (h45 : eqn b5 b4 = false ∧ eqn b4 b5 = false ∧ R b4 = none ∧ R b5 = none) : RecD Tryd.prog (seatV eb) 35 [.ref b4 0, .ref b5 0] (hp R [(b4, .var [z]), (b5, .var [.d (.raw .nilIface)])]) (boxV eb g) (hp R [(b4, .var [.nils]), (b5, .var [.d (.sent g)])]) := by
 refine RecD.by (x := .tup [.d (.agg [.sent g]), .d (.bool true)]) mixed (by have := fn35; rw [s35_is] at this; exact this) (by kernel_rfl) (by simp) (by decide) (by decide) (assertB2 _) (fun w Z => ?_) ?_
 ·refine .tup [_, _] [_, _] rfl fun j h h' => ?_
  match j, h with
  | 0, _ => exact .d _ _ (.agg [_] [_] rfl (by simp [Value.oneCell']; rfl) fun j h h' => by
    match j, h with
    | 0, _ => exact .sent g)
  | 1, _ => exact .d _ _ (.bool true)
 ·conv in s35o => cbv
  conv in s35x => cbv
  refine recD_start ?_
  simp -dsimp only [go_sem, gS, h45]
  refine newK_hp (fun b2 f2 => ?_)
  simp only [off_cons, off_nil] at f2
  simp -dsimp only [go_sem, gS, h45, f2]
  refine retW_drop (G := hp R [(b4, .var [.nils]), (b5, .var [.d (.sent g)])]) (leH_hp (by simp only [hpS, eq_self, implies_true, h45, f2]) (by simp only [hpS, eq_self, implies_true, h45, f2])) (retW_is rfl)
noncomputable def s19a : SCode := sfst s19
noncomputable def s19b : SCode := sfst (ssnd s19)
noncomputable def s19c : SCode := sfst (ssnd (ssnd s19))
noncomputable def s19d : SCode := ssnd (ssnd (ssnd (ssnd s19)))
theorem s19_is : s19 = .seq s19a (.seq s19b (.seq s19c (.seq (.reg (skp (sfst (ssnd (ssnd (ssnd s19))))) [{ dst := some 17, gd := none, op := .makeFunc (.func 35) #[] #[.tmp 4, .tmp 5] }, { dst := none, gd := none, op := .defer { callee := .value (.tmp 17), args := #[], argTypes := #[] } }]) s19d))) := by kernel_rfl
set_option maxHeartbeats 4000000 in
theorem wholeI_ok {eb : EbG} [Errs eb] (hlex : LexIs eb) (s : ByteArray) (H : Heap) (K : A → Heap → Prop) (hK : K (.tup [.d (rwholeD (fun l => ritems l (l.length + 1) []) (fun is => .slice (is.map It.d)) (.slice []) s).1, .d (errD (rwholeD (fun l => ritems l (l.length + 1) []) (fun is => .slice (is.map It.d)) (.slice []) s).2)]) H) :
  ACall Tryd.prog (seatV eb) 19 [.d (.str s), .func 20 []] H K := by
 have hsh := rlex_short s
 unfold rwholeD at hK
 refine ACall.rescuedQ mixed (by have := fn19; rw [s19_is] at this; exact this) (caps := #[.tmp 4, .tmp 5]) (by simp) (by decide) entersI idleI ?_
 conv in s19a => cbv
 conv in s19b => cbv
 conv in s19c => cbv
 conv in s19d => cbv
 refine svc_start ?_
 refine (?_ : letA (numb 0 _) (hid (fun l => svc _ _ _ _ _ (mkF l) (hp H [])) ⟨⟩))
 simp -dsimp only [go_sem, gS]
 refine newK_hp (fun b4 f4 => ?_)
 simp only [off_cons, off_nil] at f4
 simp -dsimp only [go_sem, gS, f4]
 refine newK_hp (fun b5 f5 => ?_)
 simp only [off_cons, off_nil] at f5
 simp -dsimp only [go_sem, gS, f4, f5]
 refine hlex _ _ _ ?_
 generalize hL : (rlex s).1 = l at hK hsh ⊢
 by_cases he : (rlex s).2 = 0
 ·rw [he] at hK ⊢
  have e0 : errD 0 = .raw .nilIface := rfl
  simp -dsimp only [go_sem, gS, f4, f5, e0]
  refine andK_split rfl ?_
  simp -dsimp only [go_sem, gS, f4, f5]
  refine newK_hp (fun b7 f7 => ?_)
  simp only [off_cons, off_nil] at f7
  have cl : callable Tryd.prog 20 = true := by kernel_rfl
  have pn : (seatV eb).pan 20 = true := by kernel_rfl
  simp -dsimp only [go_sem, gS, f4, f5, f7, cl, pn]
  have bad : ∀ (z : A) (G : Heap) (F : Nat → A) (e : Int), e ≠ 0 → LeH (hp H [(b4, .var [z]), (b5, .var [.d (.raw .nilIface)])]) G → F 4 = .ref b4 0 → F 5 = .ref b5 0 → K (.tup [.d (.slice []), .d (errD e)]) H →
    sretR Tryd.prog (seatV eb) 35 [.cell 4 26, .cell 5 28] 35 [.ref b4 0, .ref b5 0] K (.panic [{ v := boxE eb e, recovered := false }]) F G := by
   intro z G F e he' hG hF4 hF5 hk
   refine sretR_panic (hp H [(b4, .var [.nils]), (b5, .var [.d (.sent (errG e))])]) ((recI H b4 b5 _ z (by simp only [hpS, eq_self, implies_true, f4, f5])).le hG) ?_
   simp -dsimp only [go_sem, gS, hF4, hF5, f4, f5]
   refine retW_tup [true, true] ?_
   simp -dsimp only [go_sem, gS, f4, f5]
   have e1 : errD e = .sent (errG e) := if_neg he'
   rw [e1] at hk
   exact retW_drop (leH_hp0 (by simp only [hpS, eq_self, implies_true, f4, f5])) (retW_is hk)
  have hone := items_ok (eb := eb) b7 l
  generalize hq : (ritems l (l.length + 1) [] : RdS → _) = q at hone
  simp only [hq] at hK
  refine hone _ ⟨0, 0⟩ (leH_noH _) ⟨by simp only [hpS, eq_self, implies_true, f4, f5, f7]; rfl, hsh, Nat.zero_le _, rfl⟩ _ _ (fun h1 => ?_) (fun h1 => ?_)
  ·generalize (q ⟨0, 0⟩).1 = x at hK ⊢
   generalize (q ⟨0, 0⟩).2 = s2 at hK h1 ⊢
   simp -dsimp only [go_sem, gS, f4, f5, f7]
   refine gif_split (fun h2 => ?_) (fun h2 => ?_)
   ·have h2' : s2.pos < l.length := by have := of_decide_eq_true h2; omega
    have e2 : rdone l s2 = ⟨s2.pos, 2⟩ := by rw [rdone, if_pos ⟨h1, h2'⟩]
    rw [e2, if_pos (by simp only; omega)] at hK
    simp -dsimp only [go_sem, gS, f4, f5, f7, seatV_on inferInstance]
    refine give_ok _ _ _ _ _ ?_
    simp -dsimp only [go_sem, gS, f4, f5, f7]
    exact bad (.d (.slice (x.map It.d))) _ _ 2 (by decide) (leH_hp (by simp only [hpS, eq_self, implies_true, f4, f5, f7]) (by simp only [hpS, eq_self, implies_true, f4, f5, f7])) (by simp -dsimp only [go_sem, gS]) (by simp -dsimp only [go_sem, gS]) hK
   ·have h2' : ¬ s2.pos < l.length := by have := of_decide_eq_false h2; omega
    have e2 : rdone l s2 = s2 := by rw [rdone, if_neg (fun h => h2' h.2)]
    rw [e2, if_neg (fun h => h h1)] at hK
    simp -dsimp only [go_sem, gS, f4, f5, f7]
    refine retW_tup [true, true] ?_
    simp -dsimp only [go_sem, gS, f4, f5, f7]
    exact retW_drop (leH_hp0 (by simp only [hpS, eq_self, implies_true, f4, f5, f7])) (retW_is hK)
  ·rw [rdone_errs h1, if_pos h1] at hK
   simp -dsimp only [go_sem, gS, f4, f5, f7]
   exact bad (.nils) _ _ _ h1 (leH_hp (by simp only [hpS, eq_self, implies_true, f4, f5, f7]) (by simp only [hpS, eq_self, implies_true, f4, f5, f7])) (by simp -dsimp only [go_sem, gS]) (by simp -dsimp only [go_sem, gS]) hK
 ·have e0 : errD (rlex s).2 = .sent (errG (rlex s).2) := if_neg he
  have e1 : (rdone l (ritems l (l.length + 1) [] ⟨0, (rlex s).2⟩).2).err = (rlex s).2 := by
   have h1 := (fun e he => congrArg RdS.err (congrArg Prod.snd (ritems_err (l := l) (k := l.length + 1) (is := []) (s := ⟨0, e⟩) he))) (rlex s).2 he
   rw [rdone_errs (by rw [h1]; exact he), h1]
  rw [e1, if_pos he, e0] at hK
  rw [e0]
  simp -dsimp only [go_sem, gS, f4, f5]
  refine retW_tup [true, true] ?_
  simp -dsimp only [go_sem, gS, f4, f5]
  exact retW_drop (leH_hp0 (by simp only [hpS, eq_self, implies_true, f4, f5])) (retW_is hK)
end Go.Aug
