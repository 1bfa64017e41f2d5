/- The contracts of names.Resolve and of the Names laws; conditions stand in each contract. -/
import Derived.Test.YtejfagblpbmokaaDoorResolvedOne
import Derived.Test.YtejfagblpbmokaaDoorAugEleven
import Derived.Test.YtejfagblpbmokaaDoorFlatOne
import Derived.Test.YtejfagblpbmokaaDoorPsxOne
set_option linter.all false
set_option linter.unusedVariables false
set_option linter.unusedSimpArgs false
set_option linter.unusedSectionVars false

/- The program's names: the row of predicates is deep. -/
namespace Go.Aug
open Go.Proofs
set_option maxRecDepth 100000
set_option linter.unusedSimpArgs false
attribute [local irreducible] hid andK letA onSome onVar onArr arrOnly onInt onBool onFunc onTup idxA ldV ldD addO appTo fillL slA srcK nilQ retW gif sgd sguard svc sops sdops sagain aopO aLoad aStore aBin aUn aConv aLen aIndexAddr aIndex aIndexAddrS aIndexS aSlice aAppend aBuild aBuildSlice aMakeSlice aField aFieldOf aCallOp deepK deepL frzM putE newK newV growV ACall roundQ thenQ inBlockQ sret cnd szs nilC onMap onRow aLookup aMapUpdate aMakeMap
attribute [local go_sem] Int.natCast_zero
/-- Pairwise. -/
def Pw (r : D → D → Prop) : List D → List D → Prop
 | [], [] => True
 | a :: l, b :: m => r a b ∧ Pw r l m
 | _, _ => False
theorem Pw.self {r : D → D → Prop} (h : ∀ x, r x x) : ∀ l, Pw r l l
 | [] => trivial
 | x :: l => ⟨h x, Pw.self h l⟩
theorem Pw.append {r : D → D → Prop} : ∀ {a b c d : List D}, Pw r a b → Pw r c d → Pw r (a ++ c) (b ++ d)
 | [], [], _, _, _, h => h
 | _ :: _, _ :: _, _, _, h, k => ⟨h.1, Pw.append h.2 k⟩
 | [], _ :: _, _, _, h, _ => h.elim
 | _ :: _, [], _, _, h, _ => h.elim
theorem Pw.len {r : D → D → Prop} : ∀ {a b : List D}, Pw r a b → a.length = b.length
 | [], [], _ => rfl
 | _ :: _, _ :: _, h => by simp only [List.length_cons, Pw.len h.2]
 | [], _ :: _, h => h.elim
 | _ :: _, [], h => h.elim
theorem Pw.get {r : D → D → Prop} : ∀ {a b : List D}, Pw r a b → ∀ j (h : j < a.length) (h' : j < b.length), r a[j] b[j]
 | _ :: _, _ :: _, h, 0, _, _ => h.1
 | _ :: _, _ :: _, h, j + 1, k, k' => Pw.get h.2 j (by simpa using k) (by simpa using k')
 | [], _, _, _, k, _ => absurd k (by simp)
 | _ :: _, [], h, _, _, _ => h.elim
theorem cell_same {H : Heap} {E : TypeId} {sz : Nat} {es : List D} {a : A} {R : Heap} (h : RowAt R E sz es a) (hf : ∀ b v, a = .own b v → H b = some (.frz v es)) : sameCell H (cellD a) (.slice es) := by
 rcases h with ⟨rfl, rfl⟩ | ⟨b, v, rfl, _, _⟩
 ·exact .inr (.inl ⟨rfl, rfl⟩)
 ·exact .inr (.inr ⟨b, v, es, rfl, rfl, hf b v rfl⟩)
theorem rows_same {H : Heap} : ∀ {xs : List PX}, (∀ x ∈ xs, sameCell H (cellD x.ma) (.slice (x.ms.map Md.d)) ∧ sameCell H (cellD x.ca) (.slice (x.cs.map (.int .i64)))) → Pw (sameCell H) (flat (xs.map PX.d)) (flat ((xs.map PX.pr).map Pr.d))
 | [], _ => trivial
 | x :: xs, h => by
  simp only [List.map_cons, flat, List.flatMap_cons]
  refine Pw.append ?_ (rows_same fun y hy => h y (.tail _ hy))
  exact ⟨.inl rfl, .inl rfl, .inl rfl, (h x (.head _)).1, (h x (.head _)).2, trivial⟩
theorem preds_deep {V : Env} {H R : Heap} {ks : List Nat} {q1 q2 : Pc} {xs : List PX} {bP : Nat} {vP : Value} {l : List (Nat × AObj)} (h : AccN H ks (q1 :: q2 :: pcX xs (.own bP vP) :: xs.flatMap PX.ps) R) (hl : okK ks R l) :
  ∃ R3, HStep V (hp R l) (hp R3 l) ∧ AccN H ks [q1, q2, ⟨36, 5, (builtinsL ++ xs.map PX.pr).map Pr.d, .own bP vP⟩] R3 ∧ okK ks R3 l ∧ ∀ b, inK b l = true → R b = none → R3 b = none := by
 have hrow : ∀ x ∈ xs, RowAt R 117 2 (x.ms.map Md.d) x.ma ∧ RowAt R 3 1 (x.cs.map (.int .i64)) x.ca := fun x hx => by
  have hm : ∀ q ∈ PX.ps x, q.at H ks R := fun q hq => h.at_ q (by
   refine .tail _ (.tail _ (.tail _ (List.mem_flatMap.2 ⟨x, hx, hq⟩))))
  have c : ∀ q : Pc, q.at H ks R → RowAt R q.E q.sz q.xs q.a := fun q hq => hq.imp id fun ⟨b, v, e1, _, _, e2, e3⟩ => ⟨b, v, e1, e2, e3⟩
  exact ⟨c _ (hm (pcM x.ms x.ma) (.head _)), c _ (hm (pcI x.cs x.ca) (.tail _ (.head _)))⟩
 obtain ⟨R2, s1, s2, s3, s4, s5⟩ := AccN.freeze (V := V) (ps := [q1, q2, pcX xs (.own bP vP)]) (qs := xs.flatMap PX.ps) h hl
 have hout := AccN.out (pre := [q1, q2]) s2 s3 (b := bP) (v := vP) rfl
 have hP : R2 bP = some (.arr 36 5 vP (rowX xs)) := by
  rcases AccN.mid (pre := [q1, q2]) s2 with ⟨e, _⟩ | ⟨b2, v2, h1, _, _, _, h2⟩
  ·simp [rowX, builtinsL] at e
  ·cases h1; exact h2
 have hsame : Pw (sameCell (hp R2 l)) (flat (rowX xs)) (flat ((builtinsL ++ xs.map PX.pr).map Pr.d)) := by
  simp only [rowX, flat, List.map_append, List.flatMap_append]
  refine Pw.append (Pw.self (fun _ => .inl rfl) _) (rows_same fun x hx => ?_)
  have fr : ∀ q ∈ PX.ps x, ∀ b v, q.a = .own b v → hp R2 l b = some (.frz v q.xs) := fun q hq b v e => by
   have hq' : q ∈ xs.flatMap PX.ps := List.mem_flatMap.2 ⟨x, hx, hq⟩
   obtain ⟨pre, post, hpp⟩ := List.append_of_mem hq'
   have ho : inK b l = false := by
    have h' := h
    rw [hpp] at h'
    exact AccN.out (pre := q1 :: q2 :: pcX xs (.own bP vP) :: pre) (post := post) h' hl e
   rw [hp_not ho]
   exact s4 q hq' b v e
  exact ⟨cell_same (hrow x hx).1 (fr _ (.head _)), cell_same (hrow x hx).2 (fr _ (.tail _ (.head _)))⟩
 refine ⟨upd R2 bP (.arr 36 5 vP ((builtinsL ++ xs.map PX.pr).map Pr.d)), s1.trans ?_, AccN.set (pre := [q1, q2]) (post := []) s2 rfl _, okK_upd s3 hout, fun b hb hn => ?_⟩
 ·rw [← upd_hp_out hout]
  refine HStep.cells (by rw [hp_not hout]; exact hP) ?_ ?_ hsame.len.symm fun j h h' => hsame.get j h h'
  ·simp [rowX]
  ·intro d hd
   obtain ⟨p, _, rfl⟩ := List.mem_map.1 hd
   rfl
 ·have hne : b ≠ bP := fun e => by rw [e, hout] at hb; cases hb
  rw [upd_ne _ _ hne, s5 b fun q hq e => ?_, hn]
  obtain ⟨pre, post, hpp⟩ := List.append_of_mem hq
  have h' := h
  rw [hpp] at h'
  rcases AccN.mid (pre := q1 :: q2 :: pcX xs (.own bP vP) :: pre) (post := post) h' with ⟨_, e2⟩ | ⟨c, u, e1, _, _, _, e3⟩
  ·rw [e2] at e; cases e
  ·rw [e1] at e; cases e; rw [hn] at e3; cases e3
end Go.Aug

/- The program's names: Resolve. -/
namespace Go.Aug
open Nat renaming reduceBEq → zA, reduceLT → zB, reduceAdd → zC, reduceSub → zD, reduceMul → zE, reduceLeDiff → zF
open Int renaming reduceLE → zG
open Go.Proofs
set_option maxRecDepth 100000
set_option linter.unusedSimpArgs false
attribute [local irreducible] hid andK letA onSome onVar onArr arrOnly onInt onBool onFunc onTup idxA ldV ldD addO appTo fillL slA srcK nilQ retW gif sgd sguard svc sops sdops sagain aopO aLoad aStore aBin aUn aConv aLen aIndexAddr aIndex aIndexAddrS aIndexS aSlice aAppend aBuild aBuildSlice aMakeSlice aField aFieldOf aCallOp deepK deepL frzM putE newK newV growV ACall roundQ thenQ inBlockQ sret cnd szs nilC onMap onRow aLookup aMapUpdate aMakeMap
attribute [local go_sem] Int.natCast_zero
theorem hp_app {R : Heap} {l2 : List (Nat × AObj)} : ∀ l1 : List (Nat × AObj), hp (hp R l2) l1 = hp R (l1 ++ l2)
 | [] => rfl
 | (k, o) :: l => by
  funext b
  rw [hp_at, List.cons_append, hp_at, hp_app l]
@[go_sem] theorem seatP_table {e : EbG} : (seatP e).nz 107 = false := Eq.trans rfl rfl
@[go_sem] theorem seatP_index {e : EbG} : (seatP e).nz 27 = false := Eq.trans rfl rfl
def bRun : List Pr → Nat → List (Ky × Nat) → List (Ky × Nat)
 | [], _, m => m
 | p :: ps, n, m => bRun ps (n + 1) (kput m p.key n)
def mp0 : List (Ky × Nat) := bRun builtinsL 0 []
def ds0 : DS := ⟨[], [], builtinsL.map Pr.d, [], [], mp0, true⟩
def pxOf (it : It) : PX := ⟨pKey it, it.types, [], [], .nils, .nils⟩
def xs0 (l : List It) : List PX := (l.filter fun it => decide (it.kind = 2)).map pxOf
def uAll (mt : List (ByteArray × Nat)) (mc mp : List (Ky × Nat)) : Nat → List It → List Pr → Bool
 | _, [], _ => true
 | i, it :: l, ps => pUses mt mc mp ps it && uAll mt mc mp (i + 1) l (ps.map (pAdd i it))
def uFin : Nat → List It → List Pr → List Pr
 | _, [], ps => ps
 | i, it :: l, ps => uFin (i + 1) l (ps.map (pAdd i it))
def dEnd (l : List It) : DS := l.foldl dstep ds0
def uEnd (l : List It) : List Pr := builtinsL ++ uFin 0 l ((xs0 l).map PX.pr)
def pGood (l : List It) : Bool := (dEnd l).good && uAll (dEnd l).mt (dEnd l).mc (dEnd l).mp 0 l ((xs0 l).map PX.pr) && (uEnd l).all fun p => decide (0 < p.modes.length)
/-- What the program's Resolve answers. -/
def pResolve (l : List It) : Option Ix := if pGood l = true then some ⟨(dEnd l).types, (dEnd l).ctors, uEnd l⟩ else none
theorem dstep_len (s : DS) (it : It) (h : it.ctors.length ≤ 32768) : (dstep s it).types.length ≤ s.types.length + 1 ∧ (dstep s it).ctors.length ≤ s.ctors.length + 32768 ∧ (dstep s it).rs.length ≤ s.rs.length + 1 := by
 unfold dstep
 split
 ·simp only [List.length_append, List.length_cons, List.length_nil, ctsFrom_len]; omega
 ·split
  ·simp only [List.length_append, List.length_cons, List.length_nil]; omega
  ·omega
theorem foldl_rs : ∀ (l : List It) (s : DS), (l.foldl dstep s).rs = s.rs ++ (xs0 l).map PX.d
 | [], s => by simp [xs0]
 | it :: l, s => by
  rw [List.foldl_cons, foldl_rs l]
  simp only [xs0, List.filter_cons]
  by_cases h1 : it.kind = 1
  ·have h2 : ¬ it.kind = 2 := by rw [h1]; decide
   simp only [dstep, if_pos h1, decide_eq_false h2, Bool.false_eq_true, if_false]
  ·by_cases h2 : it.kind = 2
   ·simp only [dstep, if_neg h1, if_pos h2, decide_eq_true h2, if_true, List.map_cons, List.append_assoc, List.cons_append, List.nil_append]
    rfl
   ·simp only [dstep, if_neg h1, if_neg h2, decide_eq_false h2, Bool.false_eq_true, if_false]
theorem dEnd_rs (l : List It) : (dEnd l).rs = rowX (xs0 l) := foldl_rs l ds0
theorem apart_nils : ∀ {qs : List Pc}, (∀ q ∈ qs, q.a = .nils) → qs.Pairwise apart
 | [], _ => .nil
 | q :: qs, h => .cons (fun q' _ c hc => by rw [h q (.head _)] at hc; cases hc) (apart_nils fun q' hq => h q' (.tail _ hq))
theorem AccN.nils {H R : Heap} {ks : List Nat} {ps : List Pc} (h : AccN H ks ps R) {qs : List Pc} (hq : ∀ q ∈ qs, q.xs = [] ∧ q.a = .nils) : AccN H ks (ps ++ qs) R :=
 ⟨h.le, fun p hp => (List.mem_append.1 hp).elim (h.at_ p) fun hp => .inl (hq p hp), List.pairwise_append.2 ⟨h.ap, apart_nils fun q h => (hq q h).2, fun a _ b hb c _ hcb => by rw [(hq b hb).2] at hcb; cases hcb⟩⟩
theorem AccN.put {H H0 R : Heap} {ks : List Nat} {ps : List Pc} {b : Nat} {o o' : AObj} (h : AccN H0 ks ps R) (hl : LeH H H0) (hb : H b = Option.none) (h0 : H0 b = some o') : AccN H ks ps (upd R b o) :=
 ⟨fun k x hk => by rw [upd_ne _ _ (fun e => by rw [e, hb] at hk; cases hk)]; exact h.le k x (hl k x hk),
 fun p hp => (h.at_ p hp).imp id fun ⟨c, v, e1, e2, e3, e4, e5⟩ => ⟨c, v, e1, e2, hl.free e3, e4, by rw [upd_ne _ _ (fun e => by rw [e, h0] at e3; cases e3)]; exact e5⟩, h.ap⟩
theorem xs0_ps (l : List It) : ∀ q ∈ (xs0 l).flatMap PX.ps, q.xs = [] ∧ q.a = .nils := fun q hq => by
 obtain ⟨x, hx, hq⟩ := List.mem_flatMap.1 hq
 obtain ⟨it, _, rfl⟩ := List.mem_map.1 hx
 rcases List.mem_cons.1 hq with rfl | hq
 ·exact ⟨rfl, rfl⟩
 ·rcases List.mem_cons.1 hq with rfl | hq
  ·exact ⟨rfl, rfl⟩
  ·cases hq
theorem pAdd_key (i : Nat) (it : It) (p : Pr) : (pAdd i it p).key = p.key := by
 simp only [pAdd]; split
 ·rfl
 ·split <;> rfl
theorem keys_same {i : Nat} {it : It} {xs xs' : List PX} (h : xs'.map PX.pr = (xs.map PX.pr).map (pAdd i it)) : xs'.map PX.key = xs.map PX.key := by
 have e : ∀ l : List PX, l.map PX.key = (l.map PX.pr).map Pr.key := fun l => by rw [List.map_map]; rfl
 rw [e, h, List.map_map, e]
 exact List.map_congr_left fun p _ => pAdd_key i it p
theorem Places.same {mp : List (Ky × Nat)} {xs xs' : List PX} (h : Places mp xs) (e : xs'.map PX.key = xs.map PX.key) : Places mp xs' := fun k i hk hb => by
 obtain ⟨ys, x, zs, h1, h2, h3, h4, h5⟩ := h k i hk hb
 rw [h1, List.map_append, List.map_cons] at e
 obtain ⟨ys', r, h6, h7, h8⟩ := List.map_eq_append_iff.1 e
 obtain ⟨x', zs', h9, h10, h11⟩ := List.map_eq_cons_iff.1 h8
 refine ⟨ys', x', zs', by rw [h6, h9], by rw [h2]; have := congrArg List.length h7; simp only [List.length_map] at this; omega, by rw [h10, h3], fun y hy => ?_, fun y hy => ?_⟩
 ·have : y.key ∈ ys.map PX.key := h7 ▸ List.mem_map_of_mem hy
  obtain ⟨z, hz, he⟩ := List.mem_map.1 this
  rw [← he]; exact h4 z hz
 ·have : y.key ∈ zs.map PX.key := h11 ▸ List.mem_map_of_mem hy
  obtain ⟨z, hz, he⟩ := List.mem_map.1 this
  rw [← he]; exact h5 z hz
theorem Grows.next {n i : Nat} {it : It} (hw : it.ways.length ≤ 32768) {xs xs' : List PX} (h : Grows n xs) (e : xs'.map PX.pr = (xs.map PX.pr).map (pAdd i it)) : Grows (n + 1) xs' := fun x' hx' => by
 have hm : x'.pr ∈ (xs.map PX.pr).map (pAdd i it) := e ▸ List.mem_map_of_mem hx'
 obtain ⟨p, hp, he⟩ := List.mem_map.1 hm
 obtain ⟨x, hx, rfl⟩ := List.mem_map.1 hp
 obtain ⟨g1, g2, g3⟩ := h x hx
 have e1 : x'.ms = (pAdd i it x.pr).modes := by rw [he]; rfl
 have e2 : x'.cs = (pAdd i it x.pr).clauses := by rw [he]; rfl
 have e3 : x.pr.modes = x.ms := rfl
 have e4 : x.pr.clauses = x.cs := rfl
 rw [e1, e2]
 unfold pAdd
 split
 ·simp only [List.length_append, List.length_cons, List.length_nil, e3, e4]
  refine ⟨by omega, by omega, fun m hm => ?_⟩
  rcases List.mem_append.1 hm with hm | hm
  ·exact g3 m hm
  ·rw [List.mem_singleton.1 hm]; exact hw
 ·split
  ·simp only [List.length_append, List.length_cons, List.length_nil, e3, e4]
   exact ⟨by omega, by omega, g3⟩
  ·rw [e3, e4]; exact ⟨by omega, by omega, g3⟩
set_option maxHeartbeats 16000000 in
theorem resolve19_ok {eb : EbG} [On eb 0] (l : List It) (hl : Srcs l) (hpl : (dEnd l).good = true → Places (dEnd l).mp (xs0 l)) (H : Heap) (K : A → Heap → Prop)
  (hK : K (.tup [.d (ixD (pResolve l)), .d (if (pResolve l).isSome = true then .raw .nilIface else .sent 0)]) H) :
  ACall Tryd.prog (seatP eb) 19 [.d (.slice (l.map It.d))] H K := by
 have hlen := hl.len
 refine ACall.hp_start ?_
 refine ACall.by mixed fn19 (by simp) ?_
 conv in s19 => cbv
 refine svc_start ?_
 simp -dsimp (maxDischargeDepth := 9) only [go_sem, zA, zB, zC, zD, zE, zF, zG, gS]
 refine newK_hp (fun b2 f2 => ?_)
 simp only [off_cons, off_nil] at f2
 simp -dsimp (maxDischargeDepth := 9) only [go_sem, zA, zB, zC, zD, zE, zF, zG, gS, f2]
 refine newK_hp (fun b13 f13 => ?_)
 simp only [off_cons, off_nil] at f13
 simp -dsimp (maxDischargeDepth := 9) only [go_sem, zA, zB, zC, zD, zE, zF, zG, gS, f2, f13]
 refine newK_hp (fun b14 f14 => ?_)
 simp only [off_cons, off_nil] at f14
 simp -dsimp (maxDischargeDepth := 9) only [go_sem, zA, zB, zC, zD, zE, zF, zG, gS, f2, f13, f14]
 refine newK_hp (fun b15 f15 => ?_)
 simp only [off_cons, off_nil] at f15
 simp -dsimp (maxDischargeDepth := 9) only [go_sem, zA, zB, zC, zD, zE, zF, zG, gS, f2, f13, f14, f15]
 refine newK_hp (fun b17 f17 => ?_)
 simp only [off_cons, off_nil] at f17
 simp -dsimp (maxDischargeDepth := 9) only [go_sem, zA, zB, zC, zD, zE, zF, zG, gS, f2, f13, f14, f15, f17]
 refine toP (builtins50_ok _ _ ?_)
 simp -dsimp (maxDischargeDepth := 9) only [go_sem, zA, zB, zC, zD, zE, zF, zG, gS, f2, f13, f14, f15, f17]
 obtain ⟨B, hB⟩ : ∃ B, B = builtinsL := ⟨_, rfl⟩
 have hBl : B.length = 7 := by rw [hB]; rfl
 rw [← hB]
 obtain ⟨H0, hH0⟩ : ∃ H0, H0 = hp H [(b2, .var [.nils, .nils, .nils])] := ⟨_, rfl⟩
 have hb2 : H0 b2 = some (.var [.nils, .nils, .nils]) := by rw [hH0]; simp only [hpS, eq_self, implies_true, ]
 have hle0 : LeH H H0 := by rw [hH0]; exact (leH_hp0 (by simp only [hpS, eq_self, implies_true, f2]))
 have h4 : Four b17 b13 b14 b15 := ⟨(by simp only [hpS, eq_self, implies_true, f2, f13, f14, f15, f17]), (by simp only [hpS, eq_self, implies_true, f2, f13, f14, f15, f17]), (by simp only [hpS, eq_self, implies_true, f2, f13, f14, f15, f17]), (by simp only [hpS, eq_self, implies_true, f2, f13, f14, f15, f17]), (by simp only [hpS, eq_self, implies_true, f2, f13, f14, f15, f17]), (by simp only [hpS, eq_self, implies_true, f2, f13, f14, f15, f17]), (by simp only [hpS, eq_self, implies_true, f2, f13, f14, f15, f17]), (by simp only [hpS, eq_self, implies_true, f2, f13, f14, f15, f17]), (by simp only [hpS, eq_self, implies_true, f2, f13, f14, f15, f17]), (by simp only [hpS, eq_self, implies_true, f2, f13, f14, f15, f17]), (by simp only [hpS, eq_self, implies_true, f2, f13, f14, f15, f17]), (by simp only [hpS, eq_self, implies_true, f2, f13, f14, f15, f17])⟩
 refine svc_loop (X := Nat × List (Ky × Nat) × A × Heap) (fun y => [(0, .d (.slice (l.map It.d))), (2, .ref b2 0), (4, .ref b17 0), (18, .d (.slice (B.map Pr.d))), (19, .d (.int .i64 B.length)), (20, .d (.int .i64 y.1))])
  (fun y G => G = hp y.2.2.2 [(b17, tvar .nils .nils y.2.2.1 b13 b14 b15 true), (b13, .map (.one .str) (enc [])), (b14, .map (.row [.str, .int .i64]) (encK [])), (b15, .map (.row [.str, .int .i64]) (encK y.2.1))] ∧ AccN H0 [b17, b13, b14, b15] [pcT [] .nils, pcC [] .nils, ⟨36, 5, (B.take y.1).map Pr.d, y.2.2.1⟩] y.2.2.2 ∧ y.1 ≤ B.length ∧ bRun (B.drop y.1) y.1 y.2.1 = mp0)
  (fun y => B.length - y.1) (0, [], .nils, H0) _ ⟨rfl, (((AccN.none H0 [b17, b13, b14, b15]).nil _ _).nil _ _).nil _ _, Nat.zero_le _, by rw [hB]; rfl⟩ (by simp -dsimp (maxDischargeDepth := 9) only [go_sem, zA, zB, zC, zD, zE, zF, zG, gS]) (by rw [hH0, hp_app]; exact (leH_hp (by simp only [hpS, eq_self, implies_true, f2, f13, f14, f15, f17, List.cons_append, List.nil_append, enc, encK, List.map_nil]) (by simp only [hpS, eq_self, implies_true, f2, f13, f14, f15, f17, List.cons_append, List.nil_append, enc, encK, List.map_nil]))) ?_
 rintro ⟨j, m, p, R⟩ G ⟨hG, hacc, hj, hrun⟩
 simp only at hG hacc hj hrun
 subst hG
 simp -dsimp (maxDischargeDepth := 9) only [go_sem, zA, zB, zC, zD, zE, zF, zG, gS]
 refine gif_split (fun q1 => ?_) (fun q1 => ?_)
 ·have q1' : j < B.length := by have := of_decide_eq_true q1; omega
  obtain ⟨q, hq⟩ := list_at q1'
  have hw := wrapN (k := j) (by omega)
  rw [drop_at hq] at hrun
  simp only [bRun] at hrun
  have hR2 := hacc.le b2 _ hb2
  have htk : ((B.take j).map Pr.d).length = j := by simp; omega
  obtain ⟨⟨qn, qa⟩, qt, qm, qc⟩ := q
  have hkp := mput_encK ⟨qn, qa⟩ j m
  simp only [Ky.d, Ky.cs] at hkp
  simp -dsimp (maxDischargeDepth := 9) only [go_sem, zA, zB, zC, zD, zE, zF, zG, gS, q1, hq, Pr.d, Pr.cs]
  refine newK_hp (fun b6 f6 => ?_)
  simp only [off_cons, off_nil] at f6
  simp -dsimp (maxDischargeDepth := 9) only [go_sem, zA, zB, zC, zD, zE, zF, zG, gS, f2, f13, f14, f15, f17, f6]
  refine andK_split (AccN.lenable (pre := [pcT [] .nils, pcC [] .nils]) hacc rfl) ?_
  rw [show ∀ K, aLen p (hp R _) K = _ from fun K => AccN.len (pre := [pcT [] .nils, pcC [] .nils]) (p := ⟨36, 5, (B.take j).map Pr.d, p⟩) hacc (by simp only [hpS, eq_self, implies_true, f2, f13, f14, f15, f17, f6])]
  simp only [htk]
  simp -dsimp (maxDischargeDepth := 9) only [go_sem, zA, zB, zC, zD, zE, zF, zG, gS, f2, f13, f14, f15, f17, f6, hkp]
  refine newV_hp (fun b43 v43 f43 w43 => ?_)
  simp only [off_cons, off_nil] at f43
  simp -dsimp (maxDischargeDepth := 9) only [go_sem, zA, zB, zC, zD, zE, zF, zG, gS, f2, f13, f14, f15, f17, f6, f43]
  refine AccN.appTo (pre := [pcT [] .nils, pcC [] .nils]) (p := ⟨36, 5, (B.take j).map Pr.d, p⟩) (post := []) hacc (by simp only [hpS, eq_self, implies_true, f2, f13, f14, f15, f17, f6, f43]) (by simp only [hpS, eq_self, implies_true, f2, f13, f14, f15, f17]) (by simp only [htk, List.length_cons, List.length_nil]; omega) (fun p' R' hacc' hn => ?_)
  have f6' := hn b6 (by simp only [hpS, eq_self, implies_true, f2, f13, f14, f15, f17, f6, f43]) f6.2.2.2.2.2.2.2.2
  have f43' := hn b43 (by simp only [hpS, eq_self, implies_true, f2, f13, f14, f15, f17, f6, f43]) f43.2.2.2.2.2.2.2.2.2.2
  have hone := AccN.one (pre := [pcT [] .nils, pcC [] .nils]) hacc'
  have hacc2 : AccN H0 [b17, b13, b14, b15] [pcT [] .nils, pcC [] .nils, ⟨36, 5, (B.take (j + 1)).map Pr.d, p'⟩] R' := by
   have e : (B.take (j + 1)).map Pr.d = (B.take j).map Pr.d ++ [.agg [.str qn, .int .i64 qa, .slice (qt.map Ty.d), .slice (qm.map Md.d), .slice (qc.map (.int .i64))]] := by
    rw [List.take_add_one, hq]; simp [Pr.d, Pr.cs]
   rw [e]; exact hacc'
  simp -dsimp (maxDischargeDepth := 9) only [go_sem, zA, zB, zC, zD, zE, zF, zG, gS, f2, f13, f14, f15, f17, f6, f43, hone, hw]
  exact roundQ_next (j + 1, kput m ⟨qn, qa⟩ j, p', R') _ ⟨rfl, hacc2, q1', hrun⟩ (by simp only; omega) (by simp -dsimp (maxDischargeDepth := 9) only [go_sem, zA, zB, zC, zD, zE, zF, zG, gS]) (leH_hp (by simp only [hpS, eq_self, implies_true, f2, f13, f14, f15, f17, f6, f43, f6', f43']) (by simp only [hpS, eq_self, implies_true, f2, f13, f14, f15, f17, f6, f43, f6', f43']))
 ·have hj' : j = B.length := by have := of_decide_eq_false q1; omega
  rw [drop_end (by omega)] at hrun
  simp only [bRun] at hrun
  rw [List.take_of_length_le (by omega)] at hacc
  simp -dsimp (maxDischargeDepth := 9) only [go_sem, zA, zB, zC, zD, zE, zF, zG, gS, q1]
  refine svc_loop (X := Nat × DS × A × A × A × Heap) (fun y => [(0, .d (.slice (l.map It.d))), (2, .ref b2 0), (4, .ref b17 0), (49, .d (.slice (l.map It.d))), (50, .d (.int .i64 l.length)), (51, .d (.int .i64 y.1))])
   (fun y G => G = y.2.1.hp y.2.2.2.2.2 b17 b13 b14 b15 y.2.2.1 y.2.2.2.1 y.2.2.2.2.1 ∧ AccN H0 [b17, b13, b14, b15] (y.2.1.ps y.2.2.1 y.2.2.2.1 y.2.2.2.2.1) y.2.2.2.2.2 ∧ y.1 ≤ l.length ∧ (l.drop y.1).foldl dstep y.2.1 = dEnd l ∧ y.2.1.types.length ≤ y.1 ∧ y.2.1.ctors.length ≤ y.1 * 32768 ∧ y.2.1.rs.length ≤ 7 + y.1)
   (fun y => l.length - y.1) (0, ds0, .nils, .nils, p, R) _ ⟨rfl, by simp only [DS.ps, ds0]; rw [← hB]; exact hacc, Nat.zero_le _, rfl, by simp [ds0], by simp [ds0], by simp [ds0, builtinsL]⟩ (by simp -dsimp (maxDischargeDepth := 9) only [go_sem, zA, zB, zC, zD, zE, zF, zG, gS]) (by simp only [DS.hp, ds0]; rw [← hrun]; exact (leH_hp (by simp only [hpS, eq_self, implies_true, f2, f13, f14, f15, f17]) (by simp only [hpS, eq_self, implies_true, f2, f13, f14, f15, f17]))) ?_
  rintro ⟨k, s, t, c, p, R⟩ G ⟨hG, hacc, hk, hrun, hs1, hs2, hs3⟩
  simp only at hG hacc hk hrun hs1 hs2 hs3
  subst hG
  simp -dsimp (maxDischargeDepth := 9) only [go_sem, zA, zB, zC, zD, zE, zF, zG, gS]
  refine gif_split (fun q2 => ?_) (fun q2 => ?_)
  ·have q2' : k < l.length := by have := of_decide_eq_true q2; omega
   obtain ⟨it, hx⟩ := list_at q2'
   have hsm := hl.small it (List.mem_of_getElem? hx)
   have hw := wrapN (k := k) (by omega)
   rw [drop_at hx, List.foldl_cons] at hrun
   have c51 := declare51_ok (eb := eb) it hsm (R := R) h4 s ⟨by omega, by omega, by omega⟩ hacc
   obtain ⟨x1, x2, x3, x4, x5, x6, x7, x8, x9, x10, x11, x12, hbody, hd⟩ := it.opn
   rw [hd] at c51
   simp -dsimp (maxDischargeDepth := 9) only [go_sem, zA, zB, zC, zD, zE, zF, zG, gS, q2, hx, hd]
   refine newK_hp (fun b8 f8 => ?_)
   simp only [off_cons, off_nil] at f8
   simp -dsimp (maxDischargeDepth := 9) only [go_sem, zA, zB, zC, zD, zE, zF, zG, gS, f2, f13, f14, f15, f17, f8]
   refine (c51 _ (fun t' c' p' R' hacc' => ?_)).le (leH_hp (by simp only [hpS, eq_self, implies_true, f2, f13, f14, f15, f17, f8]) (by simp only [hpS, eq_self, implies_true, f2, f13, f14, f15, f17, f8]))
   simp -dsimp (maxDischargeDepth := 9) only [go_sem, zA, zB, zC, zD, zE, zF, zG, gS, f2, f13, f14, f15, f17, hw]
   have hct := hsm.nct
   obtain ⟨b1, b2', b3⟩ := dstep_len s it hct
   exact roundQ_next (k + 1, dstep s it, t', c', p', R') _ ⟨rfl, hacc', q2', hrun, by simp only; omega, by simp only; omega, by simp only; omega⟩ (by simp only; omega) (by simp -dsimp (maxDischargeDepth := 9) only [go_sem, zA, zB, zC, zD, zE, zF, zG, gS]) (.refl _)
  ·rw [drop_end (by have := of_decide_eq_false q2; omega), List.foldl_nil] at hrun
   rw [← hrun] at hpl
   have hrs := dEnd_rs l
   rw [← hrun] at hrs
   have haccN : AccN H0 [b17, b13, b14, b15] (pcT s.types t :: pcC s.ctors c :: pcX (xs0 l) p :: (xs0 l).flatMap PX.ps) R := by
    have h' : AccN H0 [b17, b13, b14, b15] [pcT s.types t, pcC s.ctors c, pcX (xs0 l) p] R := by simp only [pcX, ← hrs]; exact hacc
    exact h'.nils (xs0_ps l)
   have hpr0 : uEnd l = builtinsL ++ uFin 0 l ((xs0 l).map PX.pr) := rfl
   simp -dsimp (maxDischargeDepth := 9) only [go_sem, zA, zB, zC, zD, zE, zF, zG, gS, q2]
   refine svc_loop (X := Nat × List PX × Bool × A × Heap) (fun y => [(2, .ref b2 0), (4, .ref b17 0), (59, .d (.slice (l.map It.d))), (60, .d (.int .i64 l.length)), (61, .d (.int .i64 y.1))])
    (fun y G => G = hp y.2.2.2.2 [(b17, tvar t c y.2.2.2.1 b13 b14 b15 y.2.2.1), (b13, .map (.one .str) (enc s.mt)), (b14, .map (.row [.str, .int .i64]) (encK s.mc)), (b15, .map (.row [.str, .int .i64]) (encK s.mp))] ∧ AccN H0 [b17, b13, b14, b15] (pcT s.types t :: pcC s.ctors c :: pcX y.2.1 y.2.2.2.1 :: y.2.1.flatMap PX.ps) y.2.2.2.2 ∧ y.1 ≤ l.length ∧ (y.2.2.1 && uAll s.mt s.mc s.mp y.1 (l.drop y.1) (y.2.1.map PX.pr)) = (s.good && uAll s.mt s.mc s.mp 0 l ((xs0 l).map PX.pr)) ∧ (y.2.2.1 = true → uFin y.1 (l.drop y.1) (y.2.1.map PX.pr) = uFin 0 l ((xs0 l).map PX.pr)) ∧ (y.2.2.1 = true → Places s.mp y.2.1) ∧ (y.2.2.1 = true → Grows y.1 y.2.1) ∧ y.2.1.length = (xs0 l).length)
    (fun y => l.length - y.1) (0, xs0 l, s.good, p, R) _ ⟨rfl, haccN, Nat.zero_le _, rfl, fun _ => rfl, hpl, fun _ x hx => by
     obtain ⟨it, _, rfl⟩ := List.mem_map.1 hx
     exact ⟨Nat.le_refl _, Nat.le_refl _, fun m hm => by cases hm⟩, rfl⟩ (by simp -dsimp (maxDischargeDepth := 9) only [go_sem, zA, zB, zC, zD, zE, zF, zG, gS]) (by simp only [DS.hp]; exact (leH_hp (by simp only [hpS, eq_self, implies_true, f2, f13, f14, f15, f17]) (by simp only [hpS, eq_self, implies_true, f2, f13, f14, f15, f17]))) ?_
   clear hacc haccN hk hj' hj
   rintro ⟨k, xs, g, p, R⟩ G ⟨hG, hacc, hk, hgo, hfin, hpc, hgr, hxl⟩
   simp only at hG hacc hk hgo hfin hpc hgr hxl
   subst hG
   simp -dsimp (maxDischargeDepth := 9) only [go_sem, zA, zB, zC, zD, zE, zF, zG, gS]
   refine gif_split (fun q3 => ?_) (fun q3 => ?_)
   ·have q3' : k < l.length := by have := of_decide_eq_true q3; omega
    obtain ⟨it, hx⟩ := list_at q3'
    have hsm := hl.small it (List.mem_of_getElem? hx)
    have hw := wrapN (k := k) (by omega)
    rw [drop_at hx] at hgo hfin
    simp only [uAll] at hgo
    simp only [uFin] at hfin
    have c52 := fun K h => toP (use52_ok (eb := eb) k it hsm (R := R) (c := c) (t := t) h4 hacc s.mt s.mc s.mp g hpc (fun h x hx => ⟨by have := (hgr h x hx).1; omega, by have := (hgr h x hx).2.1; omega, (hgr h x hx).2.2⟩) K h)
    obtain ⟨x1, x2, x3, x4, x5, x6, x7, x8, x9, x10, x11, x12, hbody, hd⟩ := it.opn
    rw [hd] at c52
    simp -dsimp (maxDischargeDepth := 9) only [go_sem, zA, zB, zC, zD, zE, zF, zG, gS, q3, hx, hd]
    refine newK_hp (fun b10 f10 => ?_)
    simp only [off_cons, off_nil] at f10
    simp -dsimp (maxDischargeDepth := 9) only [go_sem, zA, zB, zC, zD, zE, zF, zG, gS, f2, f13, f14, f15, f17, f10]
    refine (c52 _ (fun xs' p' R' hacc' hlen' hpr' => ?_)).le (leH_hp (by simp only [hpS, eq_self, implies_true, f2, f13, f14, f15, f17, f10]) (by simp only [hpS, eq_self, implies_true, f2, f13, f14, f15, f17, f10]))
    simp -dsimp (maxDischargeDepth := 9) only [go_sem, zA, zB, zC, zD, zE, zF, zG, gS, f2, f13, f14, f15, f17, hw]
    refine roundQ_next (k + 1, xs', g && pUses s.mt s.mc s.mp (xs.map PX.pr) it, p', R') _ ⟨rfl, hacc', q3', ?_, fun hg => ?_, fun hg => ?_, fun hg => ?_, by simp only; rw [hlen', hxl]⟩ (by simp only; omega) (by simp -dsimp (maxDischargeDepth := 9) only [go_sem, zA, zB, zC, zD, zE, zF, zG, gS]) (.refl _)
    ·simp only
     rw [← hgo]
     cases hgg : (g && pUses s.mt s.mc s.mp (xs.map PX.pr) it) with
     | false => rw [← Bool.and_assoc, hgg]; simp
     | true => rw [← Bool.and_assoc, hgg, hpr' hgg]
    ·simp only at hg ⊢
     rw [hpr' hg]
     exact hfin (by simp only [Bool.and_eq_true] at hg; exact hg.1)
    ·simp only at hg ⊢
     exact (hpc (by simp only [Bool.and_eq_true] at hg; exact hg.1)).same (keys_same (hpr' hg))
    ·simp only at hg ⊢
     exact (hgr (by simp only [Bool.and_eq_true] at hg; exact hg.1)).next hsm.ways (hpr' hg)
   ·rw [drop_end (by have := of_decide_eq_false q3; omega)] at hgo hfin
    simp only [uAll, Bool.and_true] at hgo
    simp only [uFin] at hfin
    simp -dsimp (maxDischargeDepth := 9) only [go_sem, zA, zB, zC, zD, zE, zF, zG, gS, q3]
    rcases AccN.mid (pre := [pcT s.types t, pcC s.ctors c]) hacc with ⟨e, _⟩ | ⟨bP, vP, hpe, hkP, hHP, hvP, hP⟩
    ·simp [rowX, builtinsL] at e
    obtain rfl : p = .own bP vP := hpe
    obtain ⟨⟨k1, k2⟩, ⟨k3, k4⟩, ⟨k5, k6⟩, k7, k8⟩ := memK_four hkP
    have hP' : R bP = some (.arr 36 5 vP (rowX xs)) := hP
    refine andK_split (AccN.lenable (pre := [pcT s.types t, pcC s.ctors c]) hacc rfl) ?_
    rw [show ∀ K, aLen (.own bP vP) (hp R _) K = _ from fun K => AccN.len (pre := [pcT s.types t, pcC s.ctors c]) (p := pcX xs (.own bP vP)) hacc (by simp only [hpS, eq_self, implies_true, f2, f13, f14, f15, f17])]
    obtain ⟨ps, hps⟩ : ∃ ps, ps = builtinsL ++ xs.map PX.pr := ⟨_, rfl⟩
    have hpl2 : (pcX xs (.own bP vP)).xs.length = ps.length := by rw [hps]; simp [rowX]
    rw [hpl2]
    have hpsl : ps.length ≤ 7 + 1048576 := by
     rw [hps]; simp only [List.length_append, List.length_map, hxl, xs0]
     have h1 : (l.filter fun it => decide (it.kind = 2)).length ≤ l.length := List.length_filter_le ..
     have h2 : builtinsL.length = 7 := rfl
     omega
    simp -dsimp (maxDischargeDepth := 9) only [go_sem, zA, zB, zC, zD, zE, zF, zG, gS, f2, f13, f14, f15, f17]
    obtain ⟨R3, st, hacc3, hok3, _⟩ := preds_deep (V := seatP eb) (l := [(b17, tvar t c (.own bP vP) b13 b14 b15 g), (b13, .map (.one .str) (enc s.mt)), (b14, .map (.row [.str, .int .i64]) (encK s.mc)), (b15, .map (.row [.str, .int .i64]) (encK s.mp))]) hacc (by simp only [hpS, eq_self, implies_true, f2, f13, f14, f15, f17])
    rw [← hps] at hacc3
    refine svc_step st ?_
    have hP3 : R3 bP = some (.arr 36 5 vP (ps.map Pr.d)) := by
     rcases AccN.mid (pre := [pcT s.types t, pcC s.ctors c]) hacc3 with ⟨e, _⟩ | ⟨b2, v2, h1, _, _, _, h2⟩
     ·rw [hps] at e; simp [builtinsL] at e
     ·cases h1; exact h2
    refine svc_loop (X := Nat × Bool) (fun y => [(2, .ref b2 0), (4, .ref b17 0), (75, .own bP vP), (76, .d (.int .i64 ps.length)), (77, .d (.int .i64 y.1))])
     (fun y G => G = hp R3 [(b17, tvar t c (.own bP vP) b13 b14 b15 y.2), (b13, .map (.one .str) (enc s.mt)), (b14, .map (.row [.str, .int .i64]) (encK s.mc)), (b15, .map (.row [.str, .int .i64]) (encK s.mp))] ∧ y.1 ≤ ps.length ∧ (y.2 && (ps.drop y.1).all fun p => decide (0 < p.modes.length)) = (g && ps.all fun p => decide (0 < p.modes.length)))
     (fun y => ps.length - y.1) (0, g) _ ⟨rfl, Nat.zero_le _, rfl⟩ (by simp -dsimp (maxDischargeDepth := 9) only [go_sem, zA, zB, zC, zD, zE, zF, zG, gS]) (.refl _) ?_
    rintro ⟨j, gj⟩ G ⟨hG, hj, hrj⟩
    simp only at hG hj hrj
    subst hG
    simp -dsimp (maxDischargeDepth := 9) only [go_sem, zA, zB, zC, zD, zE, zF, zG, gS]
    refine gif_split (fun q4 => ?_) (fun q4 => ?_)
    ·have q4' : j < ps.length := by have := of_decide_eq_true q4; omega
     obtain ⟨q, hq⟩ := list_at q4'
     have hw := wrapN (k := j) (by omega)
     rw [drop_at hq, List.all_cons] at hrj
     obtain ⟨⟨qn, qa⟩, qt, qm, qc⟩ := q
     simp -dsimp (maxDischargeDepth := 9) only [go_sem, zA, zB, zC, zD, zE, zF, zG, gS, q4, q4', hq, f2, f13, f14, f15, f17, k1, k2, k3, k4, k5, k6, k7, k8, hP3, Pr.d, Pr.cs]
     refine newK_hp (fun b12 f12 => ?_)
     simp only [off_cons, off_nil] at f12
     simp -dsimp (maxDischargeDepth := 9) only [go_sem, zA, zB, zC, zD, zE, zF, zG, gS, f2, f13, f14, f15, f17, f12]
     refine toP (need53_ok _ b17 t c (.own bP vP) b13 b14 b15 gj _ (by simp only [hpS, eq_self, implies_true, f2, f13, f14, f15, f17, f12]) _ ?_)
     simp -dsimp (maxDischargeDepth := 9) only [go_sem, zA, zB, zC, zD, zE, zF, zG, gS, f2, f13, f14, f15, f17, f12, hw]
     have e : decide ((0 : Int) < (qm.length : Int)) = decide (0 < qm.length) := by simp
     rw [e]
     exact roundQ_next (j + 1, gj && decide (0 < qm.length)) _ ⟨rfl, q4', by simp only; rw [← hrj, Bool.and_assoc]⟩ (by simp only; omega) (by simp -dsimp (maxDischargeDepth := 9) only [go_sem, zA, zB, zC, zD, zE, zF, zG, gS]) (leH_hp (by simp only [hpS, eq_self, implies_true, f2, f13, f14, f15, f17, f12]) (by simp only [hpS, eq_self, implies_true, f2, f13, f14, f15, f17, f12]))
    ·rw [drop_end (by have := of_decide_eq_false q4; omega)] at hrj
     simp only [List.all_nil, Bool.and_true] at hrj
     have hgood : pGood l = gj := by
      rw [pGood, ← hrun, ← hgo, hrj]
      cases hg : g with
      | false => rfl
      | true => rw [hps, uEnd, ← hfin hg]
     have hG0 : (seatP eb).G 0 = some (.sent 0) := seatV_on inferInstance
     have hR3 := hacc3.le b2 _ hb2
     have hHb : H b2 = none := f2
     cases gj with
     | false =>
      have hn : pResolve l = none := by rw [pResolve, hgood]; rfl
      rw [hn] at hK
      simp -dsimp (maxDischargeDepth := 9) only [go_sem, zA, zB, zC, zD, zE, zF, zG, gS, q4, f2, f13, f14, f15, f17, hG0, hR3]
      refine retW_tup [true, true] ?_
      simp -dsimp (maxDischargeDepth := 9) only [go_sem, zA, zB, zC, zD, zE, zF, zG, gS, f2, f13, f14, f15, f17]
      have hleR : LeH H R3 := hle0.trans hacc3.le
      exact retW_drop (G := H) (leH_hp02 hleR (by simp only [hpS, eq_self, implies_true, f2, f13, f14, f15, f17])) (retW_is hK)
     | true =>
      have hn : pResolve l = some ⟨s.types, s.ctors, ps⟩ := by
       rw [pResolve, hgood, if_pos rfl, ← hrun]
       have hg : g = true := by
        have := hrj.symm
        simp only [Bool.and_eq_true] at this
        exact this.1
       rw [hps, uEnd, ← hfin hg]
      rw [hn] at hK
      have hone := fun s => AccN.allD (pre := []) hacc3 (t := s)
      simp -dsimp (maxDischargeDepth := 9) only [go_sem, zA, zB, zC, zD, zE, zF, zG, gS, q4, f2, f13, f14, f15, f17, hR3, hone]
      have haccF := hacc3.put (o := .var [t, c, .own bP vP]) hle0 hHb hb2
      refine retW_drop (G := hp (upd R3 b2 (.var [t, c, .own bP vP])) [(b17, tvar t c (.own bP vP) b13 b14 b15 true), (b13, .map (.one .str) (enc s.mt)), (b14, .map (.row [.str, .int .i64]) (encK s.mc)), (b15, .map (.row [.str, .int .i64]) (encK s.mp))]) (by rw [hp_base (by simp only [hpS, eq_self, implies_true, f2, f13, f14, f15, f17])]; exact (leH_hp (by simp only [hpS, eq_self, implies_true, f2, f13, f14, f15, f17]) (by simp only [hpS, eq_self, implies_true, f2, f13, f14, f15, f17]))) ?_
      refine retW_tup [true, true] ?_
      simp -dsimp (maxDischargeDepth := 9) only [go_sem, zA, zB, zC, zD, zE, zF, zG, gS, f2, f13, f14, f15, f17]
      refine AccN.deep (pre := []) (p := pcT s.types t) (post := [pcC s.ctors c, ⟨36, 5, ps.map Pr.d, .own bP vP⟩]) haccF (by simp only [hpS, eq_self, implies_true, f2, f13, f14, f15, f17]) (fun R4 hacc4 hn4 => ?_)
      simp -dsimp (maxDischargeDepth := 9) only [go_sem, zA, zB, zC, zD, zE, zF, zG, gS, f2, f13, f14, f15, f17]
      refine AccN.deep (pre := []) (p := pcC s.ctors c) (post := [⟨36, 5, ps.map Pr.d, .own bP vP⟩]) hacc4 (by simp only [hpS, eq_self, implies_true, f2, f13, f14, f15, f17]) (fun R5 hacc5 hn5 => ?_)
      have hP5 : R5 bP = some (.arr 36 5 vP (ps.map Pr.d)) := by
       rcases AccN.mid (pre := []) hacc5 with ⟨e, _⟩ | ⟨b2, v2, h1, _, _, _, h2⟩
       ·rw [hps] at e; simp [builtinsL] at e
       ·cases h1; exact h2
      have hbH := hle0.free hHP
      simp -dsimp (maxDischargeDepth := 9) only [go_sem, zA, zB, zC, zD, zE, zF, zG, gS, f2, f13, f14, f15, f17, k1, k2, k3, k4, k5, k6, k7, k8, hP5]
      have hleR := hacc5.le
      exact retW_drop (G := H) (leH_hp02 hleR (by simp only [hpS, eq_self, implies_true, f2, f13, f14, f15, f17, hbH])) (retW_is hK)
end Go.Aug

/- The program's names: when all is declared once (plain). -/
namespace Go.Aug
open Go.Proofs
set_option maxRecDepth 100000
set_option linter.unusedSimpArgs false
theorem any_mem {v : ByteArray} {l : List ByteArray} : (l.any fun x => decide (v = x)) = true ↔ v ∈ l := by
 simp only [List.any_eq_true, decide_eq_true_eq]
 exact ⟨fun ⟨x, h, e⟩ => e ▸ h, fun h => ⟨v, h, rfl⟩⟩
theorem sput_mem {v x : ByteArray} {l : List ByteArray} : x ∈ sput l v ↔ x ∈ l ∨ x = v := by
 unfold sput
 split
 ·rename_i h; exact ⟨.inl, fun h' => h'.elim id fun e => e ▸ any_mem.1 h⟩
 ·simp
theorem pDist_iff : ∀ {vs s : List ByteArray}, pDist s vs = true ↔ vs.Nodup ∧ ∀ v ∈ vs, v ∉ s
 | [], s => by simp [pDist]
 | v :: vs, s => by
  rw [pDist, Bool.and_eq_true, pDist_iff, Bool.not_eq_true', Bool.eq_false_iff, ne_eq, any_mem]
  simp only [List.nodup_cons, List.mem_cons, sput_mem, not_or]
  constructor
  ·rintro ⟨h1, h2, h3⟩
   exact ⟨⟨fun h => (h3 v h).2 rfl, h2⟩, fun x hx => hx.elim (fun e => e ▸ h1) fun h => (h3 x h).1⟩
  ·rintro ⟨⟨h1, h2⟩, h3⟩
   exact ⟨h3 v (.inl rfl), h2, fun x hx => ⟨h3 x (.inr hx), fun e => h1 (e ▸ hx)⟩⟩
theorem kfind_put {q x : Ky} {v : Nat} : ∀ {m : List (Ky × Nat)}, kfind (kput m q v) x = if x = q then some v else kfind m x
 | [] => by simp only [kput, kfind]
 | (a, w) :: m => by
  simp only [kput]
  by_cases h : q = a
  ·rw [if_pos h]
   simp only [kfind]
   by_cases h2 : x = a
   ·rw [if_pos h2, if_pos (h2.trans h.symm)]
   ·rw [if_neg h2, if_neg (fun e => h2 (e.trans h)), if_neg h2]
  ·rw [if_neg h]
   simp only [kfind]
   by_cases h2 : x = a
   ·rw [if_pos h2, if_neg (fun e => h (e.symm.trans h2)), if_pos h2]
   ·rw [if_neg h2, if_neg h2]; exact kfind_put
theorem nfind_put {q x : ByteArray} {v : Nat} : ∀ {m : List (ByteArray × Nat)}, nfind (nput m q v) x = if x = q then some v else nfind m x
 | [] => by simp only [nput, nfind]
 | (a, w) :: m => by
  simp only [nput]
  by_cases h : q = a
  ·rw [if_pos h]
   simp only [nfind]
   by_cases h2 : x = a
   ·rw [if_pos h2, if_pos (h2.trans h.symm)]
   ·rw [if_neg h2, if_neg (fun e => h2 (e.trans h)), if_neg h2]
  ·rw [if_neg h]
   simp only [nfind]
   by_cases h2 : x = a
   ·rw [if_pos h2, if_neg (fun e => h (e.symm.trans h2)), if_pos h2]
   ·rw [if_neg h2, if_neg h2]; exact nfind_put
def ctKey (c : Ct) : Ky := ⟨c.name, c.args.length⟩
theorem pCts_has {q : Ky} : ∀ {cs : List Ct} {n : Nat} {mc : List (Ky × Nat)}, (kfind (pCts n mc cs).2 q).isSome = true ↔ (kfind mc q).isSome = true ∨ q ∈ cs.map ctKey
 | [], _, _ => by simp [pCts]
 | c :: cs, n, mc => by
  simp only [pCts, List.map_cons, List.mem_cons]
  rw [pCts_has, kfind_put]
  have e : (⟨c.name, (c.args.length : Int)⟩ : Ky) = ctKey c := rfl
  rw [e]
  by_cases h : q = ctKey c
  ·simp [h]
  ·simp [h]
theorem pCts_iff : ∀ {cs : List Ct} {n : Nat} {mc : List (Ky × Nat)}, (pCts n mc cs).1 = true ↔ (cs.map ctKey).Nodup ∧ ∀ c ∈ cs, kfind mc (ctKey c) = none
 | [], _, _ => by simp [pCts]
 | c :: cs, n, mc => by
  have e : (⟨c.name, (c.args.length : Int)⟩ : Ky) = ctKey c := rfl
  simp only [pCts, Bool.and_eq_true, e, List.map_cons, List.nodup_cons, List.mem_cons, Option.isNone_iff_eq_none]
  rw [pCts_iff]
  constructor
  ·rintro ⟨h1, h2, h3⟩
   refine ⟨⟨fun h => ?_, h2⟩, fun x hx => ?_⟩
   ·obtain ⟨x, hx, hxe⟩ := List.mem_map.1 h
    have := h3 x hx
    rw [kfind_put, if_pos hxe] at this
    cases this
   ·rcases hx with rfl | hx
    ·exact h1
    ·have := h3 x hx
     rw [kfind_put] at this
     split at this
     ·cases this
     ·exact this
  ·rintro ⟨⟨h1, h2⟩, h3⟩
   refine ⟨h3 c (.inl rfl), h2, fun x hx => ?_⟩
   rw [kfind_put, if_neg fun hxe => h1 (List.mem_map.2 ⟨x, hx, hxe⟩)]
   exact h3 x (.inr hx)
theorem ctsFrom_keys (it : It) : ∀ (k : Nat) (cs : List Ct), (ctsFrom it k cs).map Cr.key = cs.map ctKey
 | _, [] => rfl
 | k, c :: cs => by simp only [ctsFrom, List.map_cons, ctsFrom_keys it (k + 1) cs]; rfl
/-- What holds of a table when a prefix is declared. -/
structure DInv (pre : List It) (s : DS) : Prop where
 types : s.types = tysOf pre
 ctors : s.ctors = crsOf pre
 rs : s.rs.length = 7 + (psOf pre).length
 mt : ∀ n, (nfind s.mt n).isSome = true ↔ n ∈ (tysOf pre).map It.name
 mc : ∀ q, (kfind s.mc q).isSome = true ↔ q ∈ (crsOf pre).map Cr.key
 mp : ∀ q, (kfind s.mp q).isSome = true ↔ q ∈ builtinsL.map Pr.key ++ (psOf pre).map keyOf
 good : s.good = true ↔ ((tysOf pre).map It.name).Nodup ∧ (∀ it ∈ tysOf pre, it.vars.Nodup) ∧ ((crsOf pre).map Cr.key).Nodup ∧ (builtinsL.map Pr.key ++ (psOf pre).map keyOf).Nodup
 mtv : s.good = true → ∀ n v, nfind s.mt n = some v → ∃ it ∈ tysOf pre, it.name = n ∧ it.vars.length = v
 mpv : s.good = true → ∀ (q : Ky) (i : Nat), kfind s.mp q = some i → isBuiltin q = false → 7 ≤ i ∧ ((psOf pre).map keyOf)[i - 7]? = some q
theorem builtinKeys_nodup : (builtinsL.map Pr.key).Nodup := by decide
theorem mp0_has (q : Ky) : (kfind mp0 q).isSome = true ↔ q ∈ builtinsL.map Pr.key := by
 have e : mp0 = (builtinsL.map Pr.key).zipIdx := by decide
 rw [e]
 have h : ∀ (l : List Ky) (n : Nat), (kfind (l.zipIdx n) q).isSome = true ↔ q ∈ l := by
  intro l
  induction l with
  | nil => intro n; simp [kfind]
  | cons a l ih =>
   intro n
   simp only [List.zipIdx_cons, kfind, List.mem_cons]
   split
   ·rename_i h; simp [h]
   ·rename_i h; rw [ih]; simp [h]
 exact h _ 0
theorem DInv.nil : DInv [] ds0 where
 types := rfl
 ctors := rfl
 rs := rfl
 mt := fun n => by simp [ds0, nfind, tysOf]
 mc := fun q => by simp [ds0, kfind, crsOf, tysOf]
 mp := fun q => by rw [show ds0.mp = mp0 from rfl, mp0_has]; simp [psOf]
 good := by
  refine ⟨fun _ => ⟨by simp [tysOf], by simp [tysOf], by simp [crsOf, tysOf], ?_⟩, fun _ => rfl⟩
  simp only [psOf, List.filter_nil, List.map_nil, List.append_nil]
  exact builtinKeys_nodup
 mtv := fun _ n v h => by simp [ds0, nfind] at h
 mpv := fun _ q i h hb => by
  have h1 : (kfind mp0 q).isSome = true := by rw [show mp0 = ds0.mp from rfl, h]; rfl
  rw [mp0_has, ← isBuiltin_mem, hb] at h1
  cases h1
theorem nodup_snoc {α : Type} {l : List α} {a : α} : (l ++ [a]).Nodup ↔ l.Nodup ∧ a ∉ l := by
 rw [List.nodup_append]
 constructor
 ·rintro ⟨h1, _, h3⟩; exact ⟨h1, fun h => h3 a h a (by simp) rfl⟩
 ·rintro ⟨h1, h2⟩; exact ⟨h1, by simp, fun x hx y hy e => h2 (by rw [List.mem_singleton.1 hy] at e; exact e ▸ hx)⟩
theorem isNone_not {α : Type} {o : Option α} : o.isNone = true ↔ ¬ o.isSome = true := by cases o <;> simp
theorem DInv.step {pre : List It} {s : DS} (h : DInv pre s) (it : It) : DInv (pre ++ [it]) (dstep s it) := by
 by_cases h1 : it.kind = 1
 ·have h2 : ¬ it.kind = 2 := by rw [h1]; decide
  have et : tysOf (pre ++ [it]) = tysOf pre ++ [it] := by simp [tysOf, h1]
  have ep : psOf (pre ++ [it]) = psOf pre := by simp [psOf, h2]
  have ec : crsOf (pre ++ [it]) = crsOf pre ++ ctsFrom it 0 it.ctors := by simp [crsOf, et]
  have eg : (s.good && ((nfind s.mt it.name).isNone && (pDist [] it.vars && (pCts s.ctors.length s.mc it.ctors).1))) = true ↔ (((tysOf pre ++ [it]).map It.name).Nodup ∧ (∀ x ∈ tysOf pre ++ [it], x.vars.Nodup) ∧ ((crsOf pre ++ ctsFrom it 0 it.ctors).map Cr.key).Nodup ∧ (builtinsL.map Pr.key ++ (psOf pre).map keyOf).Nodup) := by
   rw [Bool.and_eq_true, Bool.and_eq_true, Bool.and_eq_true, h.good, isNone_not, h.mt, pDist_iff, pCts_iff, List.map_append, List.map_cons, List.map_nil, nodup_snoc, List.map_append, ctsFrom_keys, List.nodup_append (l₁ := (crsOf pre).map Cr.key) (l₂ := it.ctors.map ctKey)]
   have hc : (∀ c ∈ it.ctors, kfind s.mc (ctKey c) = none) ↔ ∀ a ∈ (crsOf pre).map Cr.key, ∀ b ∈ it.ctors.map ctKey, a ≠ b := by
    constructor
    ·intro hh a ha b hb e
     obtain ⟨c, hc, rfl⟩ := List.mem_map.1 hb
     have := (h.mc a).2 ha
     rw [e, hh c hc] at this; cases this
    ·intro hh c hc
     have : ¬ (kfind s.mc (ctKey c)).isSome = true := fun e => hh _ ((h.mc _).1 e) _ (List.mem_map_of_mem hc) rfl
     simpa using this
   rw [hc]
   constructor
   ·rintro ⟨⟨a1, a2, a3, a4⟩, b1, ⟨b2, _⟩, b3, b4⟩
    exact ⟨⟨a1, b1⟩, fun x hx => (List.mem_append.1 hx).elim (a2 x) fun hx => by rw [List.mem_singleton.1 hx]; exact b2, ⟨a3, b3, b4⟩, a4⟩
   ·rintro ⟨⟨a1, b1⟩, b2, ⟨a3, b3, b4⟩, a4⟩
    exact ⟨⟨a1, fun x hx => b2 x (List.mem_append.2 (.inl hx)), a3, a4⟩, b1, ⟨b2 it (by simp), fun v _ hv => by cases hv⟩, b3, b4⟩
  unfold dstep
  rw [if_pos h1]
  refine ⟨by simp only [et, h.types], by simp only [ec, h.ctors], by simp only [ep, h.rs], fun n => ?_, fun q => ?_, fun q => ?_, ?_, fun hg n v hv => ?_, fun hg q i hq hb => ?_⟩
  ·simp only [et, nfind_put, List.map_append, List.map_cons, List.map_nil, List.mem_append, List.mem_singleton]
   rw [← h.mt]
   split
   ·rename_i e; simp [e]
   ·rename_i e; simp [e]
  ·simp only [ec, pCts_has, List.map_append, ctsFrom_keys, List.mem_append, h.mc]
  ·simp only [ep]; exact h.mp q
  ·simp only [et, ep, ec]; exact eg
  ·simp only at hg hv
   simp only [nfind_put] at hv
   split at hv
   ·rename_i e
    cases hv
    exact ⟨it, by rw [et]; simp, e.symm, rfl⟩
   ·simp only [Bool.and_eq_true] at hg
    obtain ⟨x, hx, e⟩ := h.mtv hg.1 n v hv
    exact ⟨x, by rw [et]; exact List.mem_append.2 (.inl hx), e⟩
  ·simp only [Bool.and_eq_true] at hg
   rw [ep]
   exact h.mpv hg.1 q i hq hb
 ·have et : tysOf (pre ++ [it]) = tysOf pre := by simp [tysOf, h1]
  have ec : crsOf (pre ++ [it]) = crsOf pre := by simp [crsOf, et]
  by_cases h2 : it.kind = 2
  ·have ep : psOf (pre ++ [it]) = psOf pre ++ [it] := by simp [psOf, h2]
   have ek : pKey it = keyOf it := by rw [keyOf, if_pos h2]; rfl
   have eg : (s.good && (kfind s.mp (pKey it)).isNone) = true ↔ (((tysOf pre).map It.name).Nodup ∧ (∀ it ∈ tysOf pre, it.vars.Nodup) ∧ ((crsOf pre).map Cr.key).Nodup ∧ (builtinsL.map Pr.key ++ (psOf pre ++ [it]).map keyOf).Nodup) := by
    rw [Bool.and_eq_true, h.good, isNone_not, h.mp, ek, List.map_append, List.map_cons, List.map_nil, ← List.append_assoc, nodup_snoc]
    constructor
    ·rintro ⟨⟨a1, a2, a3, a4⟩, b⟩; exact ⟨a1, a2, a3, a4, b⟩
    ·rintro ⟨a1, a2, a3, a4, b⟩; exact ⟨⟨a1, a2, a3, a4⟩, b⟩
   unfold dstep
   rw [if_neg h1, if_pos h2]
   refine ⟨by simp only [et, h.types], by simp only [ec, h.ctors], by simp only [ep, List.length_append, List.length_cons, List.length_nil, h.rs]; omega, fun n => ?_, fun q => ?_, fun q => ?_, ?_, fun hg n v hv => ?_, fun hg q i hq hb => ?_⟩
   ·simp only [et]; exact h.mt n
   ·simp only [ec]; exact h.mc q
   ·simp only [ep, kfind_put, List.map_append, List.map_cons, List.map_nil, ← List.append_assoc, List.mem_append (t := [keyOf it]), List.mem_singleton]
    rw [← h.mp, ek]
    split
    ·rename_i e; simp [e]
    ·rename_i e; simp [e]
   ·simp only [et, ep, ec]; exact eg
   ·simp only [Bool.and_eq_true] at hg
    rw [et]; exact h.mtv hg.1 n v hv
   ·simp only [Bool.and_eq_true] at hg
    simp only [kfind_put] at hq
    rw [ep, List.map_append, List.map_cons, List.map_nil]
    split at hq
    ·rename_i e
     cases hq
     rw [h.rs]
     refine ⟨by omega, ?_⟩
     have e2 : 7 + (psOf pre).length - 7 = ((psOf pre).map keyOf).length := by simp
     rw [e2, List.getElem?_append_right (Nat.le_refl _), e, ek]; simp
    ·obtain ⟨a, b⟩ := h.mpv hg.1 q i hq hb
     refine ⟨a, ?_⟩
     rw [List.getElem?_append_left ?_]
     ·exact b
     ·exact (List.getElem?_eq_some_iff.1 b).1
  ·have ep : psOf (pre ++ [it]) = psOf pre := by simp [psOf, h2]
   unfold dstep
   rw [if_neg h1, if_neg h2]
   exact ⟨by rw [et, h.types], by rw [ec, h.ctors], by rw [ep, h.rs], fun n => by rw [et]; exact h.mt n, fun q => by rw [ec]; exact h.mc q, fun q => by rw [ep]; exact h.mp q, by rw [et, ec, ep]; exact h.good, by rw [et]; exact h.mtv, by rw [ep]; exact h.mpv⟩
theorem DInv.all : ∀ (rest : List It) {pre : List It} {s : DS}, DInv pre s → DInv (pre ++ rest) (rest.foldl dstep s)
 | [], _, _, h => by simpa using h
 | it :: rest, pre, s, h => by
  have := DInv.all rest (h.step it)
  rw [List.append_assoc] at this
  exact this
theorem dEnd_inv (l : List It) : DInv l (dEnd l) := DInv.all l DInv.nil
end Go.Aug

/- The program's names: what is asked is what the document asks (plain). -/
namespace Go.Aug
open Go.Proofs
set_option maxRecDepth 100000
set_option linter.unusedSimpArgs false
/-- No type is named as the built in one. -/
def NoInt (l : List It) : Prop := ∀ it ∈ l, it.kind = 1 → it.name ≠ kInt
theorem tys_mem {l : List It} {it : It} : it ∈ tysOf l ↔ it ∈ l ∧ it.kind = 1 := by simp [tysOf]
theorem ps_mem {l : List It} {it : It} : it ∈ psOf l ↔ it ∈ l ∧ it.kind = 2 := by simp [psOf]
theorem nodup_inj {α β : Type} {f : α → β} : ∀ {l : List α}, (l.map f).Nodup → ∀ {a b : α}, a ∈ l → b ∈ l → f a = f b → a = b
 | x :: l, h, a, b, ha, hb, e => by
  simp only [List.map_cons, List.nodup_cons] at h
  rcases List.mem_cons.1 ha with e1 | ha' <;> rcases List.mem_cons.1 hb with e2 | hb'
  ·rw [e1, e2]
  ·exact absurd (show f x ∈ l.map f by rw [← e1, e]; exact List.mem_map_of_mem hb') h.1
  ·exact absurd (show f x ∈ l.map f by rw [← e2, ← e]; exact List.mem_map_of_mem ha') h.1
  ·exact nodup_inj h.2 ha' hb' e
theorem mt_is {l : List It} {s : DS} (h : DInv l s) (hg : s.good = true) (n : ByteArray) (k : Nat) : ((nfind s.mt n).any fun v => decide ((v : Int) = (k : Int))) = decide ((0 : Int) < (l.countP (tyVars n k) : Int)) := by
 have hnd := (h.good.1 hg).1
 rw [Bool.eq_iff_iff, decide_eq_true_eq]
 have hc : ((0 : Int) < (l.countP (tyVars n k) : Int)) ↔ ∃ it ∈ tysOf l, it.name = n ∧ it.vars.length = k := by
  rw [show ((0 : Int) < (l.countP (tyVars n k) : Int)) ↔ 0 < l.countP (tyVars n k) from by omega, List.countP_pos_iff]
  constructor
  ·rintro ⟨it, h1, h2⟩
   simp only [tyVars, tyOf, Bool.and_eq_true, decide_eq_true_eq] at h2
   exact ⟨it, tys_mem.2 ⟨h1, h2.1.1⟩, h2.1.2, by omega⟩
  ·rintro ⟨it, h1, h2, h3⟩
   exact ⟨it, (tys_mem.1 h1).1, by simp only [tyVars, tyOf, Bool.and_eq_true, decide_eq_true_eq]; exact ⟨⟨(tys_mem.1 h1).2, h2⟩, by omega⟩⟩
 rw [hc]
 cases hf : nfind s.mt n with
 | none =>
  refine ⟨fun e => Bool.noConfusion e, ?_⟩
  rintro ⟨it, h1, h2, _⟩
  have := (h.mt n).2 (h2 ▸ List.mem_map_of_mem h1)
  rw [hf] at this; cases this
 | some v =>
  obtain ⟨it, h1, h2, h3⟩ := h.mtv hg n v hf
  show decide ((v : Int) = (k : Int)) = true ↔ _
  rw [decide_eq_true_eq]
  constructor
  ·intro e; exact ⟨it, h1, h2, by omega⟩
  ·rintro ⟨y, h4, h5, h6⟩
   have := nodup_inj hnd h1 h4 (h2.trans h5.symm)
   subst this; omega
theorem int_none {l : List It} (hi : NoInt l) (k : Int) : l.countP (tyVars kInt k) = 0 := by
 rw [List.countP_eq_zero]
 intro it hit h
 simp only [tyVars, tyOf, Bool.and_eq_true, decide_eq_true_eq] at h
 exact hi it hit h.1.1 h.1.2
mutual
theorem pTy_is {l : List It} {s : DS} (h : DInv l s) (hg : s.good = true) (hi : NoInt l) (vars : List ByteArray) (told : Bool) : ∀ t : Ty, pTy s.mt vars told t = tyOk l told vars t
 | .mk v n ts => by
  rw [pTy, tyOk]
  split
  ·rfl
  ·have ih := pTys_is h hg hi vars told ts
   split
   ·rename_i hn
    rw [hn, int_none hi]
    cases ts with
    | nil => simp [tyOks]
    | cons a b => simp; omega
   ·rename_i hn
    rw [ih, decide_eq_false hn, Bool.false_and, Bool.or_false, ← mt_is h hg]
    cases nfind s.mt n <;> rfl
theorem pTys_is {l : List It} {s : DS} (h : DInv l s) (hg : s.good = true) (hi : NoInt l) (vars : List ByteArray) (told : Bool) : ∀ ts : List Ty, pTys s.mt vars told ts = tyOks l told vars ts
 | [] => by rw [pTys, tyOks]
 | t :: ts => by rw [pTys, tyOks, pTy_is h hg hi vars told t, pTys_is h hg hi vars told ts]
end
theorem rctors_is (q : Ky) : ∀ l : List It, rctors l q = ((crsOf l).map Cr.key).countP fun k => decide (k = q)
 | [] => rfl
 | it :: l => by
  rw [rctors_cons, rctors_is q l]
  by_cases h1 : it.kind = 1
  ·have e : crsOf (it :: l) = ctsFrom it 0 it.ctors ++ crsOf l := by simp [crsOf, tysOf, h1]
   rw [if_pos h1, e, List.map_append, List.countP_append, ctsFrom_keys]
   have e2 : it.ctors.countP (ctOf q) = it.ctors.countP ((fun k => decide (k = q)) ∘ ctKey) := List.countP_congr fun c _ => by
    obtain ⟨qn, qa⟩ := q
    simp [ctOf, ctKey]
   rw [e2, ← List.countP_map]
  ·have e : crsOf (it :: l) = crsOf l := by simp [crsOf, tysOf, h1]
   rw [if_neg h1, e, Nat.zero_add]
theorem mc_is {l : List It} {s : DS} (h : DInv l s) (q : Ky) : (kfind s.mc q).isSome = decide ((0 : Int) < (rctors l q : Int)) := by
 rw [Bool.eq_iff_iff, h.mc, decide_eq_true_eq, rctors_is, show ∀ n : Nat, ((0 : Int) < (n : Int)) ↔ 0 < n from fun n => by omega, List.countP_pos_iff]
 simp
theorem mp_is {l : List It} {s : DS} (h : DInv l s) (q : Ky) : (kfind s.mp q).isSome = (isBuiltin q || decide ((0 : Int) < (rcount l 2 q : Int))) := by
 rw [Bool.eq_iff_iff, h.mp, Bool.or_eq_true, isBuiltin_mem, List.mem_append, decide_eq_true_eq, rcount_psOf, show ∀ n : Nat, ((0 : Int) < (n : Int)) ↔ 0 < n from fun n => by omega, List.countP_pos_iff]
 simp
mutual
theorem pTm_is {l : List It} {s : DS} (h : DInv l s) : ∀ t : Tm, pTm s.mc t = tmOk l t
 | .mk k n i ts => by
  rw [pTm, tmOk, pTms_is h ts, mc_is h]
  by_cases e : k = 3 <;> simp [e]
theorem pTms_is {l : List It} {s : DS} (h : DInv l s) : ∀ ts : List Tm, pTms s.mc ts = tmOks l ts
 | [] => by rw [pTms, tmOks]
 | t :: ts => by rw [pTms, tmOks, pTm_is h t, pTms_is h ts]
end
mutual
theorem pGl_is {l : List It} {s : DS} (h : DInv l s) : ∀ t : Gl, pGl s.mc s.mp t = glOk l t
 | .mk k a b n xs gs => by
  rw [pGl, glOk, pTms_is h, pTm_is h, pTm_is h, pGls_is h gs, mp_is h, glHead]
theorem pGls_is {l : List It} {s : DS} (h : DInv l s) : ∀ ts : List Gl, pGls s.mc s.mp ts = glOks l ts
 | [] => by rw [pGls, glOks]
 | t :: ts => by rw [pGls, glOks, pGl_is h t, pGls_is h ts]
end
theorem pOwn_is {l : List It} {s : DS} (h : DInv l s) (q : Ky) : pOwn s.mp q = (!isBuiltin q && !decide ((rcount l 2 q : Int) = 0)) := by
 rw [pOwn, mp_is h]
 have e : decide ((0 : Int) < (rcount l 2 q : Int)) = !decide ((rcount l 2 q : Int) = 0) := by
  rw [Bool.eq_iff_iff]; simp; omega
 rw [e]
 cases isBuiltin q <;> simp
/-- Where a table is good its places are right. -/
theorem places_is (l : List It) (hg : (dEnd l).good = true) : Places (dEnd l).mp (xs0 l) := fun k i hk hb => by
 have h := dEnd_inv l
 obtain ⟨h1, h2⟩ := h.mpv hg k i hk hb
 have hx : (xs0 l).map PX.key = (psOf l).map keyOf := by
  simp only [xs0, List.map_map, psOf]
  refine List.map_congr_left fun it hit => ?_
  have : it.kind = 2 := by simpa using (List.mem_filter.1 hit).2
  simp only [Function.comp, pxOf, keyOf, if_pos this]
  rfl
 rw [← hx] at h2
 have hnd := (h.good.1 hg).2.2.2
 rw [← hx, List.nodup_append] at hnd
 have hnd := hnd.2.1
 obtain ⟨hlt, hv⟩ := List.getElem?_eq_some_iff.1 h2
 have hlt' : i - 7 < (xs0 l).length := by simpa using hlt
 have hs : xs0 l = (xs0 l).take (i - 7) ++ (xs0 l)[i - 7] :: (xs0 l).drop (i - 7 + 1) := by
  rw [List.getElem_cons_drop, List.take_append_drop]
 have hk' : ((xs0 l)[i - 7]).key = k := by rw [← hv]; simp
 rw [hs, List.map_append, List.map_cons, List.nodup_append, List.nodup_cons] at hnd
 refine ⟨_, _, _, hs, ?_, hk', fun y hy e => ?_, fun y hy e => ?_⟩
 ·rw [List.length_take]; omega
 ·exact hnd.2.2 _ (List.mem_map_of_mem hy) _ (.head _) (by rw [e, hk'])
 ·exact hnd.2.1.1 (by rw [hk', ← e]; exact List.mem_map_of_mem hy)
end Go.Aug

/- The program's names: its Resolve is the document's (plain). -/
namespace Go.Aug
open Go.Proofs
set_option maxRecDepth 100000
set_option linter.unusedSimpArgs false
def pFull (i : Nat) (l : List It) (p : Pr) : Pr := ⟨p.key, p.types, p.modes ++ modesOf l p.key, p.clauses ++ clsFrom p.key i l⟩
theorem isOf_kind {k : Int} {q : Ky} {it : It} : isOf k q it = true ↔ it.kind = k ∧ keyOf it = q := by
 simp only [isOf, Bool.and_eq_true, decide_eq_true_eq, Ky.eqb_iff]
theorem pFull_add (i : Nat) (it : It) (l : List It) (p : Pr) : pFull (i + 1) l (pAdd i it p) = pFull i (it :: l) p := by
 unfold pAdd
 by_cases h3 : isOf 3 p.key it = true
 ·have h4 : ¬ isOf 4 p.key it = true := fun h => by have a := (isOf_kind.1 h3).1; have b := (isOf_kind.1 h).1; omega
  rw [if_pos h3]
  simp [pFull, modesOf, h3, clsFrom, h4]
 ·rw [if_neg h3]
  by_cases h4 : isOf 4 p.key it = true
  ·rw [if_pos h4]; simp [pFull, modesOf, h3, clsFrom, h4]
  ·rw [if_neg h4]; simp [pFull, modesOf, h3, clsFrom, h4]
theorem uFin_is : ∀ (l : List It) (i : Nat) (ps : List Pr), uFin i l ps = ps.map (pFull i l)
 | [], i, ps => by
  rw [uFin, List.map_congr_left (g := id) fun p _ => by simp [pFull, modesOf, clsFrom], List.map_id]
 | it :: l, i, ps => by
  rw [uFin, uFin_is l, List.map_map]
  exact List.map_congr_left fun p _ => pFull_add i it l p
theorem uAll_iff {mt : List (ByteArray × Nat)} {mc mp : List (Ky × Nat)} : ∀ {rest : List It} {i : Nat} {ps : List Pr}, uAll mt mc mp i rest ps = true ↔ ∀ j it, rest[j]? = some it → pUses mt mc mp (uFin i (rest.take j) ps) it = true
 | [], i, ps => by simp [uAll]
 | it :: rest, i, ps => by
  rw [uAll, Bool.and_eq_true, uAll_iff]
  constructor
  ·rintro ⟨h1, h2⟩ j y hj
   cases j with
   | zero => simp at hj; subst hj; exact h1
   | succ j => exact h2 j y (by simpa using hj)
  ·intro h
   exact ⟨h 0 it rfl, fun j y hj => h (j + 1) y (by simpa using hj)⟩
theorem wellFrom_iff {l : List It} : ∀ {rest : List It} {i : Nat}, wellFrom l i rest = true ↔ ∀ j it, rest[j]? = some it → rwell l (i + j) it = true
 | [], i => by simp [wellFrom]
 | it :: rest, i => by
  rw [wellFrom, Bool.and_eq_true, wellFrom_iff]
  constructor
  ·rintro ⟨h1, h2⟩ j y hj
   cases j with
   | zero => simp at hj; subst hj; exact h1
   | succ j => have := h2 j y (by simpa using hj); rw [show i + (j + 1) = i + 1 + j from by omega]; exact this
  ·intro h
   exact ⟨h 0 it rfl, fun j y hj => by have := h (j + 1) y (by simpa using hj); rw [show i + 1 + j = i + (j + 1) from by omega]; exact this⟩
theorem noOther_iff {i : Nat} {q : Ky} {w : List Bool} : ∀ {xs : List It} {k : Nat}, noOther i q w k xs = true ↔ ∀ j x, xs[j]? = some x → other i q w (k + j) x = false
 | [], k => by simp [noOther]
 | x :: xs, k => by
  rw [noOther, Bool.and_eq_true, noOther_iff, Bool.not_eq_true']
  constructor
  ·rintro ⟨h1, h2⟩ j y hj
   cases j with
   | zero => simp at hj; subst hj; exact h1
   | succ j => have := h2 j y (by simpa using hj); rw [show k + (j + 1) = k + 1 + j from by omega]; exact this
  ·intro h
   exact ⟨h 0 x rfl, fun j y hj => by have := h (j + 1) y (by simpa using hj); rw [show k + 1 + j = k + (j + 1) from by omega]; exact this⟩
theorem xs0_pr (l : List It) : (xs0 l).map PX.pr = (psOf l).map fun it => ⟨keyOf it, it.types, [], []⟩ := by
 simp only [xs0, List.map_map, psOf]
 refine List.map_congr_left fun it hit => ?_
 have : it.kind = 2 := by simpa using (List.mem_filter.1 hit).2
 simp only [Function.comp, pxOf, PX.pr, keyOf, if_pos this]
 rfl
theorem uEnd_is (l : List It) : uEnd l = builtinsL ++ (psOf l).map (prOf l) := by
 rw [uEnd, uFin_is, xs0_pr, List.map_map]
 congr 1
theorem modes_mem {l : List It} {q : Ky} {m : Md} : m ∈ modesOf l q ↔ ∃ y ∈ l, y.kind = 3 ∧ keyOf y = q ∧ (⟨y.ways, y.det⟩ : Md) = m := by
 simp only [modesOf, List.mem_map, List.mem_filter, isOf_kind]
 exact ⟨fun ⟨y, ⟨h1, h2, h3⟩, h4⟩ => ⟨y, h1, h2, h3, h4⟩, fun ⟨y, h1, h2, h3, h4⟩ => ⟨y, ⟨h1, h2, h3⟩, h4⟩⟩
theorem twice_iff {l : List It} {j : Nat} {it : It} : ((uFin 0 (l.take j) ((xs0 l).map PX.pr)).any fun p => decide (p.key = keyOf it) && p.modes.any fun m => decide (m.ways = it.ways)) = true ↔
  (∃ y ∈ psOf l, keyOf y = keyOf it) ∧ ∃ z ∈ l.take j, z.kind = 3 ∧ keyOf z = keyOf it ∧ z.ways = it.ways := by
 rw [uFin_is, xs0_pr, List.map_map, List.any_eq_true]
 constructor
 ·rintro ⟨p, hp, h⟩
  obtain ⟨y, hy, rfl⟩ := List.mem_map.1 hp
  simp only [Function.comp, pFull, List.nil_append, Bool.and_eq_true, decide_eq_true_eq, List.any_eq_true] at h
  obtain ⟨h1, m, hm, h2⟩ := h
  obtain ⟨z, hz, h3, h4, rfl⟩ := modes_mem.1 hm
  have h1 : keyOf y = keyOf it := of_decide_eq_true h1
  exact ⟨⟨y, hy, h1⟩, z, hz, h3, h4.trans h1, h2⟩
 ·rintro ⟨⟨y, hy, h1⟩, z, hz, h3, h4, h2⟩
  refine ⟨_, List.mem_map_of_mem hy, ?_⟩
  simp only [Function.comp, pFull, List.nil_append, Bool.and_eq_true, decide_eq_true_eq, List.any_eq_true]
  exact ⟨decide_eq_true h1, ⟨z.ways, z.det⟩, modes_mem.2 ⟨z, hz, h3, h4.trans h1.symm, rfl⟩, h2⟩
end Go.Aug

/- The program's names: its Resolve is the document's (plain), joined. -/
namespace Go.Aug
open Go.Proofs
set_option maxRecDepth 100000
set_option linter.unusedSimpArgs false
theorem noTwice_iff : ∀ {vs pre : List ByteArray}, noTwice pre vs = true ↔ vs.Nodup ∧ ∀ v ∈ vs, v ∉ pre
 | [], pre => by simp [noTwice]
 | v :: vs, pre => by
  have hm : (pre.any fun x => decide (x = v)) = true ↔ v ∈ pre := by
   simp only [List.any_eq_true, decide_eq_true_eq]
   exact ⟨fun ⟨x, h, e⟩ => e ▸ h, fun h => ⟨v, h, rfl⟩⟩
  rw [noTwice, Bool.and_eq_true, noTwice_iff, Bool.not_eq_true', Bool.eq_false_iff, ne_eq, hm]
  simp only [List.nodup_cons, List.mem_cons, List.mem_append, List.mem_singleton, not_or]
  constructor
  ·rintro ⟨h1, h2, h3⟩
   exact ⟨⟨fun h => (h3 v h).2.1 rfl, h2⟩, fun x hx => hx.elim (fun e => e ▸ h1) fun h => (h3 x h).1⟩
  ·rintro ⟨⟨h1, h2⟩, h3⟩
   exact ⟨h3 v (.inl rfl), h2, fun x hx => ⟨h3 x (.inr hx), fun e => h1 (e ▸ hx), by simp⟩⟩
theorem count_one {α β : Type} [DecidableEq β] {f : α → β} : ∀ {l : List α}, (l.map f).Nodup → ∀ a ∈ l, l.countP (fun b => decide (f b = f a)) = 1
 | x :: l, h, a, ha => by
  simp only [List.map_cons, List.nodup_cons] at h
  rw [List.countP_cons]
  rcases List.mem_cons.1 ha with e | ha'
  ·have : l.countP (fun b => decide (f b = f a)) = 0 := by
    rw [List.countP_eq_zero]
    intro b hb hfb
    exact h.1 (by rw [← e, ← of_decide_eq_true hfb]; exact List.mem_map_of_mem hb)
   rw [this, e]; simp
  ·have hne : ¬ f x = f a := fun e => h.1 (by rw [e]; exact List.mem_map_of_mem ha')
   rw [count_one h.2 a ha']; simp [hne]
theorem tyOf_count {l : List It} (n : ByteArray) : l.countP (tyOf n) = (tysOf l).countP fun it => decide (it.name = n) := by
 rw [tysOf, List.countP_filter]
 refine List.countP_congr fun it _ => ?_
 simp [tyOf, and_comm]
theorem other_iff {i k : Nat} {q : Ky} {w : List Bool} {x : It} : other i q w k x = false ↔ ¬ (k ≠ i ∧ x.kind = 3 ∧ keyOf x = q ∧ x.ways = w) := by
 rw [Bool.eq_false_iff, ne_eq]
 simp only [other, Bool.and_eq_true, Bool.not_eq_true', decide_eq_true_eq, decide_eq_false_iff_not, Ky.eqb_iff, sameWays_iff]
 rw [show ((k : Int) = (i : Int)) ↔ k = i from by omega]
theorem crs_mem {l : List It} {it : It} {c : Ct} (h : it ∈ tysOf l) (hc : c ∈ it.ctors) : ctKey c ∈ (crsOf l).map Cr.key := by
 have : ctKey c ∈ (ctsFrom it 0 it.ctors).map Cr.key := by rw [ctsFrom_keys]; exact List.mem_map_of_mem hc
 obtain ⟨r, hr, e⟩ := List.mem_map.1 this
 exact List.mem_map.2 ⟨r, List.mem_flatMap.2 ⟨it, h, hr⟩, e⟩
theorem preds_iff {l : List It} (h : (builtinsL.map Pr.key ++ (psOf l).map keyOf).Nodup) {it : It} (hit : it ∈ psOf l) : isBuiltin (keyOf it) = false ∧ rcount l 2 (keyOf it) = 1 := by
 rw [List.nodup_append] at h
 refine ⟨?_, by rw [rcount_psOf]; exact count_one h.2.1 it hit⟩
 rw [Bool.eq_false_iff, ne_eq, isBuiltin_mem]
 exact fun hb => h.2.2 _ hb _ (List.mem_map_of_mem hit) rfl
theorem at_mem {l : List It} {i : Nat} {it : It} (h : l[i]? = some it) : it ∈ l := List.mem_of_getElem? h
theorem pUses_is {l : List It} (hi : NoInt l) (hg : (dEnd l).good = true) {j : Nat} {it : It} : pUses (dEnd l).mt (dEnd l).mc (dEnd l).mp (uFin 0 (l.take j) ((xs0 l).map PX.pr)) it =
  (if it.kind = 1 then it.ctors.all fun c => tyOks l true it.vars c.args
  else if it.kind = 2 then tyOks l false [] it.types
  else if it.kind = 3 then (!isBuiltin (keyOf it) && !decide ((rcount l 2 (keyOf it) : Int) = 0)) && !((uFin 0 (l.take j) ((xs0 l).map PX.pr)).any fun p => decide (p.key = keyOf it) && p.modes.any fun m => decide (m.ways = it.ways))
  else if it.kind = 4 then (!isBuiltin (keyOf it) && !decide ((rcount l 2 (keyOf it) : Int) = 0)) && (tmOks l it.args && glOk l it.body)
  else true) := by
 have h := dEnd_inv l
 simp only [pUses, pOwn_is h, pTms_is h, pGl_is h, pTys_is h hg hi]
end Go.Aug

/- The program's names: its Resolve is the document's. -/
namespace Go.Aug
open Go.Proofs
set_option maxRecDepth 100000
set_option linter.unusedSimpArgs false
theorem modes_pos {l : List It} {q : Ky} : 0 < (modesOf l q).length ↔ rcount l 3 q ≠ 0 := by
 rw [modesOf, List.length_map, rcount, List.countP_eq_length_filter]; omega
theorem builtin_modes : (builtinsL.all fun p => decide (0 < p.modes.length)) = true := by decide
theorem pGood_well {l : List It} (hi : NoInt l) (h : pGood l = true) : wellFrom l 0 l = true := by
 simp only [pGood, Bool.and_eq_true] at h
 obtain ⟨⟨hg, hu⟩, hm⟩ := h
 have hd := dEnd_inv l
 obtain ⟨n1, n2, n3, n4⟩ := hd.good.1 hg
 rw [uAll_iff] at hu
 rw [uEnd_is, List.all_append, Bool.and_eq_true] at hm
 rw [wellFrom_iff]
 intro i it hit
 rw [Nat.zero_add]
 have hl := at_mem hit
 have u := hu i it hit
 rw [pUses_is hi hg] at u
 rw [rwell]
 by_cases k1 : it.kind = 1
 ·rw [if_pos k1] at u ⊢
  have ht := tys_mem.2 ⟨hl, k1⟩
  simp only [wellType, Bool.and_eq_true, decide_eq_true_eq]
  refine ⟨⟨by rw [tyOf_count, count_one n1 it ht]; rfl, noTwice_iff.2 ⟨n2 it ht, fun v _ h => by cases h⟩⟩, List.all_eq_true.2 fun c hc => ?_⟩
  simp only [ctWell, Bool.and_eq_true, decide_eq_true_eq]
  refine ⟨?_, List.all_eq_true.1 u c hc⟩
  have hcm := crs_mem ht hc
  obtain ⟨r, hr, e⟩ := List.mem_map.1 hcm
  have h1 := count_one n3 r hr
  rw [rctors_is, List.countP_map]
  have : (List.countP ((fun k => decide (k = (⟨c.name, (c.args.length : Int)⟩ : Ky))) ∘ Cr.key) (crsOf l)) = 1 := by
   rw [← h1]; refine List.countP_congr fun x _ => ?_
   have e' : (⟨c.name, (c.args.length : Int)⟩ : Ky) = r.key := e.symm
   rw [e']; rfl
  rw [this]; rfl
 ·rw [if_neg k1] at u ⊢
  by_cases k2 : it.kind = 2
  ·rw [if_pos k2] at u ⊢
   have hp := ps_mem.2 ⟨hl, k2⟩
   obtain ⟨b1, b2⟩ := preds_iff n4 hp
   have hmo : 0 < (modesOf l (keyOf it)).length := by
    have := List.all_eq_true.1 hm.2 (prOf l it) (List.mem_map_of_mem hp)
    exact of_decide_eq_true this
   rw [modes_pos] at hmo
   simp only [wellPred, Bool.and_eq_true, Bool.not_eq_true', decide_eq_true_eq, decide_eq_false_iff_not]
   exact ⟨⟨⟨b1, by omega⟩, by omega⟩, u⟩
  ·rw [if_neg k2] at u ⊢
   by_cases k3 : it.kind = 3
   ·rw [if_pos k3] at u ⊢
    rw [Bool.and_eq_true] at u
    rw [wellMode, Bool.and_eq_true]
    refine ⟨u.1, noOther_iff.2 fun j x hj => ?_⟩
    rw [Nat.zero_add, other_iff]
    rintro ⟨hne, x3, xk, xw⟩
    have dec : ∀ y : It, keyOf y = keyOf it → ¬ (rcount l 2 (keyOf it) : Int) = 0 → ∃ z ∈ psOf l, keyOf z = keyOf y := fun y hy hn => by
     have : 0 < (psOf l).countP fun x => decide (keyOf x = keyOf it) := by rw [← rcount_psOf]; omega
     obtain ⟨z, hz, e⟩ := List.countP_pos_iff.1 this
     exact ⟨z, hz, (of_decide_eq_true e).trans hy.symm⟩
    have hn : ¬ (rcount l 2 (keyOf it) : Int) = 0 := by
     have := u.1
     simp only [Bool.and_eq_true, Bool.not_eq_true', decide_eq_false_iff_not] at this
     exact this.2
    rcases Nat.lt_or_ge j i with hji | hji
    ·have t := twice_iff (l := l) (j := i) (it := it) |>.2 ⟨dec it rfl hn, x, List.mem_iff_getElem?.2 ⟨j, by rw [List.getElem?_take, if_pos hji]; exact hj⟩, x3, xk, xw⟩
     rw [t] at u; exact absurd u.2 (by decide)
    ·have hij : i < j := by omega
     have u2 := hu j x hj
     rw [pUses_is hi hg, if_neg (by omega), if_neg (by omega), if_pos x3, Bool.and_eq_true] at u2
     have t := twice_iff (l := l) (j := j) (it := x) |>.2 ⟨dec x xk hn, it, List.mem_iff_getElem?.2 ⟨i, by rw [List.getElem?_take, if_pos hij]; exact hit⟩, k3, xk.symm, xw.symm⟩
     rw [t] at u2; exact absurd u2.2 (by decide)
   ·rw [if_neg k3] at u ⊢
    by_cases k4 : it.kind = 4
    ·rw [if_pos k4] at u ⊢
     simp only [wellClause, Bool.and_eq_true] at u ⊢
     exact ⟨⟨u.1, u.2.2⟩, u.2.1⟩
    ·rw [if_neg k4]
theorem well_good {l : List It} (h : wellFrom l 0 l = true) : (dEnd l).good = true := by
 rw [wellFrom_iff] at h
 have w : ∀ it ∈ l, ∃ i, rwell l i it = true := fun it hit => by
  obtain ⟨i, hi⟩ := List.mem_iff_getElem?.1 hit
  exact ⟨_, h i it hi⟩
 have wt : ∀ it ∈ tysOf l, wellType l it = true := fun it hit => by
  obtain ⟨i, hi⟩ := w it (tys_mem.1 hit).1
  rw [rwell, if_pos (tys_mem.1 hit).2] at hi; exact hi
 have wp : ∀ it ∈ psOf l, isBuiltin (keyOf it) = false ∧ rcount l 2 (keyOf it) = 1 := fun it hit => by
  obtain ⟨i, hi⟩ := w it (ps_mem.1 hit).1
  have := wellPred_of hi (ps_mem.1 hit).2
  exact ⟨this.1, this.2.1⟩
 refine (dEnd_inv l).good.2 ⟨nodup_of It.name fun it hit => ?_, fun it hit => ?_, ?_, ?_⟩
 ·have := wt it hit
  simp only [wellType, Bool.and_eq_true, decide_eq_true_eq, tyOf_count] at this
  have := this.1.1
  omega
 ·have := wt it hit
  simp only [wellType, Bool.and_eq_true] at this
  exact (noTwice_iff.1 this.1.2).1
 ·refine nodup_of Cr.key fun r hr => ?_
  obtain ⟨it, hit, hr'⟩ := List.mem_flatMap.1 hr
  have hk : r.key ∈ it.ctors.map ctKey := by rw [← ctsFrom_keys it 0]; exact List.mem_map_of_mem hr'
  obtain ⟨c, hc, e⟩ := List.mem_map.1 hk
  have := wt it hit
  simp only [wellType, Bool.and_eq_true] at this
  have := List.all_eq_true.1 this.2 c hc
  simp only [ctWell, Bool.and_eq_true, decide_eq_true_eq] at this
  have h1 := this.1
  rw [rctors_is, List.countP_map] at h1
  have h2 : (crsOf l).countP (fun b => decide (b.key = r.key)) = (List.countP ((fun k => decide (k = (⟨c.name, (c.args.length : Int)⟩ : Ky))) ∘ Cr.key) (crsOf l)) := by
   refine List.countP_congr fun x _ => ?_
   have e' : (⟨c.name, (c.args.length : Int)⟩ : Ky) = r.key := e
   rw [e']; rfl
  omega
 ·rw [List.nodup_append]
  refine ⟨builtinKeys_nodup, nodup_of keyOf fun it hit => ?_, fun a ha b hb e => ?_⟩
  ·rw [← rcount_psOf, (wp it hit).2]; exact Nat.le_refl _
  ·obtain ⟨it, hit, rfl⟩ := List.mem_map.1 hb
   have := (wp it hit).1
   rw [← e] at this
   rw [isBuiltin_mem.2 ha] at this
   cases this
theorem well_pGood {l : List It} (hi : NoInt l) (h : wellFrom l 0 l = true) : pGood l = true := by
 have hg := well_good h
 rw [wellFrom_iff] at h
 simp only [pGood, Bool.and_eq_true]
 refine ⟨⟨hg, uAll_iff.2 fun i it hit => ?_⟩, ?_⟩
 ·have w := h i it hit
  rw [Nat.zero_add, rwell] at w
  rw [pUses_is hi hg]
  by_cases k1 : it.kind = 1
  ·rw [if_pos k1] at w ⊢
   simp only [wellType, Bool.and_eq_true] at w
   refine List.all_eq_true.2 fun c hc => ?_
   have := List.all_eq_true.1 w.2 c hc
   simp only [ctWell, Bool.and_eq_true] at this
   exact this.2
  ·rw [if_neg k1] at w ⊢
   by_cases k2 : it.kind = 2
   ·rw [if_pos k2] at w ⊢
    simp only [wellPred, Bool.and_eq_true] at w
    exact w.2
   ·rw [if_neg k2] at w ⊢
    by_cases k3 : it.kind = 3
    ·rw [if_pos k3] at w ⊢
     rw [wellMode, Bool.and_eq_true] at w
     rw [Bool.and_eq_true, Bool.not_eq_true', Bool.eq_false_iff, ne_eq, twice_iff]
     refine ⟨w.1, fun hh => ?_⟩
     obtain ⟨_, z, hz, z3, zk, zw⟩ := hh
     obtain ⟨j, hj⟩ := List.mem_iff_getElem?.1 hz
     rw [List.getElem?_take] at hj
     split at hj
     ·rename_i hji
      have := noOther_iff.1 w.2 j z hj
      rw [Nat.zero_add, other_iff] at this
      exact this ⟨by omega, z3, zk, zw⟩
     ·cases hj
    ·rw [if_neg k3] at w ⊢
     by_cases k4 : it.kind = 4
     ·rw [if_pos k4] at w ⊢
      simp only [wellClause, Bool.and_eq_true] at w ⊢
      exact ⟨w.1.1, w.2, w.1.2⟩
     ·rw [if_neg k4]
 ·rw [uEnd_is, List.all_append, builtin_modes, Bool.true_and, List.all_eq_true]
  intro p hp
  obtain ⟨it, hit, rfl⟩ := List.mem_map.1 hp
  obtain ⟨i, hi'⟩ := List.mem_iff_getElem?.1 (ps_mem.1 hit).1
  have := wellPred_of (h i it hi') (ps_mem.1 hit).2
  exact decide_eq_true (modes_pos.2 this.2.2.1)
/-- The program's Resolve answers as the document's. -/
theorem pResolve_is {l : List It} (hi : NoInt l) : pResolve l = rresolve l := by
 have e : pGood l = wellFrom l 0 l := by
  rw [Bool.eq_iff_iff]; exact ⟨pGood_well hi, well_pGood hi⟩
 have hd := dEnd_inv l
 rw [pResolve, rresolve_eq, e, uEnd_is, hd.types, hd.ctors]
end Go.Aug

/- The program's names: Resolve of what was read. -/
namespace Go.Aug
open Go.Proofs
set_option maxRecDepth 100000
set_option linter.unusedSimpArgs false
attribute [local irreducible] hid andK letA onSome onVar onArr arrOnly onInt onBool onFunc onTup idxA ldV ldD addO appTo fillL slA srcK nilQ retW gif sgd sguard svc sops sdops sagain aopO aLoad aStore aBin aUn aConv aLen aIndexAddr aIndex aIndexAddrS aIndexS aSlice aAppend aBuild aBuildSlice aMakeSlice aField aFieldOf aCallOp deepK deepL frzM putE newK newV growV ACall roundQ thenQ inBlockQ sret cnd szs nilC onMap onRow aLookup aMapUpdate aMakeMap
attribute [local go_sem] Int.natCast_zero
theorem rword_int (l : List Tok) (s : RdS) : (rword l 1 s).1 ≠ kInt := by
 have h0 : (⟨#[]⟩ : ByteArray) ≠ kInt := by decide
 unfold rword
 split
 ·split
  ·exact h0
  ·rename_i k _ h
   intro e
   refine h (.inr ⟨rfl, ?_⟩)
   show isReserved k.text = true
   have e : k.text = kInt := e
   rw [e]; decide
 ·exact h0
def NotInt (it : It) : Prop := it.kind = 1 → it.name ≠ kInt
theorem ritem_int (l : List Tok) (s : RdS) : NotInt (ritem l s).1 := by
 unfold ritem
 split
 ·intro _
  unfold ritType
  exact rword_int l _
 ·split
  ·intro h; exact absurd (show (2 : Int) = 1 from h) (by decide)
  ·split
   ·intro h; exact absurd (show (3 : Int) = 1 from h) (by decide)
   ·unfold ritClause
    simp only
    split
    ·intro h; exact absurd (show (4 : Int) = 1 from h) (by decide)
    ·intro h; exact absurd (show (4 : Int) = 1 from h) (by decide)
theorem ritems_int (l : List Tok) : ∀ (k : Nat) (is : List It) (s : RdS), (∀ it ∈ is, NotInt it) → ∀ it ∈ (ritems l k is s).1, NotInt it
 | 0, is, s, h => by rw [ritems]; exact h
 | k + 1, is, s, h => by
  rw [ritems]
  split
  ·exact h
  ·split
   ·exact h
   ·refine ritems_int l k _ _ fun it hit => ?_
    rcases List.mem_append.1 hit with hit | hit
    ·exact h it hit
    ·rw [List.mem_singleton.1 hit]; exact ritem_int l s
theorem rtext_noInt (s : ByteArray) : NoInt (rtext s).1 := by
 unfold rtext rsource
 intro it hit
 revert hit
 simp only
 split
 ·intro h; cases h
 ·exact fun hit => ritems_int _ _ _ _ (fun _ h => by cases h) it hit
/-- names.Resolve of what was read answers as the document. -/
theorem resolve_ok {eb : EbG} [On eb 0] (l : List It) (hl : Srcs l) (hi : NoInt l) (H : Heap) (K : A → Heap → Prop)
  (hK : K (.tup [.d (ixD (rresolve l)), .d (if (rresolve l).isSome = true then .raw .nilIface else .sent 0)]) H) :
  ACall Tryd.prog (seatV eb) 19 [.d (.slice (l.map It.d))] H K :=
 ACall.nz (f := fun _ => false) (resolve19_ok (eb := eb) l hl (places_is l) H K (by rw [pResolve_is hi]; exact hK))
end Go.Aug

/- The Names laws: their example. -/
namespace Go.Aug
open Nat renaming reduceBEq → zA, reduceLT → zB, reduceAdd → zC, reduceSub → zD, reduceMul → zE, reduceLeDiff → zF
open Int renaming reduceLE → zG
open Go.Proofs
set_option maxRecDepth 100000
set_option linter.unusedSimpArgs false
attribute [local irreducible] hid andK letA onSome onVar onArr arrOnly onInt onBool onFunc onTup idxA ldV ldD addO appTo fillL slA srcK nilQ retW gif sgd sguard svc sops sdops sagain aopO aLoad aStore aBin aUn aConv aLen aIndexAddr aIndex aIndexAddrS aIndexS aSlice aAppend aBuild aBuildSlice aMakeSlice aField aFieldOf aCallOp deepK deepL frzM putE newK newV growV ACall roundQ thenQ inBlockQ sret cnd szs nilC onMap onRow aLookup aMapUpdate aMakeMap
attribute [local go_sem] Int.natCast_zero
def nTxA : ByteArray := ⟨#[116, 121, 112, 101, 32, 116, 32, 61, 32, 97, 32, 124, 32, 97, 40, 105, 110, 116, 41, 46, 32, 112, 114, 101, 100, 32, 112, 46, 32, 109, 111, 100, 101, 32, 112, 32, 105, 115, 32, 100, 101, 116, 46, 32, 112, 32, 58, 45, 32, 113, 46]⟩
def nTxB : ByteArray := ⟨#[116, 121, 112, 101, 32, 116, 32, 61, 32, 97, 32, 124, 32, 97, 40, 105, 110, 116, 41, 46, 32, 112, 114, 101, 100, 32, 112, 46, 32, 109, 111, 100, 101, 32, 112, 32, 105, 115, 32, 100, 101, 116, 46, 32, 112, 46]⟩
theorem nTxA_is : (rresolve (rtext nTxA).1).isSome = false := by kernel_rfl
theorem nTxB_is : (match rresolve (rtext nTxB).1 with | some x => decide (x.ctors.length = 2) && decide (x.preds.length = 8) | none => false) = true := by kernel_rfl
theorem nTxB_ix : ∃ x, rresolve (rtext nTxB).1 = some x ∧ x.ctors.length = 2 ∧ x.preds.length = 8 := by
 have h := nTxB_is
 cases hx : rresolve (rtext nTxB).1 with
 | none => rw [hx] at h; cases h
 | some x =>
  rw [hx] at h
  simp only [Bool.and_eq_true, decide_eq_true_eq] at h
  exact ⟨x, rfl, h⟩
set_option maxHeartbeats 2000000 in
theorem alive17_ok {eb : EbG} [ho : On eb 0] (H : Heap) (K : A → Heap → Prop) (hK : K (.d (.bool true)) H) : ACall Tryd.prog (seatV eb) 17 [] H K := by
 have hA : rresolve (rtext nTxA).1 = none := by have := nTxA_is; simpa using this
 obtain ⟨x, hB, hB1, hB2⟩ := nTxB_ix
 have rA := fun H => resolve_ok (eb := eb) (rtext nTxA).1 (rtext_srcs _) (rtext_noInt _) H
 have rB := fun H => resolve_ok (eb := eb) (rtext nTxB).1 (rtext_srcs _) (rtext_noInt _) H
 rw [hA] at rA
 rw [hB] at rB
 have hG := seatV_on ho
 obtain ⟨xts, xcs, ps⟩ := x
 simp only at hB1 hB2
 refine ACall.hp_start ?_
 refine ACall.by mixed fn17 (by simp) ?_
 conv in s17 => cbv
 refine svc_start ?_
 simp -dsimp (maxDischargeDepth := 9) only [go_sem, zA, zB, zC, zD, zE, zF, zG, gS]
 refine read04_ok _ nTxA _ ?_
 generalize (rtext nTxA).1.map It.d = la at rA
 simp -dsimp (maxDischargeDepth := 9) only [go_sem, zA, zB, zC, zD, zE, zF, zG, gS]
 refine read04_ok _ nTxB _ ?_
 generalize (rtext nTxB).1.map It.d = lb at rB
 simp -dsimp (maxDischargeDepth := 9) only [go_sem, zA, zB, zC, zD, zE, zF, zG, gS]
 refine rA _ _ ?_
 simp -dsimp (maxDischargeDepth := 9) only [go_sem, zA, zB, zC, zD, zE, zF, zG, gS, ixD, Option.getD_none, Option.isSome_none, Bool.false_eq_true, if_false, Ix.d, Ix.cs]
 refine newK_hp (fun b5 f5 => ?_)
 simp only [off_cons, off_nil] at f5
 simp -dsimp (maxDischargeDepth := 9) only [go_sem, zA, zB, zC, zD, zE, zF, zG, gS, f5]
 refine rB _ _ ?_
 simp -dsimp (maxDischargeDepth := 9) only [go_sem, zA, zB, zC, zD, zE, zF, zG, gS, f5, ixD, Option.getD_some, Option.isSome_some, if_true, Ix.d, Ix.cs]
 refine newK_hp (fun b7 f7 => ?_)
 simp only [off_cons, off_nil] at f7
 simp -dsimp (maxDischargeDepth := 9) only [go_sem, zA, zB, zC, zD, zE, zF, zG, gS, f5, f7, hG]
 refine andK_split rfl ?_
 have e1 : decide ((xcs.length : Int) = 2) = true := by rw [hB1]; rfl
 have e2 : decide ((ps.length : Int) = 8) = true := by rw [hB2]; rfl
 simp -dsimp (maxDischargeDepth := 9) only [go_sem, zA, zB, zC, zD, zE, zF, zG, gS, f5, f7, e1, e2]
 exact retW_drop (G := H) (leH_hp0 (by simp only [hpS, eq_self, implies_true, f5, f7])) (retW_is hK)
end Go.Aug

/- The Names laws: an index and itself. -/
namespace Go.Aug
open Go.Proofs
set_option maxRecDepth 100000
set_option linter.unusedSimpArgs false
attribute [local irreducible] hid andK letA onSome onVar onArr arrOnly onInt onBool onFunc onTup idxA ldV ldD addO appTo fillL slA srcK nilQ retW gif sgd sguard svc sops sdops sagain aopO aLoad aStore aBin aUn aConv aLen aIndexAddr aIndex aIndexAddrS aIndexS aSlice aAppend aBuild aBuildSlice aMakeSlice aField aFieldOf aCallOp deepK deepL frzM putE newK newV growV ACall roundQ thenQ inBlockQ sret cnd szs nilC onMap onRow aLookup aMapUpdate aMakeMap
attribute [local go_sem] Int.natCast_zero
end Go.Aug

/- The Names laws: an index and itself; NamesResolve. -/
namespace Go.Aug
open Go.Proofs
set_option maxRecDepth 100000
set_option linter.unusedSimpArgs false
attribute [local irreducible] hid andK letA onSome onVar onArr arrOnly onInt onBool onFunc onTup idxA ldV ldD addO appTo fillL slA srcK nilQ retW gif sgd sguard svc sops sdops sagain aopO aLoad aStore aBin aUn aConv aLen aIndexAddr aIndex aIndexAddrS aIndexS aSlice aAppend aBuild aBuildSlice aMakeSlice aField aFieldOf aCallOp deepK deepL frzM putE newK newV growV ACall roundQ thenQ inBlockQ sret cnd szs nilC onMap onRow aLookup aMapUpdate aMakeMap
attribute [local go_sem] Int.natCast_zero
end Go.Aug

/- The Names laws: items turned round (plain). -/
namespace Go.Aug
open Go.Proofs
set_option maxRecDepth 100000
set_option linter.unusedSimpArgs false
section
variable {l m : List It} (h : l.Perm m)
include h
end
end Go.Aug

/- NamesBuilt, plain: the text that it makes, its tokens, its items, its index. -/
namespace Go.Aug
open Go.Proofs
set_option maxRecDepth 100000
set_option linter.unusedSimpArgs false
def NameW (l : List Tok) (it : It) : Prop := it.kind = 4 → it.name = ⟨#[]⟩ ∨ ∃ t ∈ l, t.kind = 1 ∧ isReserved t.text = false ∧ it.name = t.text
theorem rword_name (l : List Tok) (s : RdS) : (rword l 1 s).1 = ⟨#[]⟩ ∨ ∃ t ∈ l, t.kind = 1 ∧ isReserved t.text = false ∧ (rword l 1 s).1 = t.text := by
 unfold rword
 split
 ·rename_i t ht
  split
  ·exact .inl rfl
  ·rename_i hn
   have hm : t ∈ l := by
    split at ht
    ·cases ht
    ·exact List.mem_of_getElem? ht
   refine .inr ⟨t, hm, Classical.byContradiction fun h => hn (.inl h), ?_, rfl⟩
   rw [Bool.eq_false_iff]
   exact fun h => hn (.inr ⟨rfl, h⟩)
 ·exact .inl rfl
theorem ritem_nameW (l : List Tok) (s : RdS) : NameW l (ritem l s).1 := by
 unfold ritem
 split
 ·intro h; exact absurd (show (1 : Int) = 4 from h) (by decide)
 ·split
  ·intro h; exact absurd (show (2 : Int) = 4 from h) (by decide)
  ·split
   ·intro h; exact absurd (show (3 : Int) = 4 from h) (by decide)
   ·unfold ritClause
    intro _
    simp only
    split
    ·exact rword_name l s
    ·exact rword_name l s
theorem rtext_nameW (s : ByteArray) : ∀ it ∈ (rtext s).1, NameW (rlex s).1 it := by
 unfold rtext rsource
 simp only
 split
 ·intro _ h; cases h
 ·exact ritems_all (fun s => ritem_nameW _ s) _ _ _ (by simp)
theorem dot_no : (rtext ⟨#[46]⟩).2 ≠ 0 := by
 have : decide ((rtext ⟨#[46]⟩).2 = 0) = false := by kernel_rfl
 exact of_decide_eq_false this
theorem built_name {s : ByteArray} {it : It} (h : (rtext (s ++ ⟨#[46]⟩)).1 = [it]) (h0 : (rtext (s ++ ⟨#[46]⟩)).2 = 0) (hk : it.kind = 4) (hn : it.name = s) : IsName s ∧ isReserved s = false := by
 rcases rtext_nameW _ it (by rw [h]; exact .head _) hk with e | ⟨t, ht, k1, kr, e⟩
 ·rw [hn] at e
  subst e
  exact absurd h0 dot_no
 ·rw [hn] at e
  rw [e]
  exact ⟨rlex_name _ t ht k1, kr⟩
/-- A row while it is made; and the row. -/
def rowP (u : ByteArray) : Nat → ByteArray
 | 0 => ⟨#[]⟩
 | i + 1 => (rowP u i ++ (if i = 0 then ⟨#[40]⟩ else ⟨#[44, 32]⟩)) ++ u
def rowTx (u : ByteArray) (n : Nat) : ByteArray := if 0 < n then rowP u n ++ ⟨#[41]⟩ else rowP u n
def tailB (u : List UInt8) : Nat → List UInt8
 | 0 => [41]
 | n + 1 => 44 :: 32 :: (u ++ tailB u n)
def rowB (u : List UInt8) : Nat → List UInt8
 | 0 => []
 | n + 1 => 40 :: (u ++ tailB u n)
theorem ba_app (a b : ByteArray) : (a ++ b).data.toList = a.data.toList ++ b.data.toList := by
 rw [ByteArray.data_append, Array.toList_append]
theorem rowP_size (u : ByteArray) : ∀ n, (rowP u n).size ≤ (u.size + 2) * n
 | 0 => by show (0 : Nat) ≤ _; omega
 | n + 1 => by
  have := rowP_size u n
  have h1 : (⟨#[40]⟩ : ByteArray).size = 1 := rfl
  have h2 : (⟨#[44, 32]⟩ : ByteArray).size = 2 := rfl
  rw [rowP, ByteArray.size_append, ByteArray.size_append, Nat.mul_succ]
  split
  ·rw [h1]; omega
  ·rw [h2]; omega
theorem rowTx_size (u : ByteArray) (n : Nat) : (rowTx u n).size ≤ (u.size + 2) * n + 1 := by
 have := rowP_size u n
 have h1 : (⟨#[41]⟩ : ByteArray).size = 1 := rfl
 unfold rowTx
 split
 ·rw [ByteArray.size_append, h1]; omega
 ·omega
theorem rowP_tail (u : ByteArray) : ∀ (n k : Nat), (rowP u (n + 1)).data.toList ++ tailB u.data.toList k = (40 :: u.data.toList) ++ tailB u.data.toList (n + k)
 | 0, k => by
  simp only [rowP, ba_app, if_true, Nat.zero_add]
  simp
 | n + 1, k => by
  rw [rowP, ba_app, ba_app, if_neg (by omega)]
  have := rowP_tail u n (k + 1)
  rw [tailB] at this
  rw [show n + 1 + k = n + (k + 1) from by omega, ← this]
  simp
theorem rowTx_list (u : ByteArray) : ∀ n, (rowTx u n).data.toList = rowB u.data.toList n
 | 0 => rfl
 | n + 1 => by
  rw [rowTx, if_pos (by omega), ba_app]
  exact rowP_tail u n 0
theorem lex_tail {c : UInt8} {w : List UInt8} (hc : isLet c = true) (hw : ∀ x ∈ w, isWd x = true) (hn : w.length + 1 ≤ 32) {rest : List UInt8} {b : List Tok} (h : LexTo rest b) :
  ∀ n, LexTo (tailB (c :: w) n ++ rest) (rowTail ⟨if isSmall c = true then 1 else 2, ⟨⟨c :: w⟩⟩, 0⟩ n b)
 | 0 => LexTo.mark (c := 41) (by decide) (by decide) (by decide) (by decide) (by decide) (by decide) (by decide) h
 | n + 1 => by
  refine LexTo.mark (c := 44) (by decide) (by decide) (by decide) (by decide) (by decide) (by decide) (by decide) (LexTo.blank (c := 32) (by decide) ?_)
  change LexTo (((c :: w) ++ tailB (c :: w) n) ++ rest) _
  rw [List.append_assoc]
  refine LexTo.word hc hw hn (fun x hx => ?_) (lex_tail hc hw hn h n)
  cases n with
  | zero => cases hx; decide
  | succ n => cases hx; decide
theorem lex_row {c : UInt8} {w : List UInt8} (hc : isLet c = true) (hw : ∀ x ∈ w, isWd x = true) (hn : w.length + 1 ≤ 32) {rest : List UInt8} {b : List Tok} (h : LexTo rest b) :
  ∀ n, LexTo (rowB (c :: w) n ++ rest) (rowToks ⟨if isSmall c = true then 1 else 2, ⟨⟨c :: w⟩⟩, 0⟩ n b)
 | 0 => h
 | n + 1 => by
  refine LexTo.mark (c := 40) (by decide) (by decide) (by decide) (by decide) (by decide) (by decide) (by decide) ?_
  change LexTo (((c :: w) ++ tailB (c :: w) n) ++ rest) _
  rw [List.append_assoc]
  refine LexTo.word hc hw hn (fun x hx => ?_) (lex_tail hc hw hn h n)
  cases n with
  | zero => cases hx; decide
  | succ n => cases hx; decide
theorem row_head {u : List UInt8} {rest : List UInt8} (h : ∀ x, rest.head? = some x → isWd x = false) : ∀ n, ∀ x, (rowB u n ++ rest).head? = some x → isWd x = false
 | 0 => h
 | n + 1 => fun x hx => by cases hx; decide
theorem lex_name {t : ByteArray} (ht : IsName t) {rest : List UInt8} {b : List Tok} (hr : ∀ x, rest.head? = some x → isWd x = false) (h : LexTo rest b) : LexTo (t.data.toList ++ rest) (tokW 1 t :: b) := by
 obtain ⟨c, w, e, hs, hw, hn⟩ := ht
 have e' : t = ⟨⟨c :: w⟩⟩ := by apply ByteArray.ext; apply Array.ext'; exact e
 rw [e]
 have := LexTo.word (c := c) (w := w) (by simp [isLet, hs]) hw hn hr h
 rw [if_pos hs] at this
 rw [e']; exact this
theorem lex_const {c : UInt8} {w : List UInt8} (hc : isSmall c = true) (hw : w.all isWd = true) (hn : w.length + 1 ≤ 32) {x : UInt8} {rest : List UInt8} {b : List Tok} (hx : isWd x = false) (h : LexTo (x :: rest) b) : LexTo ((c :: w) ++ x :: rest) (tokW 1 ⟨⟨c :: w⟩⟩ :: b) := by
 have := LexTo.word (c := c) (w := w) (by simp [isLet, hc]) (fun y hy => List.all_eq_true.1 hw y hy) hn (fun y hy => by cases hy; exact hx) h
 rw [if_pos hc] at this
 exact this
def kUs : ByteArray := ⟨#[95]⟩
/-- The text. -/
def bTx (w : ByteArray) (n : Nat) : ByteArray :=
 ((((((((⟨#[112, 114, 101, 100, 32]⟩ ++ w) ++ rowTx kInt n) ++ ⟨#[46, 32, 109, 111, 100, 101, 32]⟩) ++ w) ++ rowTx kIn n) ++ ⟨#[32, 105, 115, 32, 100, 101, 116, 46, 32]⟩) ++ w) ++ rowTx kUs n) ++ ⟨#[46]⟩
/-- Its tokens. -/
def bTk (w : ByteArray) (n : Nat) : List Tok :=
 tokW 1 kPred :: tokW 1 w :: rowToks (tokW 1 kInt) n (tokDot :: tokW 1 kMode :: tokW 1 w :: rowToks (tokW 1 kIn) n (tokW 1 kIs :: tokW 1 kDet :: tokDot :: tokW 1 w :: rowToks (tokW 2 kUs) n [tokDot]))
theorem lex_dot {rest : List UInt8} {b : List Tok} (h : LexTo rest b) : LexTo (46 :: rest) (tokDot :: b) :=
 LexTo.mark (c := 46) (by decide) (by decide) (by decide) (by decide) (by decide) (by decide) (by decide) h
theorem bTx_lex {w : ByteArray} (hw : IsName w) (n : Nat) : LexTo (bTx w n).data.toList (bTk w n) := by
 have e : (bTx w n).data.toList = (112 :: [114, 101, 100]) ++ 32 :: (w.data.toList ++ (rowB kInt.data.toList n ++ 46 :: 32 :: ((109 :: [111, 100, 101]) ++ 32 :: (w.data.toList ++ (rowB kIn.data.toList n ++ 32 :: ((105 :: [115]) ++ 32 :: ((100 :: [101, 116]) ++ 46 :: 32 :: (w.data.toList ++ (rowB kUs.data.toList n ++ [46]))))))))) := by
  simp only [bTx, ba_app, rowTx_list]
  simp
 rw [e]
 have b32 : isBlank 32 = true := by decide
 have w32 : isWd 32 = false := by decide
 have w46 : isWd 46 = false := by decide
 refine lex_const (by decide) (by decide) (by decide) w32 (LexTo.blank b32 ?_)
 refine lex_name hw (row_head (fun x hx => by cases hx; exact w46) n) ?_
 refine lex_row (c := 105) (w := [110, 116]) (by decide) (by decide) (by decide) (lex_dot (LexTo.blank b32 ?_)) n
 refine lex_const (by decide) (by decide) (by decide) w32 (LexTo.blank b32 ?_)
 refine lex_name hw (row_head (fun x hx => by cases hx; exact w32) n) ?_
 refine lex_row (c := 105) (w := [110]) (by decide) (by decide) (by decide) (LexTo.blank b32 ?_) n
 refine lex_const (by decide) (by decide) (by decide) w32 (LexTo.blank b32 ?_)
 refine lex_const (by decide) (by decide) (by decide) w46 (lex_dot (LexTo.blank b32 ?_))
 refine lex_name hw (row_head (fun x hx => by cases hx; exact w46) n) ?_
 exact lex_row (c := 95) (w := []) (by decide) (by decide) (by decide) (lex_dot LexTo.nil) n
theorem name_size {w : ByteArray} (hw : IsName w) : w.size ≤ 32 := by
 obtain ⟨c, x, e, _, _, hn⟩ := hw
 have := congrArg List.length e
 simp only [Array.length_toList, List.length_cons] at this
 show w.data.size ≤ 32
 omega
theorem bTx_size {w : ByteArray} (hw : w.size ≤ 32) {n : Nat} (hn : n ≤ 8) : (bTx w n).size ≤ 400 := by
 have h1 := rowTx_size kInt n
 have h2 := rowTx_size kIn n
 have h3 := rowTx_size kUs n
 have e1 : kInt.size = 3 := rfl
 have e2 : kIn.size = 2 := rfl
 have e3 : kUs.size = 1 := rfl
 rw [e1] at h1
 rw [e2] at h2
 rw [e3] at h3
 have c1 : (⟨#[112, 114, 101, 100, 32]⟩ : ByteArray).size = 5 := rfl
 have c2 : (⟨#[46, 32, 109, 111, 100, 101, 32]⟩ : ByteArray).size = 7 := rfl
 have c3 : (⟨#[32, 105, 115, 32, 100, 101, 116, 46, 32]⟩ : ByteArray).size = 9 := rfl
 have c4 : (⟨#[46]⟩ : ByteArray).size = 1 := rfl
 simp only [bTx, ByteArray.size_append, c1, c2, c3, c4]
 omega
/-- Its items. -/
def bPr (w : ByteArray) (n : Nat) : It := { (default : It) with kind := 2, name := w, types := List.replicate n (.mk false kInt []) }
def bMd (w : ByteArray) (n : Nat) : It := { (default : It) with kind := 3, name := w, ways := List.replicate n true, det := 1 }
def bCl (w : ByteArray) (n : Nat) : It := { (default : It) with kind := 4, name := w, args := List.replicate n (.mk 1 kUs 0 []), body := .mk 1 .none .none ⟨#[]⟩ [] [] }
theorem bTk_items {w : ByteArray} (hw : isReserved w = false) {n : Nat} (hn : n ≤ 8) : Items (bTk w n) (bTk w n) [bPr w n, bMd w n, bCl w n] := by
 have h1 : ¬ Stands tokDot ⟨#[40]⟩ := open_no (by decide)
 have h2 : ¬ Stands (tokW 1 kIs) ⟨#[40]⟩ := open_no (by decide)
 have h3 : ¬ Stands tokDot kIf := fun h => absurd h.1 (by decide)
 refine .cons (by simp [bTk]) (Par.pred hw (Par.row (fun b => Par.tyInt _ b) h1 n hn)) ?_
 refine .cons (by simp) (Par.mode hw (Par.row (fun b => Par.wayIn _ b) h2 n hn)) ?_
 exact .cons (by simp) (Par.clause hw (Par.row (fun b => Par.tmVar _ b kUs) h1 n hn) h3) .nil
theorem rowTail_len (u : Tok) (b : List Tok) : ∀ n, b.length ≤ (rowTail u n b).length
 | 0 => by simp [rowTail]
 | n + 1 => by have := rowTail_len u b n; simp only [rowTail, List.length_cons]; omega
theorem rowToks_len (u : Tok) (b : List Tok) : ∀ n, b.length ≤ (rowToks u n b).length
 | 0 => Nat.le_refl _
 | n + 1 => by have := rowTail_len u b n; simp only [rowToks, List.length_cons]; omega
theorem bTx_text {w : ByteArray} (hw : IsName w) (hr : isReserved w = false) {n : Nat} (hn : n ≤ 8) : rtext (bTx w n) = ([bPr w n, bMd w n, bCl w n], 0) := by
 have hl := rlex_of (by have := bTx_size (name_size hw) hn; omega) (bTx_lex hw n)
 rw [rtext, hl]
 exact rsource_of (bTk_items hr hn) (by simp) (by
  have := rowToks_len (tokW 1 kInt) (tokDot :: tokW 1 kMode :: tokW 1 w :: rowToks (tokW 1 kIn) n (tokW 1 kIs :: tokW 1 kDet :: tokDot :: tokW 1 w :: rowToks (tokW 2 kUs) n [tokDot])) n
  simp only [bTk, List.length_cons, List.length_nil] at this ⊢; omega)
theorem keyB2 (w : ByteArray) (n : Nat) : keyOf (bPr w n) = ⟨w, n⟩ := by simp [keyOf, bPr]
theorem keyB3 (w : ByteArray) (n : Nat) : keyOf (bMd w n) = ⟨w, n⟩ := by simp [keyOf, bMd]
theorem keyB4 (w : ByteArray) (n : Nat) : keyOf (bCl w n) = ⟨w, n⟩ := by simp [keyOf, bCl]
theorem tyOks_int (l : List It) : ∀ n, tyOks l false [] (List.replicate n (.mk false kInt [])) = true
 | 0 => rfl
 | n + 1 => by
  rw [List.replicate_succ, tyOks, tyOks_int l n, tyOk, tyOks]
  simp
theorem tmOks_us (l : List It) : ∀ n, tmOks l (List.replicate n (.mk 1 kUs 0 [])) = true
 | 0 => rfl
 | n + 1 => by
  rw [List.replicate_succ, tmOks, tmOks_us l n, tmOk, tmOks]
  simp
theorem count3 (w : ByteArray) (n : Nat) (k : Int) : rcount [bPr w n, bMd w n, bCl w n] k ⟨w, n⟩ = (if (2 : Int) = k then 1 else 0) + (if (3 : Int) = k then 1 else 0) + (if (4 : Int) = k then 1 else 0) := by
 have e : ∀ q : Ky, Ky.eqb q q = true := fun q => (Ky.eqb_iff _ _).2 rfl
 have k2 : (bPr w n).kind = 2 := rfl
 have k3 : (bMd w n).kind = 3 := rfl
 have k4 : (bCl w n).kind = 4 := rfl
 simp only [rcount, List.countP_cons, List.countP_nil, isOf, keyB2, keyB3, keyB4, e, Bool.and_true, k2, k3, k4, decide_eq_true_eq]
 omega
theorem bTx_index {w : ByteArray} {n : Nat} : (isBuiltin ⟨w, n⟩ = true ∧ rresolve [bPr w n, bMd w n, bCl w n] = none) ∨ (isBuiltin ⟨w, n⟩ = false ∧ ∃ x, rresolve [bPr w n, bMd w n, bCl w n] = some x ∧ x.preds.length = 8) := by
 have k2 : (bPr w n).kind = 2 := rfl
 have k3 : (bMd w n).kind = 3 := rfl
 have k4 : (bCl w n).kind = 4 := rfl
 have c2 := count3 w n 2
 have c3 := count3 w n 3
 simp at c2 c3
 cases hb : isBuiltin ⟨w, n⟩ with
 | true =>
  refine .inl ⟨rfl, ?_⟩
  rw [rresolve_eq, if_neg]
  intro h
  rw [wellFrom_iff] at h
  have := h 0 _ rfl
  rw [rwell, if_neg (by rw [k2]; decide), if_pos k2, wellPred, keyB2, hb] at this
  cases this
 | false =>
  have hwf : wellFrom [bPr w n, bMd w n, bCl w n] 0 [bPr w n, bMd w n, bCl w n] = true := ?_
  ·exact .inr ⟨rfl, _, by rw [rresolve_eq, if_pos hwf], by simp [psOf, k2, k3, k4, builtinsL]⟩
  rw [wellFrom_iff]
  intro i it hi
  rw [Nat.zero_add]
  match i, hi with
  | 0, hi =>
   cases hi
   rw [rwell, if_neg (by rw [k2]; decide), if_pos k2, wellPred, keyB2, hb, c2, c3]
   exact tyOks_int _ n
  | 1, hi =>
   cases hi
   rw [rwell, if_neg (by rw [k3]; decide), if_neg (by rw [k3]; decide), if_pos k3, wellMode, keyB3, hb, c2]
   simp only [Bool.not_false, Bool.true_and, Bool.and_eq_true]
   refine ⟨by decide, noOther_iff.2 fun j x hj => ?_⟩
   rw [other_iff]
   rintro ⟨h1, h2, _⟩
   match j, hj with
   | 0, hj => cases hj; rw [k2] at h2; cases h2
   | 1, hj => omega
   | 2, hj => cases hj; rw [k4] at h2; cases h2
  | 2, hi =>
   cases hi
   rw [rwell, if_neg (by rw [k4]; decide), if_neg (by rw [k4]; decide), if_neg (by rw [k4]; decide), if_pos k4, wellClause, keyB4, hb, c2]
   have hbody : glOk [bPr w n, bMd w n, bCl w n] (bCl w n).body = true := by
    show glOk _ (.mk 1 .none .none ⟨#[]⟩ [] []) = true
    simp [glOk, glHead, tmOks, glOks]
   rw [hbody]
   exact tmOks_us _ n
end Go.Aug

/- NamesBuilt. -/
namespace Go.Aug
open Nat renaming reduceBEq → zA, reduceLT → zB, reduceAdd → zC, reduceSub → zD, reduceMul → zE, reduceLeDiff → zF
open Int renaming reduceLE → zG
open Go.Proofs
set_option maxRecDepth 100000
set_option linter.unusedSimpArgs false
attribute [local irreducible] hid andK letA onSome onVar onArr arrOnly onInt onBool onFunc onTup idxA ldV ldD addO appTo fillL slA srcK nilQ retW gif sgd sguard svc sops sdops sagain aopO aLoad aStore aBin aUn aConv aLen aIndexAddr aIndex aIndexAddrS aIndexS aSlice aAppend aBuild aBuildSlice aMakeSlice aField aFieldOf aCallOp deepK deepL frzM putE newK newV growV ACall roundQ thenQ inBlockQ sret cnd szs nilC onMap onRow aLookup aMapUpdate aMakeMap
attribute [local go_sem] Int.natCast_zero
theorem mod9 (a : Int) : ∃ n : Nat, n ≤ 8 ∧ (IntKind.i64.wrap (a.tmod 9 + 9)).tmod 9 = (n : Int) := by
 have h1 := Int.tmod_lt_of_pos a (show (0 : Int) < 9 by decide)
 have h2 : -9 < a.tmod 9 := by
  have := Int.tmod_lt_of_pos (-a) (show (0 : Int) < 9 by decide)
  rw [Int.neg_tmod] at this; omega
 rw [wrap64 (by omega) (by omega)]
 have h3 := Int.tmod_nonneg (b := 9) (show (0 : Int) ≤ a.tmod 9 + 9 by omega)
 have h4 := Int.tmod_lt_of_pos (a.tmod 9 + 9) (show (0 : Int) < 9 by decide)
 exact ⟨((a.tmod 9 + 9).tmod 9).toNat, by omega, by omega⟩
set_option maxHeartbeats 8000000 in
theorem namesBuilt_ok {eb : EbG} [ho : On eb 0] (s : ByteArray) (hs : s.size ≤ 281474976710656) (a : Int) (_ : -9223372036854775808 ≤ a ∧ a ≤ 9223372036854775807) (H : Heap) (K : A → Heap → Prop) (hK : K (.d (.bool true)) H) :
  ACall Tryd.prog (seatV eb) 5 [.d (.str s), .d (.int .i64 a)] H K := by
 have hG := seatV_on ho
 refine ACall.hp_start ?_
 refine ACall.by mixed fn5 (by simp) ?_
 conv in s5 => cbv
 refine svc_start ?_
 simp -dsimp (maxDischargeDepth := 9) only [go_sem, zA, zB, zC, zD, zE, zF, zG, gS]
 refine alive17_ok _ _ ?_
 simp -dsimp (maxDischargeDepth := 9) only [go_sem, zA, zB, zC, zD, zE, zF, zG, gS]
 refine andK_split (by decide) ?_
 simp -dsimp (maxDischargeDepth := 9) only [go_sem, zA, zB, zC, zD, zE, zF, zG, gS]
 refine andK_split (by decide) ?_
 simp -dsimp (maxDischargeDepth := 9) only [go_sem, zA, zB, zC, zD, zE, zF, zG, gS]
 obtain ⟨n, hn, hna⟩ := mod9 a
 rw [hna]
 have hd1 : (⟨#[46]⟩ : ByteArray).size = 1 := rfl
 refine andK_split (by show s.size + (⟨#[46]⟩ : ByteArray).size ≤ _; omega) ?_
 simp -dsimp (maxDischargeDepth := 9) only [go_sem, zA, zB, zC, zD, zE, zF, zG, gS]
 have hso := fun H => source_ok (eb := eb) H (s ++ ⟨#[46]⟩)
 have ert : rsource (rlex (s ++ ⟨#[46]⟩)).1 (rlex (s ++ ⟨#[46]⟩)).2 = rtext (s ++ ⟨#[46]⟩) := rfl
 rw [ert] at hso
 have hlen := rtext_len (s ++ ⟨#[46]⟩)
 have hnm := fun (it : It) (h : (rtext (s ++ ⟨#[46]⟩)).1 = [it]) => built_name (s := s) (it := it) h
 generalize rtext (s ++ ⟨#[46]⟩) = r at hso hlen hnm
 obtain ⟨l, e⟩ := r
 simp only at hso hlen hnm
 refine hso _ _ ?_
 simp -dsimp (maxDischargeDepth := 9) only [go_sem, zA, zB, zC, zD, zE, zF, zG, gS]
 cases he : decide (e = 0) with
 | false =>
  simp -dsimp (maxDischargeDepth := 9) only [go_sem, zA, zB, zC, zD, zE, zF, zG, gS, he]
  exact retW_is hK
 | true =>
  have he0 := of_decide_eq_true he
  simp -dsimp (maxDischargeDepth := 9) only [go_sem, zA, zB, zC, zD, zE, zF, zG, gS, he]
  cases hl1 : decide ((l.length : Int) = 1) with
  | false =>
   simp -dsimp (maxDischargeDepth := 9) only [go_sem, zA, zB, zC, zD, zE, zF, zG, gS, hl1]
   exact retW_is hK
  | true =>
   obtain ⟨it, rfl⟩ : ∃ it, l = [it] := by
    have := of_decide_eq_true hl1
    match l, this with
    | [it], _ => exact ⟨it, rfl⟩
    | [], h => simp at h
    | _ :: _ :: _, h => simp at h; omega
   clear hl1
   have hnm := hnm it rfl he0
   obtain ⟨x1, x2, x3, x4, x5, x6, x7, x8, x9, x10, x11, x12, hbody, hd⟩ := it.opn
   have hz : ∀ x : D, [x][Int.toNat 0]? = some x := fun _ => rfl
   simp -dsimp (maxDischargeDepth := 9) only [go_sem, zA, zB, zC, zD, zE, zF, zG, gS, List.length_cons, List.length_nil, List.getElem?_cons_zero, hd, hz]
   cases hk4 : decide (it.kind = 4) with
   | false =>
    simp -dsimp (maxDischargeDepth := 9) only [go_sem, zA, zB, zC, zD, zE, zF, zG, gS, hk4]
    exact retW_is hK
   | true =>
    simp -dsimp (maxDischargeDepth := 9) only [go_sem, zA, zB, zC, zD, zE, zF, zG, gS, hk4, hz]
    cases hns : decide (it.name = s) with
    | false =>
     simp -dsimp (maxDischargeDepth := 9) only [go_sem, zA, zB, zC, zD, zE, zF, zG, gS, hns]
     exact retW_is hK
    | true =>
     obtain ⟨hw, hrs⟩ := hnm (of_decide_eq_true hk4) (of_decide_eq_true hns)
     simp -dsimp (maxDischargeDepth := 9) only [go_sem, zA, zB, zC, zD, zE, zF, zG, gS, hns]
     have c1 : (⟨⟨[44, 32]⟩⟩ : ByteArray).size = 2 := rfl
     have c2 : (⟨⟨[40]⟩⟩ : ByteArray).size = 1 := rfl
     have z1 : (⟨⟨[105, 110, 116]⟩⟩ : ByteArray).size = 3 := rfl
     have z2 : (⟨⟨[105, 110]⟩⟩ : ByteArray).size = 2 := rfl
     have z3 : (⟨⟨[95]⟩⟩ : ByteArray).size = 1 := rfl
     have e1 : kInt.size = 3 := rfl
     have e2 : kIn.size = 2 := rfl
     have e3 : kUs.size = 1 := rfl
     refine svc_loop (X := Nat) (fun i => [(0, .d (.str s)), (1, .d (.int .i64 n)), (7, .d (.str (rowP kInt i))), (8, .d (.str (rowP kIn i))), (9, .d (.str (rowP kUs i))), (10, .d (.int .i64 i))])
      (fun i G => G = hp H [] ∧ i ≤ n) (fun i => n - i) 0 _ ⟨rfl, Nat.zero_le _⟩ (by simp -dsimp (maxDischargeDepth := 9) only [go_sem, zA, zB, zC, zD, zE, zF, zG, gS]; simp [rowP]) (fun _ _ h => h) ?_
     rintro i G ⟨hGG, hi⟩
     rw [hGG]
     simp -dsimp (maxDischargeDepth := 9) only [go_sem, zA, zB, zC, zD, zE, zF, zG, gS]
     have y1 := rowP_size kInt i
     have y2 := rowP_size kIn i
     have y3 := rowP_size kUs i
     rw [e1] at y1
     rw [e2] at y2
     rw [e3] at y3
     refine gif_split (fun q1 => ?_) (fun q1 => ?_)
     ·have q1' : i < n := by have := of_decide_eq_true q1; omega
      have hwi := wrapN (k := i) (by omega)
      simp -dsimp (maxDischargeDepth := 9) only [go_sem, zA, zB, zC, zD, zE, zF, zG, gS, q1]
      refine gif_split (fun q2 => ?_) (fun q2 => ?_)
      ·have q2' : i = 0 := by have := of_decide_eq_true q2; omega
       simp -dsimp (maxDischargeDepth := 9) only [go_sem, zA, zB, zC, zD, zE, zF, zG, gS, q2]
       refine andK_split (by simp only [ByteArray.size_append, c2, z1, z2, z3]; omega) ?_
       simp -dsimp (maxDischargeDepth := 9) only [go_sem, zA, zB, zC, zD, zE, zF, zG, gS]
       refine andK_split (by simp only [ByteArray.size_append, c2, z1, z2, z3]; omega) ?_
       simp -dsimp (maxDischargeDepth := 9) only [go_sem, zA, zB, zC, zD, zE, zF, zG, gS]
       refine andK_split (by simp only [ByteArray.size_append, c2, z1, z2, z3]; omega) ?_
       simp -dsimp (maxDischargeDepth := 9) only [go_sem, zA, zB, zC, zD, zE, zF, zG, gS]
       refine andK_split (by simp only [ByteArray.size_append, c2, z1, z2, z3]; omega) ?_
       simp -dsimp (maxDischargeDepth := 9) only [go_sem, zA, zB, zC, zD, zE, zF, zG, gS]
       refine andK_split (by simp only [ByteArray.size_append, c2, z1, z2, z3]; omega) ?_
       simp -dsimp (maxDischargeDepth := 9) only [go_sem, zA, zB, zC, zD, zE, zF, zG, gS]
       refine andK_split (by simp only [ByteArray.size_append, c2, z1, z2, z3]; omega) ?_
       simp -dsimp (maxDischargeDepth := 9) only [go_sem, zA, zB, zC, zD, zE, zF, zG, gS]
       simp -dsimp (maxDischargeDepth := 9) only [go_sem, zA, zB, zC, zD, zE, zF, zG, gS, hwi]
       exact roundQ_next (i + 1) _ ⟨rfl, q1'⟩ (by omega) (by simp -dsimp (maxDischargeDepth := 9) only [go_sem, zA, zB, zC, zD, zE, zF, zG, gS]; simp only [rowP, if_pos q2']; simp [kInt, kIn, kUs]) (fun _ _ h => h)
      ·have q2' : ¬ i = 0 := by have := of_decide_eq_false q2; omega
       simp -dsimp (maxDischargeDepth := 9) only [go_sem, zA, zB, zC, zD, zE, zF, zG, gS, q2]
       refine andK_split (by simp only [ByteArray.size_append, c1, z1, z2, z3]; omega) ?_
       simp -dsimp (maxDischargeDepth := 9) only [go_sem, zA, zB, zC, zD, zE, zF, zG, gS]
       refine andK_split (by simp only [ByteArray.size_append, c1, z1, z2, z3]; omega) ?_
       simp -dsimp (maxDischargeDepth := 9) only [go_sem, zA, zB, zC, zD, zE, zF, zG, gS]
       refine andK_split (by simp only [ByteArray.size_append, c1, z1, z2, z3]; omega) ?_
       simp -dsimp (maxDischargeDepth := 9) only [go_sem, zA, zB, zC, zD, zE, zF, zG, gS]
       refine andK_split (by simp only [ByteArray.size_append, c1, z1, z2, z3]; omega) ?_
       simp -dsimp (maxDischargeDepth := 9) only [go_sem, zA, zB, zC, zD, zE, zF, zG, gS]
       refine andK_split (by simp only [ByteArray.size_append, c1, z1, z2, z3]; omega) ?_
       simp -dsimp (maxDischargeDepth := 9) only [go_sem, zA, zB, zC, zD, zE, zF, zG, gS]
       refine andK_split (by simp only [ByteArray.size_append, c1, z1, z2, z3]; omega) ?_
       simp -dsimp (maxDischargeDepth := 9) only [go_sem, zA, zB, zC, zD, zE, zF, zG, gS]
       simp -dsimp (maxDischargeDepth := 9) only [go_sem, zA, zB, zC, zD, zE, zF, zG, gS, hwi]
       exact roundQ_next (i + 1) _ ⟨rfl, q1'⟩ (by omega) (by simp -dsimp (maxDischargeDepth := 9) only [go_sem, zA, zB, zC, zD, zE, zF, zG, gS]; simp only [rowP, if_neg q2']; simp [kInt, kIn, kUs]) (fun _ _ h => h)
     ·have q1' : i = n := by have := of_decide_eq_false q1; omega
      subst q1'
      simp -dsimp (maxDischargeDepth := 9) only [go_sem, zA, zB, zC, zD, zE, zF, zG, gS, q1]
      have d1 : (⟨⟨[112, 114, 101, 100, 32]⟩⟩ : ByteArray).size = 5 := rfl
      have d2 : (⟨⟨[46, 32, 109, 111, 100, 101, 32]⟩⟩ : ByteArray).size = 7 := rfl
      have d3 : (⟨⟨[32, 105, 115, 32, 100, 101, 116, 46, 32]⟩⟩ : ByteArray).size = 9 := rfl
      have d4 : (⟨⟨[46]⟩⟩ : ByteArray).size = 1 := rfl
      have d5 : (⟨⟨[41]⟩⟩ : ByteArray).size = 1 := rfl
      have w1 := rowTx_size kInt i
      have w2 := rowTx_size kIn i
      have w3 := rowTx_size kUs i
      rw [e1] at w1
      rw [e2] at w2
      rw [e3] at w3
      have hns32 := name_size hw
      have hbt := bTx_text hw hrs hn
      have hread := fun H => read04_ok (eb := eb) H (bTx s i)
      rw [hbt] at hread
      have hsr := rtext_srcs (bTx s i)
      rw [hbt] at hsr
      have hni := rtext_noInt (bTx s i)
      rw [hbt] at hni
      have hres := fun H => resolve_ok (eb := eb) [bPr s i, bMd s i, bCl s i] hsr hni H
      have hix := bTx_index (w := s) (n := i)
      have hbu := fun H => builtin_ok (eb := eb) H ⟨s, i⟩
      simp only [Ky.d, Ky.cs] at hbu
      generalize [bPr s i, bMd s i, bCl s i] = l3 at hread hres hix
      simp only at hread
      refine gif_split (fun q2 => ?_) (fun q2 => ?_)
      ·have q2' : 0 < i := by have := of_decide_eq_true q2; omega
       have r1 : rowP kInt i ++ ⟨⟨[41]⟩⟩ = rowTx kInt i := by rw [rowTx, if_pos q2']
       have r2 : rowP kIn i ++ ⟨⟨[41]⟩⟩ = rowTx kIn i := by rw [rowTx, if_pos q2']
       have r3 : rowP kUs i ++ ⟨⟨[41]⟩⟩ = rowTx kUs i := by rw [rowTx, if_pos q2']
       simp -dsimp (maxDischargeDepth := 9) only [go_sem, zA, zB, zC, zD, zE, zF, zG, gS, q2]
       refine andK_split (by simp only [ByteArray.size_append, d1, d2, d3, d4, d5]; omega) ?_
       simp -dsimp (maxDischargeDepth := 9) only [go_sem, zA, zB, zC, zD, zE, zF, zG, gS, r1, r2, r3]
       refine andK_split (by simp only [ByteArray.size_append, d1, d2, d3, d4, d5]; omega) ?_
       simp -dsimp (maxDischargeDepth := 9) only [go_sem, zA, zB, zC, zD, zE, zF, zG, gS, r1, r2, r3]
       refine andK_split (by simp only [ByteArray.size_append, d1, d2, d3, d4, d5]; omega) ?_
       simp -dsimp (maxDischargeDepth := 9) only [go_sem, zA, zB, zC, zD, zE, zF, zG, gS, r1, r2, r3]
       refine andK_split (by simp only [ByteArray.size_append, d1, d2, d3, d4, d5]; omega) ?_
       simp -dsimp (maxDischargeDepth := 9) only [go_sem, zA, zB, zC, zD, zE, zF, zG, gS, r1, r2, r3]
       refine andK_split (by simp only [ByteArray.size_append, d1, d2, d3, d4, d5]; omega) ?_
       simp -dsimp (maxDischargeDepth := 9) only [go_sem, zA, zB, zC, zD, zE, zF, zG, gS, r1, r2, r3]
       refine andK_split (by simp only [ByteArray.size_append, d1, d2, d3, d4, d5]; omega) ?_
       simp -dsimp (maxDischargeDepth := 9) only [go_sem, zA, zB, zC, zD, zE, zF, zG, gS, r1, r2, r3]
       refine andK_split (by simp only [ByteArray.size_append, d1, d2, d3, d4, d5]; omega) ?_
       simp -dsimp (maxDischargeDepth := 9) only [go_sem, zA, zB, zC, zD, zE, zF, zG, gS, r1, r2, r3]
       refine andK_split (by simp only [ByteArray.size_append, d1, d2, d3, d4, d5]; omega) ?_
       simp -dsimp (maxDischargeDepth := 9) only [go_sem, zA, zB, zC, zD, zE, zF, zG, gS, r1, r2, r3]
       refine andK_split (by simp only [ByteArray.size_append, d1, d2, d3, d4, d5]; omega) ?_
       simp -dsimp (maxDischargeDepth := 9) only [go_sem, zA, zB, zC, zD, zE, zF, zG, gS, r1, r2, r3]
       refine andK_split (by simp only [ByteArray.size_append, d1, d2, d3, d4, d5]; omega) ?_
       simp -dsimp (maxDischargeDepth := 9) only [go_sem, zA, zB, zC, zD, zE, zF, zG, gS, r1, r2, r3]
       refine andK_split (by simp only [ByteArray.size_append, d1, d2, d3, d4, d5]; omega) ?_
       simp -dsimp (maxDischargeDepth := 9) only [go_sem, zA, zB, zC, zD, zE, zF, zG, gS, r1, r2, r3]
       refine andK_split (by simp only [ByteArray.size_append, d1, d2, d3, d4, d5]; omega) ?_
       simp -dsimp (maxDischargeDepth := 9) only [go_sem, zA, zB, zC, zD, zE, zF, zG, gS, r1, r2, r3]
       refine hread _ _ ?_
       simp -dsimp (maxDischargeDepth := 9) only [go_sem, zA, zB, zC, zD, zE, zF, zG, gS]
       rcases hix with ⟨hb1, hb2⟩ | ⟨hb1, x, hb2, hb3⟩
       ·rw [hb2] at hres
        refine hres _ _ ?_
        simp -dsimp (maxDischargeDepth := 9) only [go_sem, zA, zB, zC, zD, zE, zF, zG, gS, ixD, Option.getD_none, Option.isSome_none, Bool.false_eq_true, if_false, Ix.d, Ix.cs, List.map_nil]
        refine newK_hp (fun b14 f14 => ?_)
        simp only [off_cons, off_nil] at f14
        simp -dsimp (maxDischargeDepth := 9) only [go_sem, zA, zB, zC, zD, zE, zF, zG, gS, f14]
        refine hbu _ _ ?_
        rw [hb1]
        simp -dsimp (maxDischargeDepth := 9) only [go_sem, zA, zB, zC, zD, zE, zF, zG, gS, f14, hG, decide_true, decide_false, beq_self_eq_true]
        exact retW_drop (G := H) (leH_hp0 (by simp only [hpS, eq_self, implies_true, f14])) (retW_is hK)
       ·rw [hb2] at hres
        obtain ⟨xts, xcs, xps⟩ := x
        simp only at hb3
        have h8 : decide ((xps.length : Int) = 8) = true := by rw [hb3]; rfl
        refine hres _ _ ?_
        simp -dsimp (maxDischargeDepth := 9) only [go_sem, zA, zB, zC, zD, zE, zF, zG, gS, ixD, Option.getD_some, Option.isSome_some, if_true, Ix.d, Ix.cs]
        refine newK_hp (fun b14 f14 => ?_)
        simp only [off_cons, off_nil] at f14
        simp -dsimp (maxDischargeDepth := 9) only [go_sem, zA, zB, zC, zD, zE, zF, zG, gS, f14]
        refine hbu _ _ ?_
        rw [hb1]
        simp -dsimp (maxDischargeDepth := 9) only [go_sem, zA, zB, zC, zD, zE, zF, zG, gS, f14]
        refine andK_split rfl ?_
        simp -dsimp (maxDischargeDepth := 9) only [go_sem, zA, zB, zC, zD, zE, zF, zG, gS, f14, h8, beq_self_eq_true, decide_true]
        exact retW_drop (G := H) (leH_hp0 (by simp only [hpS, eq_self, implies_true, f14])) (retW_is hK)
      ·have q2' : ¬ 0 < i := by have := of_decide_eq_false q2; omega
       have r1 : rowP kInt i = rowTx kInt i := by rw [rowTx, if_neg q2']
       have r2 : rowP kIn i = rowTx kIn i := by rw [rowTx, if_neg q2']
       have r3 : rowP kUs i = rowTx kUs i := by rw [rowTx, if_neg q2']
       simp -dsimp (maxDischargeDepth := 9) only [go_sem, zA, zB, zC, zD, zE, zF, zG, gS, q2, r1, r2, r3]
       refine andK_split (by simp only [ByteArray.size_append, d1, d2, d3, d4, d5]; omega) ?_
       simp -dsimp (maxDischargeDepth := 9) only [go_sem, zA, zB, zC, zD, zE, zF, zG, gS, r1, r2, r3]
       refine andK_split (by simp only [ByteArray.size_append, d1, d2, d3, d4, d5]; omega) ?_
       simp -dsimp (maxDischargeDepth := 9) only [go_sem, zA, zB, zC, zD, zE, zF, zG, gS, r1, r2, r3]
       refine andK_split (by simp only [ByteArray.size_append, d1, d2, d3, d4, d5]; omega) ?_
       simp -dsimp (maxDischargeDepth := 9) only [go_sem, zA, zB, zC, zD, zE, zF, zG, gS, r1, r2, r3]
       refine andK_split (by simp only [ByteArray.size_append, d1, d2, d3, d4, d5]; omega) ?_
       simp -dsimp (maxDischargeDepth := 9) only [go_sem, zA, zB, zC, zD, zE, zF, zG, gS, r1, r2, r3]
       refine andK_split (by simp only [ByteArray.size_append, d1, d2, d3, d4, d5]; omega) ?_
       simp -dsimp (maxDischargeDepth := 9) only [go_sem, zA, zB, zC, zD, zE, zF, zG, gS, r1, r2, r3]
       refine andK_split (by simp only [ByteArray.size_append, d1, d2, d3, d4, d5]; omega) ?_
       simp -dsimp (maxDischargeDepth := 9) only [go_sem, zA, zB, zC, zD, zE, zF, zG, gS, r1, r2, r3]
       refine andK_split (by simp only [ByteArray.size_append, d1, d2, d3, d4, d5]; omega) ?_
       simp -dsimp (maxDischargeDepth := 9) only [go_sem, zA, zB, zC, zD, zE, zF, zG, gS, r1, r2, r3]
       refine andK_split (by simp only [ByteArray.size_append, d1, d2, d3, d4, d5]; omega) ?_
       simp -dsimp (maxDischargeDepth := 9) only [go_sem, zA, zB, zC, zD, zE, zF, zG, gS, r1, r2, r3]
       refine andK_split (by simp only [ByteArray.size_append, d1, d2, d3, d4, d5]; omega) ?_
       simp -dsimp (maxDischargeDepth := 9) only [go_sem, zA, zB, zC, zD, zE, zF, zG, gS, r1, r2, r3]
       refine hread _ _ ?_
       simp -dsimp (maxDischargeDepth := 9) only [go_sem, zA, zB, zC, zD, zE, zF, zG, gS]
       rcases hix with ⟨hb1, hb2⟩ | ⟨hb1, x, hb2, hb3⟩
       ·rw [hb2] at hres
        refine hres _ _ ?_
        simp -dsimp (maxDischargeDepth := 9) only [go_sem, zA, zB, zC, zD, zE, zF, zG, gS, ixD, Option.getD_none, Option.isSome_none, Bool.false_eq_true, if_false, Ix.d, Ix.cs, List.map_nil]
        refine newK_hp (fun b14 f14 => ?_)
        simp only [off_cons, off_nil] at f14
        simp -dsimp (maxDischargeDepth := 9) only [go_sem, zA, zB, zC, zD, zE, zF, zG, gS, f14]
        refine hbu _ _ ?_
        rw [hb1]
        simp -dsimp (maxDischargeDepth := 9) only [go_sem, zA, zB, zC, zD, zE, zF, zG, gS, f14, hG, decide_true, decide_false, beq_self_eq_true]
        exact retW_drop (G := H) (leH_hp0 (by simp only [hpS, eq_self, implies_true, f14])) (retW_is hK)
       ·rw [hb2] at hres
        obtain ⟨xts, xcs, xps⟩ := x
        simp only at hb3
        have h8 : decide ((xps.length : Int) = 8) = true := by rw [hb3]; rfl
        refine hres _ _ ?_
        simp -dsimp (maxDischargeDepth := 9) only [go_sem, zA, zB, zC, zD, zE, zF, zG, gS, ixD, Option.getD_some, Option.isSome_some, if_true, Ix.d, Ix.cs]
        refine newK_hp (fun b14 f14 => ?_)
        simp only [off_cons, off_nil] at f14
        simp -dsimp (maxDischargeDepth := 9) only [go_sem, zA, zB, zC, zD, zE, zF, zG, gS, f14]
        refine hbu _ _ ?_
        rw [hb1]
        simp -dsimp (maxDischargeDepth := 9) only [go_sem, zA, zB, zC, zD, zE, zF, zG, gS, f14]
        refine andK_split rfl ?_
        simp -dsimp (maxDischargeDepth := 9) only [go_sem, zA, zB, zC, zD, zE, zF, zG, gS, f14, h8, beq_self_eq_true, decide_true]
        exact retW_drop (G := H) (leH_hp0 (by simp only [hpS, eq_self, implies_true, f14])) (retW_is hK)
end Go.Aug
