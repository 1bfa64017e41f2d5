/- The contracts of the reference's clauses: names, numbers, unifications, places; conditions stand in each contract. -/
import Derived.Test.YtejfagblpbmokaaDoorFlatThree
import Derived.Test.YtejfagblpbmokaaDoorAugSix
set_option linter.all false
set_option linter.unusedVariables false
set_option linter.unusedSimpArgs false
set_option linter.unusedSectionVars false

/- The reference's flat goals: names and numbers. -/
namespace Go.Aug
open Nat renaming reduceBEq → zA, reduceLT → zB, reduceAdd → zC, reduceSub → zD, reduceMul → zE, reduceLeDiff → zF
open Int renaming reduceLE → zG
open Go.Proofs
set_option maxRecDepth 100000
set_option linter.unusedSimpArgs false
attribute [local irreducible] hid andK letA onSome onVar onArr arrOnly onInt onBool onFunc onTup idxA ldV ldD addO appTo fillL slA srcK nilQ retW gif sgd sguard svc sops sdops sagain aopO aLoad aStore aBin aUn aConv aLen aIndexAddr aIndex aIndexAddrS aIndexS aSlice aAppend aBuild aBuildSlice aMakeSlice aField aFieldOf aCallOp deepK deepL frzM putE newK newV growV ACall roundQ thenQ inBlockQ sret cnd szs nilC onMap onRow aLookup aMapUpdate aMakeMap
attribute [local go_sem] Int.natCast_zero
abbrev pcS (l : List ByteArray) (a : A) : Pc := ⟨9, 1, l.map .str, a⟩
abbrev pcN (l : List Nat) (a : A) : Pc := ⟨3, 1, l.map (fun (v : Nat) => .int .i64 (v : Int)), a⟩
abbrev cvar (s : NS) (a1 a2 : A) : AObj := .var [.d (.int .i64 s.next), a1, a2]
abbrev cps (s : NS) (a1 a2 : A) : List Pc := [pcS (s.names.map (·.1)) a1, pcN (s.names.map (·.2)) a2]
/-- A clause's numbering stands at block r. -/
structure CAt (H0 : Heap) (r : Nat) (s : NS) (a1 a2 : A) (R : Heap) : Prop where
 acc : AccN H0 [r] (cps s a1 a2) R
 few : s.next < 1099511627775 ∧ s.names.length < 1099511627775
def numI : Option Nat → Int
 | some v => (v : Int)
 | none => -1
theorem fresh05_ok {eb : EbG} (H : Heap) (r : Nat) (n : Nat) (a1 a2 : A) (h : H r = some (.var [.d (.int .i64 n), a1, a2])) (hn : n < 1099511627775) (K : A → Heap → Prop) (hK : K (.d (.int .i64 n)) (upd H r (.var [.d (.int .i64 ((n + 1 : Nat) : Int)), a1, a2]))) :
  ACall Tryd.prog (seatV eb) 127 [.ref r 0] H K := by
 have hw := wrapN (k := n) (by omega)
 have hw2 : IntKind.i64.wrap (((n + 1 : Nat) : Int) - 1) = (n : Int) := by rw [wrap64 (by omega) (by omega)]; omega
 refine ACall.hp_in h ?_
 refine ACall.by mixed fn127 (by simp) ?_
 conv in s127 => cbv
 refine svc_start ?_
 simp -dsimp (maxDischargeDepth := 9) only [go_sem, zA, zB, zC, zD, zE, zF, zG, gS, hw, hw2]
 exact retW_is hK
set_option maxHeartbeats 2000000 in
theorem find05_ok {eb : EbG} {H0 R : Heap} {r : Nat} {s : NS} {a1 a2 : A} (h : CAt H0 r s a1 a2 R) (n : ByteArray) (K : A → Heap → Prop) (hK : K (.d (.int .i64 (numI (nfind s.names n)))) (hp R [(r, cvar s a1 a2)])) :
  ACall Tryd.prog (seatV eb) 124 [.ref r 0, .d (.str n)] (hp R [(r, cvar s a1 a2)]) K := by
 refine ACall.by mixed fn124 (by simp) ?_
 conv in s124 => cbv
 refine svc_start ?_
 obtain ⟨hacc, hf1, hf2⟩ := h
 rcases AccN.mid (pre := []) hacc with ⟨e1, e2⟩ | ⟨b1, v1, e1, e2, e3, e4, e5⟩
 ·simp only [List.map_eq_nil_iff] at e1
  simp only at e2
  subst e2
  rw [e1] at hK
  simp only [nfind, numI] at hK
  simp -dsimp (maxDischargeDepth := 9) only [go_sem, zA, zB, zC, zD, zE, zF, zG, gS]
  refine svc_loop (X := Unit) (fun _ => [(0, .ref r 0), (1, .d (.str n)), (10, .nils), (11, .d (.int .i64 0)), (12, .d (.int .i64 0))]) (fun _ G => G = hp R [(r, cvar s .nils a2)]) (fun _ => 0) () _ rfl (by simp -dsimp (maxDischargeDepth := 9) only [go_sem, zA, zB, zC, zD, zE, zF, zG, gS]) (fun _ _ h => h) ?_
  rintro _ G hG
  rw [hG]
  have q00 : decide ((0 : Int) < 0) = false := by decide
  simp -dsimp (maxDischargeDepth := 9) only [go_sem, zA, zB, zC, zD, zE, zF, zG, gS, q00]
  exact retW_is hK
 ·simp only at e1 e2 e3 e4 e5
  subst e1
  have hne1 : eqn b1 r = false := by simpa [memK, cnd] using e2
  have hne : eqn r b1 = false := eqn_ne (eqn_false hne1).symm
  simp -dsimp (maxDischargeDepth := 9) only [go_sem, zA, zB, zC, zD, zE, zF, zG, gS, hne, hne1, e5]
  refine svc_loop (X := Nat) (fun j => [(0, .ref r 0), (1, .d (.str n)), (10, .own b1 v1), (11, .d (.int .i64 s.names.length)), (12, .d (.int .i64 j))]) (fun j G => G = hp R [(r, cvar s (.own b1 v1) a2)] ∧ j ≤ s.names.length ∧ nfind s.names n = nfind (s.names.drop j) n) (fun j => s.names.length - j) 0 _ ⟨rfl, Nat.zero_le _, rfl⟩ (by simp -dsimp (maxDischargeDepth := 9) only [go_sem, zA, zB, zC, zD, zE, zF, zG, gS]) (fun _ _ h => h) ?_
  rintro j G ⟨hG, hj, hs⟩
  subst hG
  simp -dsimp (maxDischargeDepth := 9) only [go_sem, zA, zB, zC, zD, zE, zF, zG, gS]
  refine gif_split (fun q1 => ?_) (fun q1 => ?_)
  ·have q1' : j < s.names.length := by have := of_decide_eq_true q1; omega
   obtain ⟨⟨m, v⟩, hx⟩ := list_at q1'
   have hw := wrapN (k := j) (by omega)
   rw [drop_at hx] at hs
   simp only [nfind] at hs
   simp -dsimp (maxDischargeDepth := 9) only [go_sem, zA, zB, zC, zD, zE, zF, zG, gS, q1, q1', hne, hne1, e5, hx, Option.map_some]
   refine gif_split (fun q2 => ?_) (fun q2 => ?_)
   ·have e : n = m := by simpa using (of_decide_eq_true q2).symm
    rw [if_pos e] at hs
    rw [hs] at hK
    rcases AccN.mid (pre := [pcS (s.names.map (·.1)) (.own b1 v1)]) hacc with ⟨d1, d2⟩ | ⟨b2, v2, d1, d2, d3, d4, d5⟩
    ·simp only [List.map_eq_nil_iff] at d1
     rw [d1] at hx; simp at hx
    ·simp only at d1 d2 d3 d4 d5
     subst d1
     have hnf1 : eqn b2 r = false := by simpa [memK, cnd] using d2
     have hnf : eqn r b2 = false := eqn_ne (eqn_false hnf1).symm
     simp -dsimp (maxDischargeDepth := 9) only [go_sem, zA, zB, zC, zD, zE, zF, zG, gS, q2, hne, hne1, e5, hnf, hnf1, d5, hx, q1', Option.map_some]
     exact retW_is hK
   ·have e : ¬ n = m := by have := of_decide_eq_false q2; exact fun e => this e.symm
    rw [if_neg e] at hs
    simp -dsimp (maxDischargeDepth := 9) only [go_sem, zA, zB, zC, zD, zE, zF, zG, gS, q2, hw]
    refine roundQ_next (j + 1) _ ⟨rfl, q1', hs⟩ (by omega) (by simp -dsimp (maxDischargeDepth := 9) only [go_sem, zA, zB, zC, zD, zE, zF, zG, gS]) (fun _ _ h => h)
  ·rw [drop_end (by have := of_decide_eq_false q1; omega)] at hs
   simp only [nfind] at hs
   rw [hs] at hK
   simp -dsimp (maxDischargeDepth := 9) only [go_sem, zA, zB, zC, zD, zE, zF, zG, gS, q1]
   exact retW_is hK
theorem nput_new {n : ByteArray} {v : Nat} : ∀ {m : List (ByteArray × Nat)}, nfind m n = none → nput m n v = m ++ [(n, v)]
 | [], _ => rfl
 | (a, w) :: m, h => by
  simp only [nfind] at h
  split at h
  ·cases h
  ·rename_i e; simp only [nput, List.cons_append, if_neg e, nput_new h]
def ngive (s : NS) (n : ByteArray) (v : Nat) : NS := ⟨s.next, s.names ++ [(n, v)]⟩
theorem cps_give {s : NS} {n : ByteArray} {v : Nat} {a1 a2 : A} : cps (ngive s n v) a1 a2 = [⟨9, 1, s.names.map (fun p => D.str p.1) ++ [.str n], a1⟩, ⟨3, 1, (s.names.map (·.2)).map (fun (v : Nat) => .int .i64 (v : Int)) ++ [.int .i64 (v : Int)], a2⟩] := by
 simp [ngive, Function.comp_def]
set_option maxHeartbeats 2000000 in
theorem give05_ok {eb : EbG} {H0 R : Heap} {r : Nat} {s : NS} {a1 a2 : A} (hacc : AccN H0 [r] (cps s a1 a2) R) (hf2 : s.names.length < 1099511627775) (n : ByteArray) (v : Nat) (K : A → Heap → Prop)
  (hK : ∀ a1' a2' R', AccN H0 [r] (cps (ngive s n v) a1' a2') R' → K (.tup []) (hp R' [(r, cvar (ngive s n v) a1' a2')])) :
  ACall Tryd.prog (seatV eb) 125 [.ref r 0, .d (.str n), .d (.int .i64 v)] (hp R [(r, cvar s a1 a2)]) K := by
 refine ACall.by mixed fn125 (by simp) ?_
 conv in s125 => cbv
 refine svc_start ?_
 simp -dsimp (maxDischargeDepth := 9) only [go_sem, zA, zB, zC, zD, zE, zF, zG, gS]
 have hz : s.names.length + 1 ≤ 1099511627776 := by omega
 refine And.intro ?_ ?_
 ·refine newV_hp (fun b13 v13 f13 w13 => ?_)
  simp only [off_cons, off_nil] at f13
  have h13 := f13.2.2
  simp -dsimp (maxDischargeDepth := 9) only [go_sem, zA, zB, zC, zD, zE, zF, zG, gS, f13]
  refine And.intro ?_ ?_
  ·refine AccN.appTo (pre := []) (p := pcS (s.names.map (·.1)) a1) (post := [pcN (s.names.map (·.2)) a2]) (ns := [.str n]) hacc (by simp only [hpS, eq_self, implies_true, f13]) (by simp only [hpS, eq_self, implies_true, f13]) (by simp only [List.length_map, List.length_append, List.length_cons, List.length_nil]; omega) (fun a1' R1 hacc1 hn1 => ?_)
   have g13 := hn1 b13 (by simp only [hpS, eq_self, implies_true, f13]) h13
   simp -dsimp (maxDischargeDepth := 9) only [go_sem, zA, zB, zC, zD, zE, zF, zG, gS, f13, g13]
   refine newV_hp (fun b20 v20 f20 w20 => ?_)
   simp only [off_cons, off_nil] at f20
   simp -dsimp (maxDischargeDepth := 9) only [go_sem, zA, zB, zC, zD, zE, zF, zG, gS, f13, g13, f20]
   refine AccN.appTo (pre := [⟨9, 1, s.names.map (fun p => D.str p.1) ++ [.str n], a1'⟩]) (p := pcN (s.names.map (·.2)) a2) (post := []) (ns := [.int .i64 (v : Int)]) (by simpa [Function.comp_def] using hacc1) (by simp only [hpS, eq_self, implies_true, f13, g13, f20]) (by simp only [hpS, eq_self, implies_true, f13, g13, f20]) (by simp only [List.length_map, List.length_append, List.length_cons, List.length_nil]; omega) (fun a2' R3 hacc3 hn3 => ?_)
   have k13 := hn3 b13 (by simp only [hpS, eq_self, implies_true, f13]) g13
   have k20 := hn3 b20 (by simp only [hpS, eq_self, implies_true, f20]) f20.2.2.2.2
   have o1 := AccN.one (pre := []) hacc3
   have o2 := AccN.one (pre := [⟨9, 1, s.names.map (fun p => D.str p.1) ++ [.str n], a1'⟩]) hacc3
   simp only at o1 o2
   simp -dsimp (maxDischargeDepth := 9) only [go_sem, zA, zB, zC, zD, zE, zF, zG, gS, f13, g13, f20, k13, k20, o1, o2, List.length_cons, List.length_nil]
   refine retW_drop (G := hp R3 [(r, cvar (ngive s n v) a1' a2')]) (leH_hp (by simp only [hpS, eq_self, implies_true, f13, g13, f20, k13, k20, ngive]) (by simp only [hpS, eq_self, implies_true, f13, g13, f20, k13, k20, ngive])) (retW_is (hK a1' a2' R3 ?_))
   rw [cps_give]; exact hacc3
  ·refine newV_hp (fun b20 v20 f20 w20 => ?_)
   simp only [off_cons, off_nil] at f20
   have h20 := f20.2.2.2.2
   simp -dsimp (maxDischargeDepth := 9) only [go_sem, zA, zB, zC, zD, zE, zF, zG, gS, f13, f20]
   refine AccN.appTo (pre := []) (p := pcS (s.names.map (·.1)) a1) (post := [pcN (s.names.map (·.2)) a2]) (ns := [.str n]) hacc (by simp only [hpS, eq_self, implies_true, f13, f20]) (by simp only [hpS, eq_self, implies_true, f13, f20]) (by simp only [List.length_map, List.length_append, List.length_cons, List.length_nil]; omega) (fun a1' R1 hacc1 hn1 => ?_)
   have g13 := hn1 b13 (by simp only [hpS, eq_self, implies_true, f13]) h13
   have g20 := hn1 b20 (by simp only [hpS, eq_self, implies_true, f20]) h20
   simp -dsimp (maxDischargeDepth := 9) only [go_sem, zA, zB, zC, zD, zE, zF, zG, gS, f13, g13, f20, g20]
   refine AccN.appTo (pre := [⟨9, 1, s.names.map (fun p => D.str p.1) ++ [.str n], a1'⟩]) (p := pcN (s.names.map (·.2)) a2) (post := []) (ns := [.int .i64 (v : Int)]) (by simpa [Function.comp_def] using hacc1) (by simp only [hpS, eq_self, implies_true, f13, g13, f20, g20]) (by simp only [hpS, eq_self, implies_true, f13, g13, f20, g20]) (by simp only [List.length_map, List.length_append, List.length_cons, List.length_nil]; omega) (fun a2' R3 hacc3 hn3 => ?_)
   have k13 := hn3 b13 (by simp only [hpS, eq_self, implies_true, f13]) g13
   have k20 := hn3 b20 (by simp only [hpS, eq_self, implies_true, f20]) g20
   have o1 := AccN.one (pre := []) hacc3
   have o2 := AccN.one (pre := [⟨9, 1, s.names.map (fun p => D.str p.1) ++ [.str n], a1'⟩]) hacc3
   simp only at o1 o2
   simp -dsimp (maxDischargeDepth := 9) only [go_sem, zA, zB, zC, zD, zE, zF, zG, gS, f13, g13, f20, k13, k20, o1, o2, List.length_cons, List.length_nil]
   refine retW_drop (G := hp R3 [(r, cvar (ngive s n v) a1' a2')]) (leH_hp (by simp only [hpS, eq_self, implies_true, f13, g13, f20, k13, k20, ngive]) (by simp only [hpS, eq_self, implies_true, f13, g13, f20, k13, k20, ngive])) (retW_is (hK a1' a2' R3 ?_))
   rw [cps_give]; exact hacc3
 ·refine newV_hp (fun b20 v20 f20 w20 => ?_)
  simp only [off_cons, off_nil] at f20
  have h20 := f20.2.2
  simp -dsimp (maxDischargeDepth := 9) only [go_sem, zA, zB, zC, zD, zE, zF, zG, gS, f20]
  refine newV_hp (fun b13 v13 f13 w13 => ?_)
  simp only [off_cons, off_nil] at f13
  have h13 := f13.2.2.2.2
  simp -dsimp (maxDischargeDepth := 9) only [go_sem, zA, zB, zC, zD, zE, zF, zG, gS, f13, f20]
  refine AccN.appTo (pre := []) (p := pcS (s.names.map (·.1)) a1) (post := [pcN (s.names.map (·.2)) a2]) (ns := [.str n]) hacc (by simp only [hpS, eq_self, implies_true, f13, f20]) (by simp only [hpS, eq_self, implies_true, f13, f20]) (by simp only [List.length_map, List.length_append, List.length_cons, List.length_nil]; omega) (fun a1' R1 hacc1 hn1 => ?_)
  have g13 := hn1 b13 (by simp only [hpS, eq_self, implies_true, f13]) h13
  have g20 := hn1 b20 (by simp only [hpS, eq_self, implies_true, f20]) h20
  simp -dsimp (maxDischargeDepth := 9) only [go_sem, zA, zB, zC, zD, zE, zF, zG, gS, f13, g13, f20, g20]
  refine AccN.appTo (pre := [⟨9, 1, s.names.map (fun p => D.str p.1) ++ [.str n], a1'⟩]) (p := pcN (s.names.map (·.2)) a2) (post := []) (ns := [.int .i64 (v : Int)]) (by simpa [Function.comp_def] using hacc1) (by simp only [hpS, eq_self, implies_true, f13, g13, f20, g20]) (by simp only [hpS, eq_self, implies_true, f13, g13, f20, g20]) (by simp only [List.length_map, List.length_append, List.length_cons, List.length_nil]; omega) (fun a2' R3 hacc3 hn3 => ?_)
  have k13 := hn3 b13 (by simp only [hpS, eq_self, implies_true, f13]) g13
  have k20 := hn3 b20 (by simp only [hpS, eq_self, implies_true, f20]) g20
  have o1 := AccN.one (pre := []) hacc3
  have o2 := AccN.one (pre := [⟨9, 1, s.names.map (fun p => D.str p.1) ++ [.str n], a1'⟩]) hacc3
  simp only at o1 o2
  simp -dsimp (maxDischargeDepth := 9) only [go_sem, zA, zB, zC, zD, zE, zF, zG, gS, f13, g13, f20, g20, k13, k20, o1, o2, List.length_cons, List.length_nil]
  refine retW_drop (G := hp R3 [(r, cvar (ngive s n v) a1' a2')]) (leH_hp (by simp only [hpS, eq_self, implies_true, f13, g13, f20, g20, k13, k20, ngive]) (by simp only [hpS, eq_self, implies_true, f13, g13, f20, g20, k13, k20, ngive])) (retW_is (hK a1' a2' R3 ?_))
  rw [cps_give]; exact hacc3
end Go.Aug

/- The reference's flat goals: numbers. -/
namespace Go.Aug
open Nat renaming reduceBEq → zA, reduceLT → zB, reduceAdd → zC, reduceSub → zD, reduceMul → zE, reduceLeDiff → zF
open Int renaming reduceLE → zG
open Go.Proofs
set_option maxRecDepth 100000
set_option linter.unusedSimpArgs false
attribute [local irreducible] hid andK letA onSome onVar onArr arrOnly onInt onBool onFunc onTup idxA ldV ldD addO appTo fillL slA srcK nilQ retW gif sgd sguard svc sops sdops sagain aopO aLoad aStore aBin aUn aConv aLen aIndexAddr aIndex aIndexAddrS aIndexS aSlice aAppend aBuild aBuildSlice aMakeSlice aField aFieldOf aCallOp deepK deepL frzM putE newK newV growV ACall roundQ thenQ inBlockQ sret cnd szs nilC onMap onRow aLookup aMapUpdate aMakeMap
attribute [local go_sem] Int.natCast_zero
theorem nnumber_give {n : ByteArray} {s : NS} (h : n ≠ kUnder) (hf : nfind s.names n = none) : nnumber n s = (s.next, ngive ⟨s.next + 1, s.names⟩ n s.next) := by
 rw [nnumber, if_neg h, hf]; simp only [ngive, nput_new hf]
set_option maxHeartbeats 2000000 in
theorem number05_ok {eb : EbG} {H0 R : Heap} {r : Nat} {s : NS} {a1 a2 : A} (h : CAt H0 r s a1 a2 R) (n : ByteArray) (K : A → Heap → Prop)
  (hK : ∀ a1' a2' R', AccN H0 [r] (cps (nnumber n s).2 a1' a2') R' → K (.d (.int .i64 (nnumber n s).1)) (hp R' [(r, cvar (nnumber n s).2 a1' a2')])) :
  ACall Tryd.prog (seatV eb) 126 [.ref r 0, .d (.str n)] (hp R [(r, cvar s a1 a2)]) K := by
 refine ACall.by mixed fn126 (by simp) ?_
 conv in s126 => cbv
 refine svc_start ?_
 simp -dsimp (maxDischargeDepth := 9) only [go_sem, zA, zB, zC, zD, zE, zF, zG, gS]
 refine gif_split (fun g1 => ?_) (fun g1 => ?_)
 ·have e : n = kUnder := of_decide_eq_true g1
  rw [nnumber, if_pos e] at hK
  simp -dsimp (maxDischargeDepth := 9) only [go_sem, zA, zB, zC, zD, zE, zF, zG, gS, g1]
  refine fresh05_ok _ r s.next a1 a2 (by simp only [hpS, eq_self, implies_true, ]) h.few.1 _ ?_
  simp -dsimp (maxDischargeDepth := 9) only [go_sem, zA, zB, zC, zD, zE, zF, zG, gS]
  exact retW_is (hK a1 a2 R h.acc)
 ·have e : n ≠ kUnder := of_decide_eq_false g1
  simp -dsimp (maxDischargeDepth := 9) only [go_sem, zA, zB, zC, zD, zE, zF, zG, gS, g1]
  refine find05_ok h n _ ?_
  cases hf : nfind s.names n with
  | some v =>
   rw [nnumber, if_neg e, hf] at hK
   have q : decide ((v : Int) < 0) = false := by simp
   simp -dsimp (maxDischargeDepth := 9) only [go_sem, zA, zB, zC, zD, zE, zF, zG, gS, numI, q]
   exact retW_is (hK a1 a2 R h.acc)
  | none =>
   rw [nnumber_give e hf] at hK
   have q : decide ((-1 : Int) < 0) = true := by decide
   simp -dsimp (maxDischargeDepth := 9) only [go_sem, zA, zB, zC, zD, zE, zF, zG, gS, numI, q]
   refine fresh05_ok _ r s.next a1 a2 (by simp only [hpS, eq_self, implies_true, ]) h.few.1 _ ?_
   simp -dsimp (maxDischargeDepth := 9) only [go_sem, zA, zB, zC, zD, zE, zF, zG, gS]
   refine give05_ok (s := ⟨s.next + 1, s.names⟩) h.acc h.few.2 n s.next _ (fun a1' a2' R' hacc' => ?_)
   simp -dsimp (maxDischargeDepth := 9) only [go_sem, zA, zB, zC, zD, zE, zF, zG, gS]
   exact retW_is (hK a1' a2' R' hacc')
end Go.Aug

/- The reference's flat goals: the row of a number and a term. -/
namespace Go.Aug
open Nat renaming reduceBEq → zA, reduceLT → zB, reduceAdd → zC, reduceSub → zD, reduceMul → zE, reduceLeDiff → zF
open Int renaming reduceLE → zG
open Go.Proofs
set_option maxRecDepth 100000
set_option linter.unusedSimpArgs false
attribute [local irreducible] hid andK letA onSome onVar onArr arrOnly onInt onBool onFunc onTup idxA ldV ldD addO appTo fillL slA srcK nilQ retW gif sgd sguard svc sops sdops sagain aopO aLoad aStore aBin aUn aConv aLen aIndexAddr aIndex aIndexAddrS aIndexS aSlice aAppend aBuild aBuildSlice aMakeSlice aField aFieldOf aCallOp deepK deepL frzM putE newK newV growV ACall roundQ thenQ inBlockQ sret cnd szs nilC onMap onRow aLookup aMapUpdate aMakeMap
attribute [local go_sem] Int.natCast_zero
theorem nput_len {n : ByteArray} {v : Nat} (m : List (ByteArray × Nat)) : (nput m n v).length ≤ m.length + 1 := by
 induction m with
 | nil => simp [nput]
 | cons p m ih =>
  obtain ⟨a, w⟩ := p
  simp only [nput]
  split
  ·simp
  ·simp only [List.length_cons]; omega
theorem nnumber_names (n : ByteArray) (s : NS) : (nnumber n s).2.names.length ≤ s.names.length + 1 := by
 unfold nnumber nfresh
 split
 ·simp
 ·split
  ·simp
  ·exact nput_len _
theorem nargs_names : ∀ (ts : List Tm) (s : NS), (nargs ts s).2.names.length ≤ s.names.length + ts.length
 | [], s => by simp [nargs]
 | .mk k n _ _ :: ts, s => by
  simp only [nargs, List.length_cons]
  split
  ·have := nnumber_names n s; have := nargs_names ts (nnumber n s).2; omega
  ·have := nargs_names ts (nfresh s).2; simp only [nfresh] at this ⊢; omega
mutual
theorem nunify_names1 (x : Nat) : ∀ (t : Tm) (s : NS), (nunify x t s).2.names.length ≤ s.names.length + t.nodes ∧ (t.kind ≠ 1 → (nunify x t s).2.names.length + 1 ≤ s.names.length + t.nodes)
 | .mk k n i ts, s => by
  have hp := (Tm.mk k n i ts).nodes_pos
  simp only [nunify]
  split
  ·rename_i h1
   refine ⟨?_, fun h => absurd h1 h⟩
   split
   ·simp only; omega
   ·split
    ·simp only; omega
    ·have := nput_len (n := n) (v := x) s.names; simp only; omega
  ·split
   ·simp only; omega
   ·have h1 := nargs_names ts s
    have h2 := nunifys_names (nargs ts s).1 ts (nargs ts s).2
    simp only [Tm.nodes]; omega
theorem nunifys_names : ∀ (vs : List Nat) (ts : List Tm) (s : NS), (nunifys vs ts s).2.names.length + ts.length ≤ s.names.length + Tm.nodess ts
 | a :: vs, .mk k n i ts :: rest, s => by
  have hp := (Tm.mk k n i ts).nodes_pos
  simp only [nunifys, List.length_cons, Tm.nodess]
  split
  ·have := nunifys_names vs rest s; omega
  ·rename_i hk
   have h1 := (nunify_names1 a (.mk k n i ts) s).2 hk
   have h2 := nunifys_names vs rest (nunify a (.mk k n i ts) s).2
   simp only
   omega
 | [], ts, s => by have := Tm.nodess_length ts; simp only [nunifys]; omega
 | a :: vs, [], s => by simp [nunifys, Tm.nodess]
end
theorem nunify_names (x : Nat) (t : Tm) (s : NS) : (nunify x t s).2.names.length ≤ s.names.length + t.nodes := (nunify_names1 x t s).1
theorem Tm.nodess_mem {t : Tm} : ∀ {ts : List Tm}, t ∈ ts → t.nodes ≤ Tm.nodess ts
 | _ :: _, .head _ => by simp only [Tm.nodess]; omega
 | _ :: _, .tail _ h => by have := Tm.nodess_mem h; simp only [Tm.nodess]; omega
set_option maxHeartbeats 8000000 in
theorem unify05_ok {eb : EbG} : ∀ (m : Nat) (t : Tm), t.nodes ≤ m → t.small → ∀ (H0 R : Heap) (r : Nat) (s : NS) (a1 a2 : A) (_ : AccN H0 [r] (cps s a1 a2) R) (x : Nat) (_ : s.next + t.nodes ≤ 1099511627774) (_ : s.names.length + t.nodes ≤ 1099511627774) (K : A → Heap → Prop)
  (_ : ∀ a a1' a2' R', AccN H0 [r] (pcF (nunify x t s).1 a :: cps (nunify x t s).2 a1' a2') R' → K a (hp R' [(r, cvar (nunify x t s).2 a1' a2')])),
  ACall Tryd.prog (seatV eb) 74 [.ref r 0, .d (.int .i64 x), .d t.d] (hp R [(r, cvar s a1 a2)]) K
 | 0, t, hm, _, _, _, _, _, _, _, _, _, _, _, _, _ => by have := t.nodes_pos; omega
 | m + 1, .mk k nm i ts, hm, hs, H0, R, r, s, a1, a2, hacc, x, hlim, hlim2, K, hK => by
  simp only [Tm.small] at hs
  simp only [Tm.nodes] at hlim hlim2 hm
  refine ACall.by mixed fn74 (by simp) ?_
  conv in s74 => cbv
  refine svc_start ?_
  simp -dsimp (maxDischargeDepth := 9) only [go_sem, zA, zB, zC, zD, zE, zF, zG, gS, Tm.d, Tm.cs, Tm.ds_map]
  refine newK_hp (fun b5 f5 => ?_)
  simp only [off_cons, off_nil] at f5
  simp -dsimp (maxDischargeDepth := 9) only [go_sem, zA, zB, zC, zD, zE, zF, zG, gS, f5]
  refine newV_hp (fun b15 v15 f15 w15 => ?_)
  simp only [off_cons, off_nil] at f15
  simp -dsimp (maxDischargeDepth := 9) only [go_sem, zA, zB, zC, zD, zE, zF, zG, gS, f5, f15]
  refine gif_split (fun g2 => ?_) (fun g2 => ?_)
  ·have e2 : k = 2 := of_decide_eq_true g2
   have e1 : k ≠ 1 := by omega
   simp only [nunify, if_neg e1, if_pos e2] at hK
   simp -dsimp (maxDischargeDepth := 9) only [go_sem, zA, zB, zC, zD, zE, zF, zG, gS, g2, f5, f15]
   refine newV_hp (fun b24 v24 f24 w24 => ?_)
   simp only [off_cons, off_nil] at f24
   simp -dsimp (maxDischargeDepth := 9) only [go_sem, zA, zB, zC, zD, zE, zF, zG, gS, f5, f15, f24]
   refine growV_hp (b0 := b15) (by simp only [hpS, eq_self, implies_true, f5, f15, f24]) (by simp only [hpS, eq_self, implies_true, f5, f15, f24]) (fun b25 v25 f25 w25 => ?_)
   simp only [delL_cons, delL_nil, eqn_self, cnd_true, cnd_false, off_cons, off_nil, f5, f15, f24] at f25
   simp -dsimp (maxDischargeDepth := 9) only [go_sem, zA, zB, zC, zD, zE, zF, zG, gS, f5, f15, f24, f25]
   refine retW_drop (G := hp R [(r, cvar s a1 a2), (b25, .arr 39 10 v25 [(fInt x i).d])]) (leH_hp (by simp only [hpS, eq_self, implies_true, f5, f15, f24, f25, fInt_d]) (by simp only [hpS, eq_self, implies_true, f5, f15, f24, f25, fInt_d])) (retW_is ?_)
   exact row_new2 (sz := 10) (xs := [(fInt x i).d]) hacc (by simp only [hpS, eq_self, implies_true, f25]) w25 (fun a R' h => hK a a1 a2 R' h)
  ·have e2 : k ≠ 2 := of_decide_eq_false g2
   simp -dsimp (maxDischargeDepth := 9) only [go_sem, zA, zB, zC, zD, zE, zF, zG, gS, g2, f5, f15]
   refine gif_split (fun g1 => ?_) (fun g1 => ?_)
   ·have e1 : k = 1 := of_decide_eq_true g1
    simp only [nunify, if_pos e1] at hK
    simp -dsimp (maxDischargeDepth := 9) only [go_sem, zA, zB, zC, zD, zE, zF, zG, gS, g1, f5, f15]
    obtain ⟨H1, R2, e, hacc2, back⟩ := accN_sub (r := r) (qs := cps s a1 a2) (ps := []) (o := cvar s a1 a2) (l := [(b5, .var [.d (.int .i64 k), .d (.str nm), .d (.int .i64 i), .d (.slice (ts.map Tm.d))]), (b15, .arr 39 10 v15 [])]) (by simpa using hacc) (by simp only [hpS, eq_self, implies_true, f5, f15]) (by simp only [hpS, eq_self, implies_true, ]) (by simp only [hpS, eq_self, implies_true, f5, f15])
    rw [e]
    refine find05_ok ⟨hacc2, by omega, by omega⟩ nm _ ?_
    rw [← e]
    simp -dsimp (maxDischargeDepth := 9) only [go_sem, zA, zB, zC, zD, zE, zF, zG, gS, f5, f15]
    refine gif_split (fun g3 => ?_) (fun g3 => ?_)
    ·have e3 : nm = kUnder := of_decide_eq_true g3
     simp only [if_pos e3] at hK
     simp -dsimp (maxDischargeDepth := 9) only [go_sem, zA, zB, zC, zD, zE, zF, zG, gS, g3, f5, f15]
     refine retW_drop (G := hp R [(r, cvar s a1 a2), (b15, .arr 39 10 v15 [])]) (leH_hp (by simp only [hpS, eq_self, implies_true, f5, f15]) (by simp only [hpS, eq_self, implies_true, f5, f15])) (retW_is ?_)
     exact row_new2 (sz := 10) (xs := []) hacc (by simp only [hpS, eq_self, implies_true, f15]) w15 (fun a R' h => hK a a1 a2 R' h)
    ·have e3 : nm ≠ kUnder := of_decide_eq_false g3
     simp only [if_neg e3] at hK
     cases hf : nfind s.names nm with
     | some v =>
      have q : decide ((v : Int) < 0) = false := by simp
      simp only [hf] at hK
      simp -dsimp (maxDischargeDepth := 9) only [go_sem, zA, zB, zC, zD, zE, zF, zG, gS, g3, f5, f15, numI, q]
      refine newV_hp (fun b49 v49 f49 w49 => ?_)
      simp only [off_cons, off_nil] at f49
      simp -dsimp (maxDischargeDepth := 9) only [go_sem, zA, zB, zC, zD, zE, zF, zG, gS, f5, f15, f49]
      refine growV_hp (b0 := b15) (by simp only [hpS, eq_self, implies_true, f5, f15, f49]) (by simp only [hpS, eq_self, implies_true, f5, f15, f49]) (fun b50 v50 f50 w50 => ?_)
      simp only [delL_cons, delL_nil, eqn_self, cnd_true, cnd_false, off_cons, off_nil, f5, f15, f49] at f50
      simp -dsimp (maxDischargeDepth := 9) only [go_sem, zA, zB, zC, zD, zE, zF, zG, gS, f5, f15, f49, f50]
      refine retW_drop (G := hp R [(r, cvar s a1 a2), (b50, .arr 39 10 v50 [(fSame x v).d])]) (leH_hp (by simp only [hpS, eq_self, implies_true, f5, f15, f49, f50, fSame_d]) (by simp only [hpS, eq_self, implies_true, f5, f15, f49, f50, fSame_d])) (retW_is ?_)
      exact row_new2 (sz := 10) (xs := [(fSame x v).d]) hacc (by simp only [hpS, eq_self, implies_true, f50]) w50 (fun a R' h => hK a a1 a2 R' h)
     | none =>
      have q : decide ((-1 : Int) < 0) = true := by decide
      simp only [hf, nput_new hf] at hK
      simp -dsimp (maxDischargeDepth := 9) only [go_sem, zA, zB, zC, zD, zE, zF, zG, gS, g3, f5, f15, numI, q]
      rw [e]
      refine give05_ok hacc2 (by omega) nm x _ (fun a1' a2' R3 hacc3 => ?_)
      obtain ⟨R4, hacc4, e4, hn4⟩ := back _ _ hacc3
      rw [e4]
      have g5 := hn4 b5 (by simp only [hpS, eq_self, implies_true, f5]) f5.2.2
      have g15 := hn4 b15 (by simp only [hpS, eq_self, implies_true, f15]) f15.2.2.2.2
      simp -dsimp (maxDischargeDepth := 9) only [go_sem, zA, zB, zC, zD, zE, zF, zG, gS, f5, f15, g5, g15]
      refine retW_drop (G := hp R4 [(r, cvar (ngive s nm x) a1' a2'), (b15, .arr 39 10 v15 [])]) (leH_hp (by simp only [hpS, eq_self, implies_true, f5, f15, g5, g15]) (by simp only [hpS, eq_self, implies_true, f5, f15, g5, g15])) (retW_is ?_)
      exact row_new2 (sz := 10) (xs := []) hacc4 (by simp only [hpS, eq_self, implies_true, f15, g15]) w15 (fun a R' h => hK a a1' a2' R' h)
   ·have e1 : k ≠ 1 := of_decide_eq_false g1
    simp only [nunify, if_neg e1, if_neg e2] at hK
    simp -dsimp (maxDischargeDepth := 9) only [go_sem, zA, zB, zC, zD, zE, zF, zG, gS, g1, f5, f15]
    refine newK_hp (fun b9 f9 => ?_)
    simp only [off_cons, off_nil] at f9
    simp -dsimp (maxDischargeDepth := 9) only [go_sem, zA, zB, zC, zD, zE, zF, zG, gS, f5, f15, f9]
    have hnl := Tm.nodess_length ts
    have hR15 : upd R b15 (.arr 39 10 v15 []) b5 = none ∧ upd R b15 (.arr 39 10 v15 []) b9 = none := ⟨upd_eq_none.2 ⟨eqn_false f15.2.2.2.1, f5.2.2⟩, upd_eq_none.2 ⟨eqn_false f9.2.2.2.2.1, f9.2.2.2.2.2.2⟩⟩
    have hacc1 : AccN H0 [r] (cps s a1 a2 ++ [pcN [] .nils, pcF [] (.own b15 v15)]) (upd R b15 (.arr 39 10 v15 [])) :=
     AccN.rot (xs := [pcN [] .nils, pcF [] (.own b15 v15)]) ((hacc.new (E := 39) (sz := 10) (xs := []) (by simp only [hpS, eq_self, implies_true, f15]) f15.2.2.2.2 w15).nil _ _)
    refine svc_loop (X := Nat × List Nat × NS × A × A × A × Heap) (fun y => [(0, .ref r 0), (5, .ref b5 0), (7, .own b15 v15), (9, .ref b9 0), (60, .d (.slice (ts.map Tm.d))), (61, .d (.int .i64 ts.length)), (62, .d (.int .i64 y.1))])
     (fun y G => G = hp y.2.2.2.2.2.2 ((r, cvar y.2.2.1 y.2.2.2.1 y.2.2.2.2.1) :: [(b5, .var [.d (.int .i64 k), .d (.str nm), .d (.int .i64 i), .d (.slice (ts.map Tm.d))]), (b9, .var [.d (.int .i64 5), .d (.int .i64 x), .d (.int .i64 0), .d (.int .i64 0), .d (.str nm), .d (.int .i64 ts.length), .d (.str ⟨#[]⟩), .d (.int .i64 0), y.2.2.2.2.2.1, .nils])]) ∧ AccN H0 [r] (cps y.2.2.1 y.2.2.2.1 y.2.2.2.2.1 ++ [pcN y.2.1 y.2.2.2.2.2.1, pcF [] (.own b15 v15)]) y.2.2.2.2.2.2 ∧ (y.2.2.2.2.2.2 b5 = none ∧ y.2.2.2.2.2.2 b9 = none) ∧ y.2.1.length = y.1 ∧ y.1 ≤ ts.length ∧ (y.2.1 ++ (nargs (ts.drop y.1) y.2.2.1).1, (nargs (ts.drop y.1) y.2.2.1).2) = nargs ts s ∧ y.2.2.1.next ≤ s.next + y.1 ∧ y.2.2.1.names.length ≤ s.names.length + y.1)
     (fun y => ts.length - y.1) (0, [], s, a1, a2, .nils, upd R b15 (.arr 39 10 v15 [])) _ ⟨rfl, hacc1, hR15, rfl, Nat.zero_le _, by simp, Nat.le_refl _, Nat.le_refl _⟩ (by simp -dsimp (maxDischargeDepth := 9) only [go_sem, zA, zB, zC, zD, zE, zF, zG, gS]) (by rw [hp_base (by simp only [hpS, eq_self, implies_true, f15, f9])]; exact (leH_hp (by simp only [hpS, eq_self, implies_true, f5, f15, f9, setL_cons, setL_nil]) (by simp only [hpS, eq_self, implies_true, f5, f15, f9, setL_cons, setL_nil]))) ?_
    rintro ⟨j, vs, s1, c1, c2, av, R1⟩ G ⟨hG, hacc2, f52, hvl, hj, hrun, hnx, hnn⟩
    simp only at hG hacc2 f52 hvl hj hrun hnx hnn
    subst hG
    simp -dsimp (maxDischargeDepth := 9) only [go_sem, zA, zB, zC, zD, zE, zF, zG, gS]
    refine gif_split (fun q1 => ?_) (fun q1 => ?_)
    ·have q1' : j < ts.length := by have := of_decide_eq_true q1; omega
     obtain ⟨⟨tk, tn, ti, ta⟩, hx⟩ := list_at q1'
     have hwj := wrapN (k := j) (by omega)
     rw [drop_at hx] at hrun
     simp only [nargs] at hrun
     simp -dsimp (maxDischargeDepth := 9) only [go_sem, zA, zB, zC, zD, zE, zF, zG, gS, q1, hx, Tm.d, Tm.cs, f5, f9, f52]
     refine newK_hp (fun b11 f11 => ?_)
     simp only [off_cons, off_nil] at f11
     simp -dsimp (maxDischargeDepth := 9) only [go_sem, zA, zB, zC, zD, zE, zF, zG, gS, f5, f9, f52, f11]
     refine gif_split (fun q2 => ?_) (fun q2 => ?_)
     ·have e3 : tk = 1 := of_decide_eq_true q2
      simp only [if_pos e3] at hrun
      simp -dsimp (maxDischargeDepth := 9) only [go_sem, zA, zB, zC, zD, zE, zF, zG, gS, q2, f5, f9, f52, f11]
      obtain ⟨H1, R2, e, hacc3, back⟩ := accN_sub (r := r) (qs := cps s1 c1 c2) (ps := [pcN vs av, pcF [] (.own b15 v15)]) (o := cvar s1 c1 c2) (l := [(b5, .var [.d (.int .i64 k), .d (.str nm), .d (.int .i64 i), .d (.slice (ts.map Tm.d))]), (b9, .var [.d (.int .i64 5), .d (.int .i64 x), .d (.int .i64 0), .d (.int .i64 0), .d (.str nm), .d (.int .i64 ts.length), .d (.str ⟨#[]⟩), .d (.int .i64 0), av, .nils])] ++ [(b11, .var [.d (.int .i64 tk), .d (.str tn), .d (.int .i64 ti), .d (.slice (Tm.ds ta))])]) hacc2 (by simp only [hpS, eq_self, implies_true, f5, f9, f52, f11, List.cons_append, List.nil_append]) (by simp only [hpS, eq_self, implies_true, ]) (by simp only [hpS, eq_self, implies_true, f5, f9, f11, List.cons_append, List.nil_append])
      simp only [List.cons_append, List.nil_append] at e back
      rw [e]
      refine number05_ok ⟨hacc3, by omega, by omega⟩ tn _ (fun c1' c2' R3 hacc4 => ?_)
      have hnn2 := nnumber_names tn s1
      have hnx2 := nnumber_next tn s1
      generalize nnumber tn s1 = z at hrun hacc4 hnn2 hnx2 ⊢
      obtain ⟨v, s2⟩ := z
      simp only at hrun hacc4 hnn2 hnx2
      obtain ⟨R4, hacc5, e4, hn4⟩ := back _ _ hacc4
      rw [e4]
      have g5 := hn4 b5 (by simp only [hpS, eq_self, implies_true, f5]) f52.1
      have g9 := hn4 b9 (by simp only [hpS, eq_self, implies_true, f9]) f52.2
      have g11 := hn4 b11 (by simp only [hpS, eq_self, implies_true, f11]) f11.2.2.2.2.2.2
      simp -dsimp (maxDischargeDepth := 9) only [go_sem, zA, zB, zC, zD, zE, zF, zG, gS, f5, f9, f11, g5, g9, g11]
      refine newV_hp (fun b78 v78 f78 w78 => ?_)
      simp only [off_cons, off_nil] at f78
      simp -dsimp (maxDischargeDepth := 9) only [go_sem, zA, zB, zC, zD, zE, zF, zG, gS, f5, f9, f11, g5, g9, g11, f78]
      refine AccN.appTo (pre := cps s2 c1' c2') (p := pcN vs av) (post := [pcF [] (.own b15 v15)]) (ns := [.int .i64 (v : Int)]) hacc5 (by simp only [hpS, eq_self, implies_true, f5, f9, f11, g5, g9, g11, f78]) (by simp only [hpS, eq_self, implies_true, ]) (by simp only [List.length_map, List.length_cons, List.length_nil]; omega) (fun av' R6 hacc6 hn6 => ?_)
      have k5 := hn6 b5 (by simp only [hpS, eq_self, implies_true, f5]) g5
      have k9 := hn6 b9 (by simp only [hpS, eq_self, implies_true, f9]) g9
      have k11 := hn6 b11 (by simp only [hpS, eq_self, implies_true, f11]) g11
      have k78 := hn6 b78 (by simp only [hpS, eq_self, implies_true, f78]) f78.2.2.2.2.2.2.2.2
      have o1 := AccN.one (pre := cps s2 c1' c2') hacc6
      simp only at o1
      simp -dsimp (maxDischargeDepth := 9) only [go_sem, zA, zB, zC, zD, zE, zF, zG, gS, f5, f9, f11, f78, k5, k9, k11, k78, o1, List.length_cons, List.length_nil, hwj]
      have hacc7 : AccN H0 [r] (cps s2 c1' c2' ++ [pcN (vs ++ [v]) av', pcF [] (.own b15 v15)]) R6 := by
       have e : (vs ++ [v]).map (fun (v : Nat) => D.int .i64 (v : Int)) = vs.map (fun (v : Nat) => D.int .i64 (v : Int)) ++ [.int .i64 (v : Int)] := by simp
       simp only [pcN, e]; exact hacc6
      refine roundQ_next (j + 1, vs ++ [v], s2, c1', c2', av', R6) _ ⟨rfl, hacc7, ⟨k5, k9⟩, by simp [hvl], q1', by rw [← hrun]; simp, by simp only; omega, by simp only; omega⟩ (by simp only; omega) (by simp -dsimp (maxDischargeDepth := 9) only [go_sem, zA, zB, zC, zD, zE, zF, zG, gS]) (leH_hp (by simp only [hpS, eq_self, implies_true, f5, f9, f11, f78, k5, k9, k11, k78]) (by simp only [hpS, eq_self, implies_true, f5, f9, f11, f78, k5, k9, k11, k78]))
     ·have e3 : tk ≠ 1 := of_decide_eq_false q2
      simp only [if_neg e3] at hrun
      simp -dsimp (maxDischargeDepth := 9) only [go_sem, zA, zB, zC, zD, zE, zF, zG, gS, q2, f5, f9, f52, f11]
      refine fresh05_ok _ r s1.next c1 c2 (by simp only [hpS, eq_self, implies_true, ]) (by omega) _ ?_
      have g5 := f52.1
      have g9 := f52.2
      have g11 := f11.2.2.2.2.2.2
      have hacc5 : AccN H0 [r] (cps (nfresh s1).2 c1 c2 ++ [pcN vs av, pcF [] (.own b15 v15)]) R1 := hacc2
      simp -dsimp (maxDischargeDepth := 9) only [go_sem, zA, zB, zC, zD, zE, zF, zG, gS, f5, f9, f11, g5, g9, g11]
      refine newV_hp (fun b78 v78 f78 w78 => ?_)
      simp only [off_cons, off_nil] at f78
      simp -dsimp (maxDischargeDepth := 9) only [go_sem, zA, zB, zC, zD, zE, zF, zG, gS, f5, f9, f11, g5, g9, g11, f78]
      refine AccN.appTo (pre := cps (nfresh s1).2 c1 c2) (p := pcN vs av) (post := [pcF [] (.own b15 v15)]) (ns := [.int .i64 (s1.next : Int)]) hacc5 (by simp only [hpS, eq_self, implies_true, f5, f9, f11, g5, g9, g11, f78]) (by simp only [hpS, eq_self, implies_true, ]) (by simp only [List.length_map, List.length_cons, List.length_nil]; omega) (fun av' R6 hacc6 hn6 => ?_)
      have k5 := hn6 b5 (by simp only [hpS, eq_self, implies_true, f5]) g5
      have k9 := hn6 b9 (by simp only [hpS, eq_self, implies_true, f9]) g9
      have k11 := hn6 b11 (by simp only [hpS, eq_self, implies_true, f11]) g11
      have k78 := hn6 b78 (by simp only [hpS, eq_self, implies_true, f78]) f78.2.2.2.2.2.2.2.2
      have o1 := AccN.one (pre := cps (nfresh s1).2 c1 c2) hacc6
      simp only at o1
      simp -dsimp (maxDischargeDepth := 9) only [go_sem, zA, zB, zC, zD, zE, zF, zG, gS, f5, f9, f11, f78, k5, k9, k11, k78, o1, List.length_cons, List.length_nil, hwj]
      have hacc7 : AccN H0 [r] (cps (nfresh s1).2 c1 c2 ++ [pcN (vs ++ [s1.next]) av', pcF [] (.own b15 v15)]) R6 := by
       have e : (vs ++ [s1.next]).map (fun (v : Nat) => D.int .i64 (v : Int)) = vs.map (fun (v : Nat) => D.int .i64 (v : Int)) ++ [.int .i64 (s1.next : Int)] := by simp
       simp only [pcN, e]; exact hacc6
      refine roundQ_next (j + 1, vs ++ [s1.next], (nfresh s1).2, c1, c2, av', R6) _ ⟨rfl, hacc7, ⟨k5, k9⟩, by simp [hvl], q1', by rw [← hrun]; simp [nfresh], by simp only [nfresh]; omega, by simp only [nfresh]; omega⟩ (by simp only; omega) (by simp -dsimp (maxDischargeDepth := 9) only [go_sem, zA, zB, zC, zD, zE, zF, zG, gS]) (leH_hp (by simp only [hpS, eq_self, implies_true, f5, f9, f11, f78, k5, k9, k11, k78, nfresh]) (by simp only [hpS, eq_self, implies_true, f5, f9, f11, f78, k5, k9, k11, k78, nfresh]))
    ·have q1' : j = ts.length := by have := of_decide_eq_false q1; omega
     rw [q1', drop_end (Nat.le_refl _)] at hrun
     simp only [nargs, List.append_nil] at hrun
     rw [← hrun] at hK
     simp only at hK
     have hal := AccN.allD (pre := cps s1 c1 c2) (t := [.nils]) hacc2
     simp only at hal
     clear hacc1
     generalize A.own b15 v15 = a15 at hacc2 ⊢
     simp -dsimp (maxDischargeDepth := 9) only [go_sem, zA, zB, zC, zD, zE, zF, zG, gS, q1, f5, f9, f52, hal]
     refine AccN.deepF (pre := cps s1 c1 c2) (p := pcN vs av) (post := [pcF [] a15]) hacc2 (by simp only [hpS, eq_self, implies_true, f5, f9, f52]) (fun H2 R2 hle2 hacc3 hav hn3 => ?_)
     have g5 := hn3 b5 (by simp only [hpS, eq_self, implies_true, f5]) f52.1
     have g9 := hn3 b9 (by simp only [hpS, eq_self, implies_true, f9]) f52.2
     simp -dsimp (maxDischargeDepth := 9) only [go_sem, zA, zB, zC, zD, zE, zF, zG, gS, f5, f9, g5, g9]
     refine newV_hp (fun b84 v84 f84 w84 => ?_)
     simp only [off_cons, off_nil] at f84
     simp -dsimp (maxDischargeDepth := 9) only [go_sem, zA, zB, zC, zD, zE, zF, zG, gS, f5, f9, g5, g9, f84]
     have hfc := fCtor_d (x : Int) ⟨nm, (ts.length : Int)⟩ vs
     simp only at hfc
     rw [← hfc]
     refine AccN.appTo (pre := cps s1 c1 c2) (p := pcF [] a15) (post := []) (ns := [(fCtor x ⟨nm, ts.length⟩ vs).d]) hacc3 (by simp only [hpS, eq_self, implies_true, f5, f9, g5, g9, f84]) (by simp only [hpS, eq_self, implies_true, ]) (by simp only [List.length_map, List.length_cons, List.length_nil]; omega) (fun a16 R3 hacc4 hn4 => ?_)
     have k5 := hn4 b5 (by simp only [hpS, eq_self, implies_true, f5]) g5
     have k9 := hn4 b9 (by simp only [hpS, eq_self, implies_true, f9]) g9
     have k84 := hn4 b84 (by simp only [hpS, eq_self, implies_true, f84]) f84.2.2.2.2.2.2
     simp -dsimp (maxDischargeDepth := 9) only [go_sem, zA, zB, zC, zD, zE, zF, zG, gS, f5, f9, f84, k5, k9, k84]
     refine svc_loop (X := Nat × List Fl × NS × A × A × A × Heap) (fun y => [(0, .ref r 0), (7, y.2.2.2.2.2.1), (9, .ref b9 0), (87, .d (.slice (ts.map Tm.d))), (88, .d (.int .i64 ts.length)), (89, .d (.int .i64 y.1))])
      (fun y G => G = hp y.2.2.2.2.2.2 [(r, cvar y.2.2.1 y.2.2.2.1 y.2.2.2.2.1), (b9, .var [.d (.int .i64 5), .d (.int .i64 x), .d (.int .i64 0), .d (.int .i64 0), .d (.str nm), .d (.int .i64 ts.length), .d (.str ⟨#[]⟩), .d (.int .i64 0), av, .nils])] ∧ AccN H2 [r] (cps y.2.2.1 y.2.2.2.1 y.2.2.2.2.1 ++ [pcF y.2.1 y.2.2.2.2.2.1]) y.2.2.2.2.2.2 ∧ y.2.2.2.2.2.2 b9 = none ∧ y.1 ≤ ts.length ∧ (y.2.1 ++ (nunifys (vs.drop y.1) (ts.drop y.1) y.2.2.1).1, (nunifys (vs.drop y.1) (ts.drop y.1) y.2.2.1).2) = (fCtor x ⟨nm, ts.length⟩ vs :: (nunifys vs ts s1).1, (nunifys vs ts s1).2) ∧ y.2.2.1.next + Tm.nodess (ts.drop y.1) + y.1 ≤ s.next + Tm.nodess ts + ts.length ∧ y.2.2.1.names.length + Tm.nodess (ts.drop y.1) + y.1 ≤ s.names.length + Tm.nodess ts + ts.length ∧ y.2.1.length + Tm.nodess (ts.drop y.1) ≤ 1 + Tm.nodess ts)
      (fun y => ts.length - y.1) (0, [fCtor x ⟨nm, ts.length⟩ vs], s1, c1, c2, a16, R3) _ ⟨rfl, hacc4, k9, Nat.zero_le _, by simp, by simp only [List.drop_zero]; omega, by simp only [List.drop_zero]; omega, by simp only [List.drop_zero, List.length_cons, List.length_nil]; omega⟩ (by simp -dsimp (maxDischargeDepth := 9) only [go_sem, zA, zB, zC, zD, zE, zF, zG, gS]) (leH_hp (by simp only [hpS, eq_self, implies_true, f5, f9, f84, k5, k9, k84]) (by simp only [hpS, eq_self, implies_true, f5, f9, f84, k5, k9, k84])) ?_
     rintro ⟨i2, out, s2, d1, d2, a, R4⟩ G ⟨hG, hacc5, h9, hi2, hrun2, hnx2, hnn2, hout⟩
     simp only at hG hacc5 h9 hi2 hrun2 hnx2 hnn2 hout
     subst hG
     simp -dsimp (maxDischargeDepth := 9) only [go_sem, zA, zB, zC, zD, zE, zF, zG, gS]
     refine gif_split (fun q3 => ?_) (fun q3 => ?_)
     ·have q3' : i2 < ts.length := by have := of_decide_eq_true q3; omega
      obtain ⟨⟨tk, tn, ti, ta⟩, hx⟩ := list_at q3'
      obtain ⟨v, hv⟩ := list_at (show i2 < vs.length by omega)
      have hwj := wrapN (k := i2) (by omega)
      rw [drop_at hx, drop_at hv] at hrun2
      rw [drop_at hx] at hnx2 hnn2 hout
      simp only [nunifys, Tm.nodess] at hrun2 hnx2 hnn2 hout
      have hle1 := Tm.nodess_length (ts.drop (i2 + 1))
      rw [List.length_drop] at hle1
      simp -dsimp (maxDischargeDepth := 9) only [go_sem, zA, zB, zC, zD, zE, zF, zG, gS, q3, hx, Tm.d, Tm.cs]
      refine newK_hp (fun b14 f14 => ?_)
      simp only [off_cons, off_nil] at f14
      simp -dsimp (maxDischargeDepth := 9) only [go_sem, zA, zB, zC, zD, zE, zF, zG, gS, f9, h9, f14]
      refine gif_split (fun q4 => ?_) (fun q4 => ?_)
      ·have e4 : tk ≠ 1 := by simpa using q4
       simp only [if_neg e4] at hrun2
       rcases hav with ⟨e5, _⟩ | ⟨bv, vv, rfl, hbv, hbi⟩
       ·simp only [List.map_eq_nil_iff] at e5
        rw [e5] at hv; simp at hv
       ·have hRv := hacc5.le bv _ hbv
        simp only at hRv
        have n1 := inK_off hbi
        have n2 := eqn_some hRv f14.2.2.2.2
        simp only [offB_cons, offB_nil] at n1
        simp -dsimp (maxDischargeDepth := 9) only [go_sem, zA, zB, zC, zD, zE, zF, zG, gS, q4, f9, h9, f14, n1, n2, hRv, hv]
        obtain ⟨H3, R5, e, hacc6, back⟩ := accN_sub (r := r) (qs := cps s2 d1 d2) (ps := [pcF out a]) (o := cvar s2 d1 d2) (l := [(b9, .var [.d (.int .i64 5), .d (.int .i64 x), .d (.int .i64 0), .d (.int .i64 0), .d (.str nm), .d (.int .i64 ts.length), .d (.str ⟨#[]⟩), .d (.int .i64 0), .own bv vv, .nils]), (b14, .var [.d (.int .i64 tk), .d (.str tn), .d (.int .i64 ti), .d (.slice (Tm.ds ta))])]) hacc5 (by simp only [hpS, eq_self, implies_true, f9, h9, f14]) (by simp only [hpS, eq_self, implies_true, ]) (by simp only [hpS, eq_self, implies_true, f9, f14])
        rw [e]
        have hsz := nunify_size v (.mk tk tn ti ta) s2
        have hsn := (nunify_names1 v (.mk tk tn ti ta) s2).2 e4
        refine unify05_ok m (.mk tk tn ti ta) (by have := Tm.nodess_mem (List.mem_of_getElem? hx); omega) (Tm.smalls_mem hs.2 _ (List.mem_of_getElem? hx)) H3 R5 r s2 d1 d2 hacc6 v (by omega) (by omega) _ (fun ar d1' d2' R6 hacc7 => ?_)
        generalize hu : nunify v (.mk tk tn ti ta) s2 = u at hrun2 hsz hsn hacc7 ⊢
        obtain ⟨rows, s3⟩ := u
        simp only at hrun2 hsz hsn hacc7
        obtain ⟨R7, hacc8, e7, hn7⟩ := back _ _ hacc7
        rw [e7]
        have g9 := hn7 b9 (by simp only [hpS, eq_self, implies_true, f9]) h9
        have g14 := hn7 b14 (by simp only [hpS, eq_self, implies_true, f14]) f14.2.2.2.2
        have hok7 : okK [r] R7 [(r, cvar s3 d1' d2'), (b9, .var [.d (.int .i64 5), .d (.int .i64 x), .d (.int .i64 0), .d (.int .i64 0), .d (.str nm), .d (.int .i64 ts.length), .d (.str ⟨#[]⟩), .d (.int .i64 0), .own bv vv, .nils]), (b14, .var [.d (.int .i64 tk), .d (.str tn), .d (.int .i64 ti), .d (.slice (Tm.ds ta))])] := by simp only [hpS, eq_self, implies_true, f9, g9, g14, f14]
        simp -dsimp (maxDischargeDepth := 9) only [go_sem, zA, zB, zC, zD, zE, zF, zG, gS, f9, f14, g9, g14]
        rw [AccN.src (pre := []) (p := pcF rows ar) (post := cps s3 d1' d2' ++ [pcF out a]) hacc8 hok7]
        have hszs := szs_map (sz := 10) (f := Fl.d) (fun x => x.cs_length) rows
        simp -dsimp (maxDischargeDepth := 9) only [go_sem, zA, zB, zC, zD, zE, zF, zG, gS, hszs]
        refine AccN.appTo (pre := pcF rows ar :: cps s3 d1' d2') (p := pcF out a) (post := []) hacc8 hok7 (by simp only [hpS, eq_self, implies_true, ]) (by simp only [List.length_map]; omega) (fun a4 R8 hacc9 hn9 => ?_)
        have k9 := hn9 b9 (by simp only [hpS, eq_self, implies_true, f9]) g9
        have k14 := hn9 b14 (by simp only [hpS, eq_self, implies_true, f14]) g14
        have hacc10 : AccN H2 [r] (cps s3 d1' d2' ++ [pcF (out ++ rows) a4]) R8 := by
         have := AccN.without (pre := []) (p := pcF rows ar) (post := cps s3 d1' d2' ++ [⟨39, 10, out.map Fl.d ++ rows.map Fl.d, a4⟩]) hacc9
         simp only [pcF, List.map_append]; exact this
        simp -dsimp (maxDischargeDepth := 9) only [go_sem, zA, zB, zC, zD, zE, zF, zG, gS, f9, f14, k9, k14, hwj]
        refine roundQ_next (i2 + 1, out ++ rows, s3, d1', d2', a4, R8) _ ⟨rfl, hacc10, k9, q3', by rw [← hrun2]; simp, by simp only; omega, by simp only; omega, by simp only [List.length_append]; omega⟩ (by simp only; omega) (by simp -dsimp (maxDischargeDepth := 9) only [go_sem, zA, zB, zC, zD, zE, zF, zG, gS]) (leH_hp (by simp only [hpS, eq_self, implies_true, f9, f14, k9, k14]) (by simp only [hpS, eq_self, implies_true, f9, f14, k9, k14]))
      ·have e4 : tk = 1 := by simpa using q4
       have hp1 := (Tm.mk tk tn ti ta).nodes_pos
       simp only [if_pos e4] at hrun2
       simp -dsimp (maxDischargeDepth := 9) only [go_sem, zA, zB, zC, zD, zE, zF, zG, gS, q4, f9, h9, f14, hwj]
       refine roundQ_next (i2 + 1, out, s2, d1, d2, a, R4) _ ⟨rfl, hacc5, h9, q3', hrun2, by simp only; omega, by simp only; omega, by simp only; omega⟩ (by simp only; omega) (by simp -dsimp (maxDischargeDepth := 9) only [go_sem, zA, zB, zC, zD, zE, zF, zG, gS]) (leH_hp (by simp only [hpS, eq_self, implies_true, f9, h9, f14]) (by simp only [hpS, eq_self, implies_true, f9, h9, f14]))
     ·rw [drop_end (by have := of_decide_eq_false q3; omega), drop_end (by have := of_decide_eq_false q3; omega)] at hrun2
      simp only [nunifys, List.append_nil, Prod.mk.injEq] at hrun2
      obtain ⟨r1, r2⟩ := hrun2
      rw [← r1, ← r2] at hK
      simp -dsimp (maxDischargeDepth := 9) only [go_sem, zA, zB, zC, zD, zE, zF, zG, gS, q3]
      refine retW_drop (G := hp R4 [(r, cvar s2 d1 d2)]) (leH_hp (by simp only [hpS, eq_self, implies_true, f9, h9]) (by simp only [hpS, eq_self, implies_true, f9, h9])) (retW_is (hK a d1 d2 R4 ?_))
      exact (AccN.rot (ys := [pcF out a]) hacc5).weak hle2
end Go.Aug

/- The reference's flat goals: places, wholes. -/
namespace Go.Aug
open Nat renaming reduceBEq → zA, reduceLT → zB, reduceAdd → zC, reduceSub → zD, reduceMul → zE, reduceLeDiff → zF
open Int renaming reduceLE → zG
open Go.Proofs
set_option maxRecDepth 100000
set_option linter.unusedSimpArgs false
attribute [local irreducible] hid andK letA onSome onVar onArr arrOnly onInt onBool onFunc onTup idxA ldV ldD addO appTo fillL slA srcK nilQ retW gif sgd sguard svc sops sdops sagain aopO aLoad aStore aBin aUn aConv aLen aIndexAddr aIndex aIndexAddrS aIndexS aSlice aAppend aBuild aBuildSlice aMakeSlice aField aFieldOf aCallOp deepK deepL frzM putE newK newV growV ACall roundQ thenQ inBlockQ sret cnd szs nilC onMap onRow aLookup aMapUpdate aMakeMap
attribute [local go_sem] Int.natCast_zero
theorem nplace_names (t : Tm) (s : NS) : (nplace t s).2.2.names.length ≤ s.names.length + t.nodes := by
 unfold nplace
 have hp := t.nodes_pos
 split
 ·have := nnumber_names t.name s; simp only; omega
 ·have := nunify_names s.next t (nfresh s).2; simp only [nfresh] at this ⊢; omega
set_option maxHeartbeats 2000000 in
theorem place05_ok {eb : EbG} (t : Tm) (ht : t.small) (H0 R : Heap) (r : Nat) (s : NS) (a1 a2 : A) (hacc : AccN H0 [r] (cps s a1 a2) R) (hlim : s.next + t.nodes ≤ 1099511627773) (hlim2 : s.names.length + t.nodes ≤ 1099511627773) (K : A → Heap → Prop)
  (hK : ∀ a a1' a2' R', AccN H0 [r] (pcF (nplace t s).2.1 a :: cps (nplace t s).2.2 a1' a2') R' → K (.tup [.d (.int .i64 (nplace t s).1), a]) (hp R' [(r, cvar (nplace t s).2.2 a1' a2')])) :
  ACall Tryd.prog (seatV eb) 128 [.ref r 0, .d t.d] (hp R [(r, cvar s a1 a2)]) K := by
 have hpos := t.nodes_pos
 obtain ⟨tk, tn, ti, ta⟩ := t
 refine ACall.by mixed fn128 (by simp) ?_
 conv in s128 => cbv
 refine svc_start ?_
 simp -dsimp (maxDischargeDepth := 9) only [go_sem, zA, zB, zC, zD, zE, zF, zG, gS, Tm.d, Tm.cs]
 refine newK_hp (fun b3 f3 => ?_)
 simp only [off_cons, off_nil] at f3
 simp -dsimp (maxDischargeDepth := 9) only [go_sem, zA, zB, zC, zD, zE, zF, zG, gS, f3]
 refine gif_split (fun g1 => ?_) (fun g1 => ?_)
 ·have e : tk = 1 := of_decide_eq_true g1
  subst e
  rw [nplace, if_pos (show (Tm.mk 1 tn ti ta).kind = 1 from rfl)] at hK
  simp only [Tm.name] at hK
  simp -dsimp (maxDischargeDepth := 9) only [go_sem, zA, zB, zC, zD, zE, zF, zG, gS, g1, f3]
  obtain ⟨H1, R2, e, hacc3, back⟩ := accN_sub (r := r) (qs := cps s a1 a2) (ps := []) (o := cvar s a1 a2) (l := [(b3, .var [.d (.int .i64 1), .d (.str tn), .d (.int .i64 ti), .d (.slice (Tm.ds ta))])]) (by simpa using hacc) (by simp only [hpS, eq_self, implies_true, f3]) (by simp only [hpS, eq_self, implies_true, ]) (by simp only [hpS, eq_self, implies_true, f3])
  rw [e]
  refine number05_ok ⟨hacc3, by omega, by omega⟩ tn _ (fun c1 c2 R3 hacc4 => ?_)
  generalize nnumber tn s = z at hK hacc4 ⊢
  obtain ⟨v, s2⟩ := z
  simp only at hK hacc4
  obtain ⟨R4, hacc5, e4, hn4⟩ := back _ _ hacc4
  rw [e4]
  have g3 := hn4 b3 (by simp only [hpS, eq_self, implies_true, f3]) f3.2.2
  simp -dsimp (maxDischargeDepth := 9) only [go_sem, zA, zB, zC, zD, zE, zF, zG, gS, f3, g3]
  refine retW_drop (G := hp R4 [(r, cvar s2 c1 c2)]) (leH_hp (by simp only [hpS, eq_self, implies_true, f3, g3]) (by simp only [hpS, eq_self, implies_true, f3, g3])) (retW_is (hK .nils c1 c2 R4 ?_))
  exact (show AccN H0 [r] (cps s2 c1 c2) R4 by simpa using hacc5).nil _ _
 ·have e : tk ≠ 1 := of_decide_eq_false g1
  rw [nplace, if_neg (show ¬ (Tm.mk tk tn ti ta).kind = 1 from e)] at hK
  simp only at hK
  simp -dsimp (maxDischargeDepth := 9) only [go_sem, zA, zB, zC, zD, zE, zF, zG, gS, g1, f3]
  refine fresh05_ok _ r s.next a1 a2 (by simp only [hpS, eq_self, implies_true, ]) (by omega) _ ?_
  simp -dsimp (maxDischargeDepth := 9) only [go_sem, zA, zB, zC, zD, zE, zF, zG, gS, f3]
  obtain ⟨H1, R2, e2, hacc3, back⟩ := accN_sub (r := r) (qs := cps (nfresh s).2 a1 a2) (ps := []) (o := cvar (nfresh s).2 a1 a2) (l := [(b3, .var [.d (.int .i64 tk), .d (.str tn), .d (.int .i64 ti), .d (.slice (Tm.ds ta))])]) (by rw [List.append_nil]; exact hacc) (by simp only [hpS, eq_self, implies_true, f3]) (by simp only [hpS, eq_self, implies_true, ]) (by simp only [hpS, eq_self, implies_true, f3])
  rw [show (.var [.d (.int .i64 ((s.next + 1 : Nat) : Int)), a1, a2] : AObj) = cvar (nfresh s).2 a1 a2 from rfl, e2]
  refine unify05_ok _ (.mk tk tn ti ta) (Nat.le_refl _) ht H1 R2 r (nfresh s).2 a1 a2 hacc3 s.next (by simp only [nfresh]; omega) (by simp only [nfresh]; omega) _ (fun ar c1 c2 R3 hacc4 => ?_)
  generalize nunify s.next (.mk tk tn ti ta) (nfresh s).2 = z at hK hacc4 ⊢
  obtain ⟨rows, s2⟩ := z
  simp only at hK hacc4
  obtain ⟨R4, hacc5, e4, hn4⟩ := back _ _ hacc4
  rw [e4]
  have g3 := hn4 b3 (by simp only [hpS, eq_self, implies_true, f3]) f3.2.2
  simp -dsimp (maxDischargeDepth := 9) only [go_sem, zA, zB, zC, zD, zE, zF, zG, gS, f3, g3]
  refine retW_drop (G := hp R4 [(r, cvar s2 c1 c2)]) (leH_hp (by simp only [hpS, eq_self, implies_true, f3, g3]) (by simp only [hpS, eq_self, implies_true, f3, g3])) (retW_is (hK ar c1 c2 R4 ?_))
  simpa using hacc5
theorem whole05_ok {eb : EbG} (gs : List Fl) (hl : gs.length ≤ 1099511627776) (H : Heap) (K : A → Heap → Prop) (hK : K (.d (nwhole gs).d) H) :
  ACall Tryd.prog (seatV eb) 76 [.d (.slice (gs.map Fl.d))] H K := by
 refine ACall.hp_start ?_
 refine ACall.by mixed fn76 (by simp) ?_
 conv in s76 => cbv
 refine svc_start ?_
 simp -dsimp (maxDischargeDepth := 9) only [go_sem, zA, zB, zC, zD, zE, zF, zG, gS]
 refine newK_hp (fun b2 f2 => ?_)
 simp only [off_cons, off_nil] at f2
 simp -dsimp (maxDischargeDepth := 9) only [go_sem, zA, zB, zC, zD, zE, zF, zG, gS, f2]
 refine gif_split (fun g1 => ?_) (fun g1 => ?_)
 ·have e : gs = [] := by have := of_decide_eq_true g1; exact List.length_eq_zero_iff.1 (by omega)
  subst e
  rw [show nwhole [] = fTrue from rfl, fTrue_d] at hK
  simp -dsimp (maxDischargeDepth := 9) only [go_sem, zA, zB, zC, zD, zE, zF, zG, gS, g1, f2]
  refine retW_deep ?_
  simp -dsimp (maxDischargeDepth := 9) only [go_sem, zA, zB, zC, zD, zE, zF, zG, gS]
  exact retW_drop (G := H) (leH_hp0 (by simp only [hpS, eq_self, implies_true, f2])) (retW_is hK)
 ·have e0 : gs.length ≠ 0 := by have := of_decide_eq_false g1; omega
  simp -dsimp (maxDischargeDepth := 9) only [go_sem, zA, zB, zC, zD, zE, zF, zG, gS, g1, f2]
  refine gif_split (fun g2 => ?_) (fun g2 => ?_)
  ·obtain ⟨g, rfl⟩ : ∃ g, gs = [g] := List.length_eq_one_iff.1 (by have := of_decide_eq_true g2; omega)
   obtain ⟨k, x, y, i, c, p, xs, ys⟩ := g
   simp only [nwhole, Fl.d, Fl.cs] at hK
   simp -dsimp (maxDischargeDepth := 9) only [go_sem, zA, zB, zC, zD, zE, zF, zG, gS, g2, f2, List.map_cons, List.map_nil, List.getElem?_cons_zero, Int.toNat_zero, Fl.d, Fl.cs]
   exact retW_drop (G := H) (leH_hp0 (by simp only [hpS, eq_self, implies_true, f2])) (retW_is hK)
  ·have e1 : gs.length ≠ 1 := by have := of_decide_eq_false g2; omega
   have ew : nwhole gs = fRow 7 0 gs := by
    rcases gs with _ | ⟨a, _ | ⟨b, gs⟩⟩
    ·simp at e0
    ·simp at e1
    ·rfl
   rw [ew, fRow_d] at hK
   simp -dsimp (maxDischargeDepth := 9) only [go_sem, zA, zB, zC, zD, zE, zF, zG, gS, g2, f2]
   refine retW_deep ?_
   simp -dsimp (maxDischargeDepth := 9) only [go_sem, zA, zB, zC, zD, zE, zF, zG, gS]
   exact retW_drop (G := H) (leH_hp0 (by simp only [hpS, eq_self, implies_true, f2])) (retW_is hK)
end Go.Aug

/- The reference's flat goals: how many names there are. -/
namespace Go.Aug
open Go.Proofs
set_option maxRecDepth 100000
set_option linter.unusedSimpArgs false
theorem nequal_names (a b : Tm) (s : NS) : (nequal a b s).2.names.length ≤ s.names.length + a.nodes + b.nodes := by
 have ha := a.nodes_pos
 have hb := b.nodes_pos
 unfold nequal
 split
 ·split
  ·simp only; omega
  ·have h1 := nnumber_names a.name s; have h2 := nnumber_names b.name (nnumber a.name s).2; simp only; omega
 ·split
  ·have h1 := nnumber_names a.name s; have h2 := nunify_names (nnumber a.name s).1 b (nnumber a.name s).2; omega
  ·split
   ·have h1 := nnumber_names b.name s; have h2 := nunify_names (nnumber b.name s).1 a (nnumber b.name s).2; omega
   ·have h1 := nunify_names s.next a (nfresh s).2
    have h2 := nunify_names s.next b (nunify s.next a (nfresh s).2).2
    simp only [nfresh] at h1 h2 ⊢; omega
theorem nplaces_names : ∀ (ts : List Tm) (s : NS), (nplaces ts s).2.2.names.length ≤ s.names.length + Tm.nodess ts
 | [], s => by simp [nplaces, Tm.nodess]
 | t :: ts, s => by
  have h1 := nplace_names t s
  have h2 := nplaces_names ts (nplace t s).2.2
  simp only [nplaces, Tm.nodess]; omega
mutual
theorem ngoal_names : ∀ (g : Gl) (s : NS), (ngoal g s).2.names.length ≤ s.names.length + g.nodes
 | .mk k a b n xs gs, s => by
  have h1 := nequal_names a b s
  have h2 := nplaces_names xs s
  have h3 := nplace_names a s
  have h4 := ngoals_names gs s
  have h5 := nwholes_names gs s
  have h6 := nwholes_names gs (nnumber n s).2
  have h7 := nnumber_names n s
  unfold ngoal
  simp only [Gl.nodes]
  repeat' split
  all_goals first | omega | (simp only; omega)
theorem ngoals_names : ∀ (gs : List Gl) (s : NS), (ngoals gs s).2.names.length ≤ s.names.length + Gl.nodess gs
 | [], s => by simp [ngoals, Gl.nodess]
 | g :: gs, s => by
  have h1 := ngoal_names g s
  have h2 := ngoals_names gs (ngoal g s).2
  simp only [ngoals, Gl.nodess]; omega
theorem nwholes_names : ∀ (gs : List Gl) (s : NS), (nwholes gs s).2.names.length ≤ s.names.length + Gl.nodess gs
 | [], s => by simp [nwholes, Gl.nodess]
 | g :: gs, s => by
  have h1 := ngoal_names g s
  have h2 := nwholes_names gs (ngoal g s).2
  simp only [nwholes, Gl.nodess]; omega
end
/-- A fresh row of the frame is one of ours. -/
theorem row_in {H R : Heap} {r b3 b : Nat} {o o3 : AObj} {qs : List Pc} {E : TypeId} {sz : Nat} {v : Value} (h : AccN H [r] qs R) (ho : off R [(r, o), (b3, o3)] b) (hv : v.ownBlock = some b) :
  ∃ R1, hp R [(r, o), (b3, o3), (b, .arr E sz v [])] = hp R1 [(r, o), (b3, o3)] ∧ AccN H [r] (qs ++ [⟨E, sz, [], .own b v⟩]) R1 ∧ (R b3 = none → R1 b3 = none) := by
 have hin := off_in ho
 have hne : b3 ≠ b := eqn_false ho.2.2.2.1
 refine ⟨upd R b (.arr E sz v []), by rw [hp_base hin, setL_off ho]; rfl, AccN.rot (xs := [_]) (h.new ?_ (off_base ho) hv), fun hn => upd_eq_none.2 ⟨hne, hn⟩⟩
 have := ho.1
 simp only [memK, cnd, this]; rfl
end Go.Aug
