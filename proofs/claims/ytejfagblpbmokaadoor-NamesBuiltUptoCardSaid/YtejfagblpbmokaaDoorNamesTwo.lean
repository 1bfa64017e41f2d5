/- The contracts of the reference's names: keys, counts, what is well named, the index; conditions stand in each contract. -/
import Derived.Test.YtejfagblpbmokaaDoorNamesOne
import Derived.Test.YtejfagblpbmokaaDoorAugEight
import Derived.Test.YtejfagblpbmokaaDoorRunTwo
set_option linter.all false
set_option linter.unusedVariables false
set_option linter.unusedSimpArgs false
set_option linter.unusedSectionVars false

/- The layer of names: the built in predicates. -/
namespace Go.Aug
open Nat renaming reduceBEq → zA, reduceLT → zB, reduceAdd → zC, reduceSub → zD, reduceMul → zE, reduceLeDiff → zF
open Int renaming reduceLE → zG
open Go.Proofs
set_option maxRecDepth 100000
set_option linter.unusedSimpArgs false
attribute [local irreducible] hid andK letA onSome onVar onArr arrOnly onInt onBool onFunc onTup idxA ldV ldD addO appTo fillL slA srcK nilQ retW gif sgd sguard svc sops sdops sagain aopO aLoad aStore aBin aUn aConv aLen aIndexAddr aIndex aIndexAddrS aIndexS aSlice aAppend aBuild aBuildSlice aMakeSlice aField aFieldOf aCallOp deepK deepL frzM putE newK newV growV ACall roundQ thenQ inBlockQ sret cnd szs nilC onMap onRow aLookup aMapUpdate aMakeMap
attribute [local go_sem] Int.natCast_zero
structure Md where
 ways : List Bool
 det : Int
 deriving Inhabited, DecidableEq
def Md.cs (m : Md) : List D := [.slice (m.ways.map .bool), .int .i64 m.det]
def Md.d (m : Md) : D := .agg m.cs
structure Pr where
 key : Ky
 types : List Ty
 modes : List Md
 clauses : List Int
 deriving Inhabited
def Pr.cs (p : Pr) : List D := [.str p.key.name, .int .i64 p.key.ar, .slice (p.types.map Ty.d), .slice (p.modes.map Md.d), .slice (p.clauses.map (.int .i64))]
def Pr.d (p : Pr) : D := .agg p.cs
def tyInt : Ty := .mk false kInt []
def bArith (n : ByteArray) : Pr := ⟨⟨n, 3⟩, [tyInt, tyInt, tyInt], [⟨[true, true, false], 1⟩], []⟩
def bLess (n : ByteArray) : Pr := ⟨⟨n, 2⟩, [tyInt, tyInt], [⟨[true, true], 2⟩], []⟩
def builtinsL : List Pr := [bArith ⟨#[97, 100, 100]⟩, bArith ⟨#[115, 117, 98]⟩, bArith ⟨#[109, 117, 108]⟩, bArith ⟨#[100, 105, 118]⟩, bArith ⟨#[109, 111, 100]⟩, bLess ⟨#[108, 116]⟩, bLess ⟨#[108, 101]⟩]
abbrev pcP (l : List Pr) (a : A) : Pc := ⟨36, 5, l.map Pr.d, a⟩
abbrev pcT0 (l : List Ty) (a : A) : Pc := ⟨135, 3, l.map Ty.d, a⟩
def bNames : List ByteArray := [⟨#[97, 100, 100]⟩, ⟨#[115, 117, 98]⟩, ⟨#[109, 117, 108]⟩, ⟨#[100, 105, 118]⟩, ⟨#[109, 111, 100]⟩, ⟨#[108, 116]⟩, ⟨#[108, 101]⟩]
def bOf (j : Nat) (n : ByteArray) : Pr := if 4 < j then bLess n else bArith n
theorem builtins_at {j : Nat} {n : ByteArray} (h : bNames[j]? = some n) : builtinsL.take (j + 1) = builtinsL.take j ++ [bOf j n] := by
 match j, h with
 | 0, h => cases h; rfl
 | 1, h => cases h; rfl
 | 2, h => cases h; rfl
 | 3, h => cases h; rfl
 | 4, h => cases h; rfl
 | 5, h => cases h; rfl
 | 6, h => cases h; rfl
 | j + 7, h => simp [bNames] at h
set_option maxHeartbeats 8000000 in
theorem preds04_own {eb : EbG} (H : Heap) : ACall Tryd.prog (seatV eb) 54 [] H fun r H' => ∃ b v, r = .own b v ∧ H b = none ∧ v.ownBlock = some b ∧ H' = upd H b (.arr 36 5 v (builtinsL.map Pr.d)) := by
 refine ACall.hp_start ?_
 refine ACall.by mixed fn54 (by simp) ?_
 conv in s54 => cbv
 refine svc_start ?_
 simp -dsimp (maxDischargeDepth := 9) only [go_sem, zA, zB, zC, zD, zE, zF, zG, gS]
 refine newV_hp (fun b6 v6 f6 w6 => ?_)
 simp only [off_cons, off_nil] at f6
 simp -dsimp (maxDischargeDepth := 9) only [go_sem, zA, zB, zC, zD, zE, zF, zG, gS, f6]
 refine newV_hp (fun b7 v7 f7 w7 => ?_)
 simp only [off_cons, off_nil] at f7
 simp -dsimp (maxDischargeDepth := 9) only [go_sem, zA, zB, zC, zD, zE, zF, zG, gS, f6, f7, List.length_cons, List.length_nil]
 have hacc0 : AccN H [] [pcP [] (.own b6 v6)] (upd H b6 (.arr 36 5 v6 [])) := (AccN.none H []).new (by simp only [hpS, eq_self, implies_true, ]) f6 w6
 have h0 : upd H b6 (.arr 36 5 v6 []) b7 = none := upd_eq_none.2 ⟨eqn_false f7.1, f7.2.2⟩
 have hE : bNames.map D.str = [.str ⟨#[97, 100, 100]⟩, .str ⟨#[115, 117, 98]⟩, .str ⟨#[109, 117, 108]⟩, .str ⟨#[100, 105, 118]⟩, .str ⟨#[109, 111, 100]⟩, .str ⟨#[108, 116]⟩, .str ⟨#[108, 101]⟩] := rfl
 have hlen : bNames.length = 7 := rfl
 refine svc_loop (X := Nat × A × Heap) (fun y => [(1, y.2.1), (7, .own b7 v7), (8, .d (.int .i64 ((7 : Nat) : Int))), (9, .d (.int .i64 y.1))])
  (fun y G => G = hp y.2.2 [(b7, .arr 9 1 v7 (bNames.map D.str))] ∧ AccN H [] [pcP (builtinsL.take y.1) y.2.1] y.2.2 ∧ y.2.2 b7 = none ∧ y.1 ≤ 7) (fun y => 7 - y.1) (0, .own b6 v6, upd H b6 (.arr 36 5 v6 [])) _ ⟨rfl, hacc0, h0, Nat.zero_le _⟩ (by simp -dsimp (maxDischargeDepth := 9) only [go_sem, zA, zB, zC, zD, zE, zF, zG, gS]) (by rw [hp_base (by simp only [hpS, eq_self, implies_true, f7])]; exact (leH_hp (by simp only [hpS, eq_self, implies_true, f6, f7, hE, setL_cons, setL_nil]) (by simp only [hpS, eq_self, implies_true, f6, f7, hE, setL_cons, setL_nil]))) ?_
 clear hacc0 h0
 rintro ⟨j, a, R⟩ G ⟨hG, hacc, h7, hj⟩
 simp only at hG hacc h7 hj
 subst hG
 simp -dsimp (maxDischargeDepth := 9) only [go_sem, zA, zB, zC, zD, zE, zF, zG, gS]
 refine gif_split (fun q1 => ?_) (fun q1 => ?_)
 ·have q1' : j < bNames.length := by have := of_decide_eq_true q1; omega
  obtain ⟨n, hx⟩ := list_at q1'
  have hw := wrapN (k := j) (by omega)
  simp -dsimp (maxDischargeDepth := 9) only [go_sem, zA, zB, zC, zD, zE, zF, zG, gS, q1, q1', hx, f7, h7, Option.map_some]
  refine newV_hp (fun b16 v16 f16 w16 => ?_)
  simp only [off_cons, off_nil] at f16
  simp -dsimp (maxDischargeDepth := 9) only [go_sem, zA, zB, zC, zD, zE, zF, zG, gS, f7, h7, f16]
  refine newV_hp (fun b18 v18 f18 w18 => ?_)
  simp only [off_cons, off_nil] at f18
  simp -dsimp (maxDischargeDepth := 9) only [go_sem, zA, zB, zC, zD, zE, zF, zG, gS, f7, h7, f16, f18]
  refine newK_hp (fun b4 f4 => ?_)
  simp only [off_cons, off_nil] at f4
  simp -dsimp (maxDischargeDepth := 9) only [go_sem, zA, zB, zC, zD, zE, zF, zG, gS, f7, h7, f16, f18, f4]
  refine gif_split (fun q3 => ?_) (fun q3 => ?_)
  ·have e3 : 4 < j := by have := of_decide_eq_true q3; omega
   have hb : (bOf j n).d = .agg [.str n, .int .i64 2, .slice ((List.replicate 2 tyInt).map Ty.d), .slice [.agg [.slice [.bool true, .bool true], .int .i64 2]], .slice []] := by rw [bOf, if_pos e3]; rfl
   simp -dsimp (maxDischargeDepth := 9) only [go_sem, zA, zB, zC, zD, zE, zF, zG, gS, q3, f7, h7, f16, f18, f4]
   refine newV_hp (fun b24 v24 f24 w24 => ?_)
   simp only [off_cons, off_nil] at f24
   simp -dsimp (maxDischargeDepth := 9) only [go_sem, zA, zB, zC, zD, zE, zF, zG, gS, f7, h7, f16, f18, f4, f24]
   refine newV_hp (fun b26 v26 f26 w26 => ?_)
   simp only [off_cons, off_nil] at f26
   simp -dsimp (maxDischargeDepth := 9) only [go_sem, zA, zB, zC, zD, zE, zF, zG, gS, f7, h7, f16, f18, f4, f24, f26]
   have h4 := f4.2.2.2.2.2.2
   have hM := f26.2.2.2.2.2.2.2.2.2.2
   refine svc_loop (X := Nat × A × Heap) (fun y => [(1, a), (4, .ref b4 0), (5, .d (.int .i64 y.1)), (7, .own b7 v7), (8, .d (.int .i64 ((7 : Nat) : Int))), (9, .d (.int .i64 j))])
    (fun y G => G = hp y.2.2 [(b7, .arr 9 1 v7 (bNames.map D.str)), (b4, .var [.d (.str n), .d (.int .i64 2), y.2.1, .own b26 v26, .nils]), (b26, .arr 117 2 v26 [.agg [.slice [.bool true, .bool true], .int .i64 2]])] ∧ AccN H [] [pcT0 (List.replicate y.1 tyInt) y.2.1, pcP (builtinsL.take j) a] y.2.2 ∧ (y.2.2 b7 = none ∧ y.2.2 b4 = none ∧ y.2.2 b26 = none) ∧ y.1 ≤ 2) (fun y => 2 - y.1) (0, .nils, R) _ ⟨rfl, hacc.nil _ _, ⟨h7, h4, hM⟩, Nat.zero_le _⟩ (by simp -dsimp (maxDischargeDepth := 9) only [go_sem, zA, zB, zC, zD, zE, zF, zG, gS]) (leH_hp (by simp only [hpS, eq_self, implies_true, f7, h7, f16, f18, f4, f24, f26]) (by simp only [hpS, eq_self, implies_true, f7, h7, f16, f18, f4, f24, f26])) ?_
   rintro ⟨i, tv, R2⟩ G ⟨hG, hacc2, ⟨g7, g4, gM⟩, hi⟩
   simp only at hG hacc2 g7 g4 gM hi
   subst hG
   simp -dsimp (maxDischargeDepth := 9) only [go_sem, zA, zB, zC, zD, zE, zF, zG, gS, f7, f4, f26, g7, g4, gM]
   refine gif_split (fun q2 => ?_) (fun q2 => ?_)
   ·have q2' : i < 2 := by have := of_decide_eq_true q2; omega
    have hwi := wrapN (k := i) (by omega)
    simp -dsimp (maxDischargeDepth := 9) only [go_sem, zA, zB, zC, zD, zE, zF, zG, gS, q2, f7, f4, f26, g7, g4, gM]
    refine newV_hp (fun b38 v38 f38 w38 => ?_)
    simp only [off_cons, off_nil] at f38
    simp -dsimp (maxDischargeDepth := 9) only [go_sem, zA, zB, zC, zD, zE, zF, zG, gS, f7, f4, f26, g7, g4, gM, f38]
    refine AccN.appTo (pre := []) (p := pcT0 (List.replicate i tyInt) tv) (post := [pcP (builtinsL.take j) a]) (ns := [tyInt.d]) hacc2 (by simp only [hpS, eq_self, implies_true, f7, f4, f26, g7, g4, gM, f38]) (by simp only [hpS, eq_self, implies_true, ]) (by simp only [List.length_map, List.length_replicate, List.length_cons, List.length_nil]; omega) (fun tv' R3 hacc3 hn3 => ?_)
    have k7 := hn3 b7 (by simp only [hpS, eq_self, implies_true, f7, f4, f26]) g7
    have k4 := hn3 b4 (by simp only [hpS, eq_self, implies_true, f7, f4, f26]) g4
    have kM := hn3 b26 (by simp only [hpS, eq_self, implies_true, f7, f4, f26]) gM
    have k38 := hn3 b38 (by simp only [hpS, eq_self, implies_true, f7, f4, f26, f38]) f38.2.2.2.2.2.2
    have o1 := AccN.one (pre := []) hacc3
    simp only at o1
    simp -dsimp (maxDischargeDepth := 9) only [go_sem, zA, zB, zC, zD, zE, zF, zG, gS, f7, f4, f26, f38, k7, k4, kM, k38, o1, List.length_cons, List.length_nil, hwi]
    have hacc4 : AccN H [] [pcT0 (List.replicate (i + 1) tyInt) tv', pcP (builtinsL.take j) a] R3 := by
     rw [pcT0, List.replicate_succ', List.map_append]; exact hacc3
    refine roundQ_next (i + 1, tv', R3) _ ⟨rfl, hacc4, ⟨k7, k4, kM⟩, q2'⟩ (by simp only; omega) (by simp -dsimp (maxDischargeDepth := 9) only [go_sem, zA, zB, zC, zD, zE, zF, zG, gS]) (leH_hp (by simp only [hpS, eq_self, implies_true, f7, f4, f26, f38, k7, k4, kM, k38]) (by simp only [hpS, eq_self, implies_true, f7, f4, f26, f38, k7, k4, kM, k38]))
   ·have q2' : i = 2 := by have := of_decide_eq_false q2; omega
    subst q2'
    simp -dsimp (maxDischargeDepth := 9) only [go_sem, zA, zB, zC, zD, zE, zF, zG, gS, q2, f7, f4, f26, g7, g4, gM]
    have hal := AccN.allD (pre := []) (t := [.own b26 v26, .nils]) hacc2
    simp only at hal
    simp -dsimp (maxDischargeDepth := 9) only [go_sem, zA, zB, zC, zD, zE, zF, zG, gS, f7, f4, f26, g7, g4, gM, hal]
    refine AccN.deep (pre := []) (p := pcT0 (List.replicate 2 tyInt) tv) (post := [pcP (builtinsL.take j) a]) hacc2 (by simp only [hpS, eq_self, implies_true, f7, f4, f26, g7, g4, gM]) (fun R4 hacc3 hn3 => ?_)
    have k7 := hn3 b7 g7
    have k4 := hn3 b4 g4
    have kM := hn3 b26 gM
    simp -dsimp (maxDischargeDepth := 9) only [go_sem, zA, zB, zC, zD, zE, zF, zG, gS, f7, f4, f26, k7, k4, kM]
    refine newV_hp (fun b43 v43 f43 w43 => ?_)
    simp only [off_cons, off_nil] at f43
    simp -dsimp (maxDischargeDepth := 9) only [go_sem, zA, zB, zC, zD, zE, zF, zG, gS, f7, f4, f26, k7, k4, kM, f43]
    rw [← hb]
    refine AccN.appTo (pre := []) (p := pcP (builtinsL.take j) a) (post := []) (ns := [(bOf j n).d]) hacc3 (by simp only [hpS, eq_self, implies_true, f7, f4, f26, k7, k4, kM, f43]) (by simp only [hpS, eq_self, implies_true, ]) (by simp only [List.length_map, List.length_take, List.length_cons, List.length_nil]; omega) (fun a' R5 hacc4 hn4 => ?_)
    have m7 := hn4 b7 (by simp only [hpS, eq_self, implies_true, f7, f4, f26]) k7
    have m4 := hn4 b4 (by simp only [hpS, eq_self, implies_true, f7, f4, f26]) k4
    have mM := hn4 b26 (by simp only [hpS, eq_self, implies_true, f7, f4, f26]) kM
    have m43 := hn4 b43 (by simp only [hpS, eq_self, implies_true, f7, f4, f26, f43]) f43.2.2.2.2.2.2
    simp -dsimp (maxDischargeDepth := 9) only [go_sem, zA, zB, zC, zD, zE, zF, zG, gS, f7, f4, f26, f43, m7, m4, mM, m43, hw]
    have hacc5 : AccN H [] [pcP (builtinsL.take (j + 1)) a'] R5 := by
     rw [builtins_at hx, pcP, List.map_append]; exact hacc4
    refine roundQ_next (j + 1, a', R5) _ ⟨rfl, hacc5, m7, by omega⟩ (by simp only; omega) (by simp -dsimp (maxDischargeDepth := 9) only [go_sem, zA, zB, zC, zD, zE, zF, zG, gS]) (leH_hp (by simp only [hpS, eq_self, implies_true, f7, f4, f26, f43, m7, m4, mM, m43]) (by simp only [hpS, eq_self, implies_true, f7, f4, f26, f43, m7, m4, mM, m43]))
  ·have e3 : ¬ 4 < j := by have := of_decide_eq_false q3; omega
   have hb : (bOf j n).d = .agg [.str n, .int .i64 3, .slice ((List.replicate 3 tyInt).map Ty.d), .slice [.agg [.slice [.bool true, .bool true, .bool false], .int .i64 1]], .slice []] := by rw [bOf, if_neg e3]; rfl
   simp -dsimp (maxDischargeDepth := 9) only [go_sem, zA, zB, zC, zD, zE, zF, zG, gS, q3, f7, h7, f16, f18, f4]
   have h4 := f4.2.2.2.2.2.2
   have hM := f18.2.2.2.2
   refine svc_loop (X := Nat × A × Heap) (fun y => [(1, a), (4, .ref b4 0), (5, .d (.int .i64 y.1)), (7, .own b7 v7), (8, .d (.int .i64 ((7 : Nat) : Int))), (9, .d (.int .i64 j))])
    (fun y G => G = hp y.2.2 [(b7, .arr 9 1 v7 (bNames.map D.str)), (b4, .var [.d (.str n), .d (.int .i64 3), y.2.1, .own b18 v18, .nils]), (b18, .arr 117 2 v18 [.agg [.slice [.bool true, .bool true, .bool false], .int .i64 1]])] ∧ AccN H [] [pcT0 (List.replicate y.1 tyInt) y.2.1, pcP (builtinsL.take j) a] y.2.2 ∧ (y.2.2 b7 = none ∧ y.2.2 b4 = none ∧ y.2.2 b18 = none) ∧ y.1 ≤ 3) (fun y => 3 - y.1) (0, .nils, R) _ ⟨rfl, hacc.nil _ _, ⟨h7, h4, hM⟩, Nat.zero_le _⟩ (by simp -dsimp (maxDischargeDepth := 9) only [go_sem, zA, zB, zC, zD, zE, zF, zG, gS]) (leH_hp (by simp only [hpS, eq_self, implies_true, f7, h7, f16, f18, f4]) (by simp only [hpS, eq_self, implies_true, f7, h7, f16, f18, f4])) ?_
   rintro ⟨i, tv, R2⟩ G ⟨hG, hacc2, ⟨g7, g4, gM⟩, hi⟩
   simp only at hG hacc2 g7 g4 gM hi
   subst hG
   simp -dsimp (maxDischargeDepth := 9) only [go_sem, zA, zB, zC, zD, zE, zF, zG, gS, f7, f4, f18, g7, g4, gM]
   refine gif_split (fun q2 => ?_) (fun q2 => ?_)
   ·have q2' : i < 3 := by have := of_decide_eq_true q2; omega
    have hwi := wrapN (k := i) (by omega)
    simp -dsimp (maxDischargeDepth := 9) only [go_sem, zA, zB, zC, zD, zE, zF, zG, gS, q2, f7, f4, f18, g7, g4, gM]
    refine newV_hp (fun b38 v38 f38 w38 => ?_)
    simp only [off_cons, off_nil] at f38
    simp -dsimp (maxDischargeDepth := 9) only [go_sem, zA, zB, zC, zD, zE, zF, zG, gS, f7, f4, f18, g7, g4, gM, f38]
    refine AccN.appTo (pre := []) (p := pcT0 (List.replicate i tyInt) tv) (post := [pcP (builtinsL.take j) a]) (ns := [tyInt.d]) hacc2 (by simp only [hpS, eq_self, implies_true, f7, f4, f18, g7, g4, gM, f38]) (by simp only [hpS, eq_self, implies_true, ]) (by simp only [List.length_map, List.length_replicate, List.length_cons, List.length_nil]; omega) (fun tv' R3 hacc3 hn3 => ?_)
    have k7 := hn3 b7 (by simp only [hpS, eq_self, implies_true, f7, f4, f18]) g7
    have k4 := hn3 b4 (by simp only [hpS, eq_self, implies_true, f7, f4, f18]) g4
    have kM := hn3 b18 (by simp only [hpS, eq_self, implies_true, f7, f4, f18]) gM
    have k38 := hn3 b38 (by simp only [hpS, eq_self, implies_true, f7, f4, f18, f38]) f38.2.2.2.2.2.2
    have o1 := AccN.one (pre := []) hacc3
    simp only at o1
    simp -dsimp (maxDischargeDepth := 9) only [go_sem, zA, zB, zC, zD, zE, zF, zG, gS, f7, f4, f18, f38, k7, k4, kM, k38, o1, List.length_cons, List.length_nil, hwi]
    have hacc4 : AccN H [] [pcT0 (List.replicate (i + 1) tyInt) tv', pcP (builtinsL.take j) a] R3 := by
     rw [pcT0, List.replicate_succ', List.map_append]; exact hacc3
    refine roundQ_next (i + 1, tv', R3) _ ⟨rfl, hacc4, ⟨k7, k4, kM⟩, q2'⟩ (by simp only; omega) (by simp -dsimp (maxDischargeDepth := 9) only [go_sem, zA, zB, zC, zD, zE, zF, zG, gS]) (leH_hp (by simp only [hpS, eq_self, implies_true, f7, f4, f18, f38, k7, k4, kM, k38]) (by simp only [hpS, eq_self, implies_true, f7, f4, f18, f38, k7, k4, kM, k38]))
   ·have q2' : i = 3 := by have := of_decide_eq_false q2; omega
    subst q2'
    simp -dsimp (maxDischargeDepth := 9) only [go_sem, zA, zB, zC, zD, zE, zF, zG, gS, q2, f7, f4, f18, g7, g4, gM]
    have hal := AccN.allD (pre := []) (t := [.own b18 v18, .nils]) hacc2
    simp only at hal
    simp -dsimp (maxDischargeDepth := 9) only [go_sem, zA, zB, zC, zD, zE, zF, zG, gS, f7, f4, f18, g7, g4, gM, hal]
    refine AccN.deep (pre := []) (p := pcT0 (List.replicate 3 tyInt) tv) (post := [pcP (builtinsL.take j) a]) hacc2 (by simp only [hpS, eq_self, implies_true, f7, f4, f18, g7, g4, gM]) (fun R4 hacc3 hn3 => ?_)
    have k7 := hn3 b7 g7
    have k4 := hn3 b4 g4
    have kM := hn3 b18 gM
    simp -dsimp (maxDischargeDepth := 9) only [go_sem, zA, zB, zC, zD, zE, zF, zG, gS, f7, f4, f18, k7, k4, kM]
    refine newV_hp (fun b43 v43 f43 w43 => ?_)
    simp only [off_cons, off_nil] at f43
    simp -dsimp (maxDischargeDepth := 9) only [go_sem, zA, zB, zC, zD, zE, zF, zG, gS, f7, f4, f18, k7, k4, kM, f43]
    rw [← hb]
    refine AccN.appTo (pre := []) (p := pcP (builtinsL.take j) a) (post := []) (ns := [(bOf j n).d]) hacc3 (by simp only [hpS, eq_self, implies_true, f7, f4, f18, k7, k4, kM, f43]) (by simp only [hpS, eq_self, implies_true, ]) (by simp only [List.length_map, List.length_take, List.length_cons, List.length_nil]; omega) (fun a' R5 hacc4 hn4 => ?_)
    have m7 := hn4 b7 (by simp only [hpS, eq_self, implies_true, f7, f4, f18]) k7
    have m4 := hn4 b4 (by simp only [hpS, eq_self, implies_true, f7, f4, f18]) k4
    have mM := hn4 b18 (by simp only [hpS, eq_self, implies_true, f7, f4, f18]) kM
    have m43 := hn4 b43 (by simp only [hpS, eq_self, implies_true, f7, f4, f18, f43]) f43.2.2.2.2.2.2
    simp -dsimp (maxDischargeDepth := 9) only [go_sem, zA, zB, zC, zD, zE, zF, zG, gS, f7, f4, f18, f43, m7, m4, mM, m43, hw]
    have hacc5 : AccN H [] [pcP (builtinsL.take (j + 1)) a'] R5 := by
     rw [builtins_at hx, pcP, List.map_append]; exact hacc4
    refine roundQ_next (j + 1, a', R5) _ ⟨rfl, hacc5, m7, by omega⟩ (by simp only; omega) (by simp -dsimp (maxDischargeDepth := 9) only [go_sem, zA, zB, zC, zD, zE, zF, zG, gS]) (leH_hp (by simp only [hpS, eq_self, implies_true, f7, f4, f18, f43, m7, m4, mM, m43]) (by simp only [hpS, eq_self, implies_true, f7, f4, f18, f43, m7, m4, mM, m43]))
 ·have q1' : j = 7 := by have := of_decide_eq_false q1; omega
  subst q1'
  simp -dsimp (maxDischargeDepth := 9) only [go_sem, zA, zB, zC, zD, zE, zF, zG, gS, q1, f7, h7]
  rcases AccN.mid (pre := []) hacc with ⟨e1, _⟩ | ⟨b, v, ha, _, hb, hv, hR⟩
  ·cases e1
  ·simp only at ha hR
   subst ha
   have h7H := hacc.le.free h7
   have hbo := AccN.out (pre := []) (l := [(b7, .arr 9 1 v7 (bNames.map D.str))]) hacc (by simp only [hpS, eq_self, implies_true, h7]) rfl
   refine retW_drop (G := upd H b (.arr 36 5 v (builtinsL.map Pr.d))) ?_ (retW_is ⟨b, v, rfl, hb, hv, rfl⟩)
   refine leH_upd_l (by rw [hp_not hbo]; exact hR) fun k o _ hk => ((leH_hp02 hacc.le (by simp only [hpS, eq_self, implies_true, h7, h7H]))) k o hk
set_option maxHeartbeats 8000000 in
theorem builtins50_ok {eb : EbG} (H : Heap) (K : A → Heap → Prop) (hK : K (.d (.slice (builtinsL.map Pr.d))) H) : ACall Tryd.prog (seatV eb) 50 [] H K := by
 refine ACall.hp_start ?_
 refine ACall.by mixed fn50 (by simp) ?_
 conv in s50 => cbv
 refine svc_start ?_
 simp -dsimp (maxDischargeDepth := 9) only [go_sem, zA, zB, zC, zD, zE, zF, zG, gS]
 refine newK_hp (fun b1 f1 => ?_)
 simp only [off_cons, off_nil] at f1
 simp -dsimp (maxDischargeDepth := 9) only [go_sem, zA, zB, zC, zD, zE, zF, zG, gS, f1]
 refine newV_hp (fun b8 v8 f8 w8 => ?_)
 simp only [off_cons, off_nil] at f8
 simp -dsimp (maxDischargeDepth := 9) only [go_sem, zA, zB, zC, zD, zE, zF, zG, gS, f1, f8, List.length_cons, List.length_nil]
 have hE8 : ((bNames.drop 0).take 5).map D.str = [.str ⟨#[97, 100, 100]⟩, .str ⟨#[115, 117, 98]⟩, .str ⟨#[109, 117, 108]⟩, .str ⟨#[100, 105, 118]⟩, .str ⟨#[109, 111, 100]⟩] := rfl
 have hE28 : ((bNames.drop 5).take 2).map D.str = [.str ⟨#[108, 116]⟩, .str ⟨#[108, 101]⟩] := rfl
 have h1 := f1
 have h8 := f8.2.2
 refine svc_loop (X := Nat × A × Heap) (fun y => [(1, .ref b1 0), (2, y.2.1), (8, .own b8 v8), (9, .d (.int .i64 ((5 : Nat) : Int))), (10, .d (.int .i64 y.1))])
  (fun y G => G = hp y.2.2 [(b1, .var [.d (.bool false), .d (.str kInt), .nils]), (b8, .arr 9 1 v8 (((bNames.drop 0).take 5).map D.str))] ∧ AccN H [] [pcP (builtinsL.take (0 + y.1)) y.2.1] y.2.2 ∧ (y.2.2 b1 = none ∧ y.2.2 b8 = none) ∧ y.1 ≤ 5) (fun y => 5 - y.1) (0, .nils, H) _ ⟨rfl, (AccN.none H []).nil _ _, ⟨h1, h8⟩, Nat.zero_le _⟩ (by simp -dsimp (maxDischargeDepth := 9) only [go_sem, zA, zB, zC, zD, zE, zF, zG, gS]) (leH_hp (by simp only [hpS, eq_self, implies_true, f1, f8, hE8, kInt]) (by simp only [hpS, eq_self, implies_true, f1, f8, hE8, kInt])) ?_
 rintro ⟨j, a, R⟩ G ⟨hG, hacc, ⟨g1, g8⟩, hj⟩
 simp only at hG hacc g1 g8 hj
 subst hG
 simp -dsimp (maxDischargeDepth := 9) only [go_sem, zA, zB, zC, zD, zE, zF, zG, gS]
 refine gif_split (fun q1 => ?_) (fun q1 => ?_)
 ·have q1' : j < 5 := by have := of_decide_eq_true q1; omega
  have hlj : j < ((bNames.drop 0).take 5).length := q1'
  obtain ⟨n, hx⟩ := list_at hlj
  have hx2 : bNames[0 + j]? = some n := by
   rw [List.getElem?_take_of_lt q1', List.getElem?_drop] at hx; exact hx
  have hx0 : (bNames.take 5)[j]? = some n := hx
  have hlj0 : j < (bNames.take 5).length := hlj
  have hw := wrapN (k := j) (by omega)
  have hb : (bOf (0 + j) n).d = .agg [.str n, .int .i64 3, .slice [tyInt.d, tyInt.d, tyInt.d], .slice [.agg [.slice [.bool true, .bool true, .bool false], .int .i64 1]], .slice []] := by
   rw [bOf, if_neg (by omega)]; rfl
  have hty : tyInt.d = .agg [.bool false, .str kInt, .slice []] := rfl
  rw [hty] at hb
  simp -dsimp (maxDischargeDepth := 9) only [go_sem, zA, zB, zC, zD, zE, zF, zG, gS, q1, hlj0, hx0, g1, g8, f1, f8, Option.map_some]
  refine newV_hp (fun b20 v20 f20 w20 => ?_)
  simp only [off_cons, off_nil] at f20
  simp -dsimp (maxDischargeDepth := 9) only [go_sem, zA, zB, zC, zD, zE, zF, zG, gS, g1, g8, f1, f8, f20]
  refine newV_hp (fun b21 v21 f21 w21 => ?_)
  simp only [off_cons, off_nil] at f21
  simp -dsimp (maxDischargeDepth := 9) only [go_sem, zA, zB, zC, zD, zE, zF, zG, gS, g1, g8, f1, f8, f20, f21]
  refine newV_hp (fun b23 v23 f23 w23 => ?_)
  simp only [off_cons, off_nil] at f23
  simp -dsimp (maxDischargeDepth := 9) only [go_sem, zA, zB, zC, zD, zE, zF, zG, gS, g1, g8, f1, f8, f20, f21, f23]
  refine newV_hp (fun b25 v25 f25 w25 => ?_)
  simp only [off_cons, off_nil] at f25
  simp -dsimp (maxDischargeDepth := 9) only [go_sem, zA, zB, zC, zD, zE, zF, zG, gS, g1, g8, f1, f8, f20, f21, f23, f25]
  rw [← hb]
  refine AccN.appTo (pre := []) (p := pcP (builtinsL.take (0 + j)) a) (post := []) (ns := [(bOf (0 + j) n).d]) hacc (by simp only [hpS, eq_self, implies_true, g1, g8, f1, f8, f20, f21, f23, f25]) (by simp only [hpS, eq_self, implies_true, ]) (by simp only [List.length_map, List.length_take, List.length_cons, List.length_nil]; omega) (fun a' R5 hacc4 hn4 => ?_)
  have m1 := hn4 b1 (by simp only [hpS, eq_self, implies_true, f1, f8]) g1
  have m2 := hn4 b8 (by simp only [hpS, eq_self, implies_true, f1, f8]) g8
  have x0 := hn4 b20 (by simp only [hpS, eq_self, implies_true, f1, f8, f20]) f20.2.2.2.2
  have x1 := hn4 b21 (by simp only [hpS, eq_self, implies_true, f1, f8, f20, f21]) f21.2.2.2.2.2.2
  have x2 := hn4 b23 (by simp only [hpS, eq_self, implies_true, f1, f8, f20, f21, f23]) f23.2.2.2.2.2.2.2.2
  have x3 := hn4 b25 (by simp only [hpS, eq_self, implies_true, f1, f8, f20, f21, f23, f25]) f25.2.2.2.2.2.2.2.2.2.2
  simp -dsimp (maxDischargeDepth := 9) only [go_sem, zA, zB, zC, zD, zE, zF, zG, gS, f1, f8, f20, f21, f23, f25, m1, m2, x0, x1, x2, x3, hw]
  have hacc5 : AccN H [] [pcP (builtinsL.take (0 + (j + 1))) a'] R5 := by
   rw [← Nat.add_assoc, builtins_at hx2, pcP, List.map_append]; exact hacc4
  have hacc6 : AccN H [] [pcP (builtinsL.take (j + 1)) a'] R5 := by simpa only [Nat.zero_add] using hacc5
  refine roundQ_next (j + 1, a', R5) _ ⟨rfl, hacc6, ⟨m1, m2⟩, by omega⟩ (by simp only; omega) (by simp -dsimp (maxDischargeDepth := 9) only [go_sem, zA, zB, zC, zD, zE, zF, zG, gS]) (leH_hp (by simp only [hpS, eq_self, implies_true, f1, f8, f20, f21, f23, f25, m1, m2, x0, x1, x2, x3]) (by simp only [hpS, eq_self, implies_true, f1, f8, f20, f21, f23, f25, m1, m2, x0, x1, x2, x3]))
 ·have q1' : j = 5 := by have := of_decide_eq_false q1; omega
  subst q1'
  simp -dsimp (maxDischargeDepth := 9) only [go_sem, zA, zB, zC, zD, zE, zF, zG, gS, q1, f1, f8, g1, g8]
  refine newV_hp (fun b28 v28 f28 w28 => ?_)
  simp only [off_cons, off_nil] at f28
  have h28 := f28.2.2.2.2
  simp -dsimp (maxDischargeDepth := 9) only [go_sem, zA, zB, zC, zD, zE, zF, zG, gS, f1, f8, g1, g8, f28, List.length_cons, List.length_nil]
  clear hj q1
  refine svc_loop (X := Nat × A × Heap) (fun y => [(1, .ref b1 0), (2, y.2.1), (28, .own b28 v28), (29, .d (.int .i64 ((2 : Nat) : Int))), (30, .d (.int .i64 y.1))])
   (fun y G => G = hp y.2.2 [(b1, .var [.d (.bool false), .d (.str kInt), .nils]), (b28, .arr 9 1 v28 (((bNames.drop 5).take 2).map D.str))] ∧ AccN H [] [pcP (builtinsL.take (5 + y.1)) y.2.1] y.2.2 ∧ (y.2.2 b1 = none ∧ y.2.2 b28 = none) ∧ y.1 ≤ 2) (fun y => 2 - y.1) (0, a, R) _ ⟨rfl, hacc, ⟨g1, h28⟩, Nat.zero_le _⟩ (by simp -dsimp (maxDischargeDepth := 9) only [go_sem, zA, zB, zC, zD, zE, zF, zG, gS]) (leH_hp (by simp only [hpS, eq_self, implies_true, f1, f8, g1, g8, f28, hE28]) (by simp only [hpS, eq_self, implies_true, f1, f8, g1, g8, f28, hE28])) ?_
  rintro ⟨j, a2, R2⟩ G ⟨hG, hacc2, ⟨g1, g28⟩, hj⟩
  simp only at hG hacc2 g1 g28 hj
  subst hG
  simp -dsimp (maxDischargeDepth := 9) only [go_sem, zA, zB, zC, zD, zE, zF, zG, gS]
  refine gif_split (fun q1 => ?_) (fun q1 => ?_)
  ·have q1' : j < 2 := by have := of_decide_eq_true q1; omega
   have hlj : j < ((bNames.drop 5).take 2).length := q1'
   obtain ⟨n, hx⟩ := list_at hlj
   have hx2 : bNames[5 + j]? = some n := by
    rw [List.getElem?_take_of_lt q1', List.getElem?_drop] at hx; exact hx
   have hw := wrapN (k := j) (by omega)
   have hb : (bOf (5 + j) n).d = .agg [.str n, .int .i64 2, .slice [tyInt.d, tyInt.d], .slice [.agg [.slice [.bool true, .bool true], .int .i64 2]], .slice []] := by
    rw [bOf, if_pos (by omega)]; rfl
   have hty : tyInt.d = .agg [.bool false, .str kInt, .slice []] := rfl
   rw [hty] at hb
   simp -dsimp (maxDischargeDepth := 9) only [go_sem, zA, zB, zC, zD, zE, zF, zG, gS, q1, hlj, hx, g1, g28, f1, f28, Option.map_some]
   refine newV_hp (fun b39 v39 f39 w39 => ?_)
   simp only [off_cons, off_nil] at f39
   simp -dsimp (maxDischargeDepth := 9) only [go_sem, zA, zB, zC, zD, zE, zF, zG, gS, g1, g28, f1, f28, f39]
   refine newV_hp (fun b40 v40 f40 w40 => ?_)
   simp only [off_cons, off_nil] at f40
   simp -dsimp (maxDischargeDepth := 9) only [go_sem, zA, zB, zC, zD, zE, zF, zG, gS, g1, g28, f1, f28, f39, f40]
   refine newV_hp (fun b42 v42 f42 w42 => ?_)
   simp only [off_cons, off_nil] at f42
   simp -dsimp (maxDischargeDepth := 9) only [go_sem, zA, zB, zC, zD, zE, zF, zG, gS, g1, g28, f1, f28, f39, f40, f42]
   refine newV_hp (fun b44 v44 f44 w44 => ?_)
   simp only [off_cons, off_nil] at f44
   simp -dsimp (maxDischargeDepth := 9) only [go_sem, zA, zB, zC, zD, zE, zF, zG, gS, g1, g28, f1, f28, f39, f40, f42, f44]
   rw [← hb]
   refine AccN.appTo (pre := []) (p := pcP (builtinsL.take (5 + j)) a2) (post := []) (ns := [(bOf (5 + j) n).d]) hacc2 (by simp only [hpS, eq_self, implies_true, g1, g28, f1, f28, f39, f40, f42, f44]) (by simp only [hpS, eq_self, implies_true, ]) (by simp only [List.length_map, List.length_take, List.length_cons, List.length_nil]; omega) (fun a' R5 hacc4 hn4 => ?_)
   have m1 := hn4 b1 (by simp only [hpS, eq_self, implies_true, f1, f28]) g1
   have m2 := hn4 b28 (by simp only [hpS, eq_self, implies_true, f1, f28]) g28
   have x0 := hn4 b39 (by simp only [hpS, eq_self, implies_true, f1, f28, f39]) f39.2.2.2.2
   have x1 := hn4 b40 (by simp only [hpS, eq_self, implies_true, f1, f28, f39, f40]) f40.2.2.2.2.2.2
   have x2 := hn4 b42 (by simp only [hpS, eq_self, implies_true, f1, f28, f39, f40, f42]) f42.2.2.2.2.2.2.2.2
   have x3 := hn4 b44 (by simp only [hpS, eq_self, implies_true, f1, f28, f39, f40, f42, f44]) f44.2.2.2.2.2.2.2.2.2.2
   simp -dsimp (maxDischargeDepth := 9) only [go_sem, zA, zB, zC, zD, zE, zF, zG, gS, f1, f28, f39, f40, f42, f44, m1, m2, x0, x1, x2, x3, hw]
   have hacc5 : AccN H [] [pcP (builtinsL.take (5 + (j + 1))) a'] R5 := by
    rw [← Nat.add_assoc, builtins_at hx2, pcP, List.map_append]; exact hacc4
   refine roundQ_next (j + 1, a', R5) _ ⟨rfl, hacc5, ⟨m1, m2⟩, by omega⟩ (by simp only; omega) (by simp -dsimp (maxDischargeDepth := 9) only [go_sem, zA, zB, zC, zD, zE, zF, zG, gS]) (leH_hp (by simp only [hpS, eq_self, implies_true, f1, f28, f39, f40, f42, f44, m1, m2, x0, x1, x2, x3]) (by simp only [hpS, eq_self, implies_true, f1, f28, f39, f40, f42, f44, m1, m2, x0, x1, x2, x3]))
  ·have q1' : j = 2 := by have := of_decide_eq_false q1; omega
   subst q1'
   simp -dsimp (maxDischargeDepth := 9) only [go_sem, zA, zB, zC, zD, zE, zF, zG, gS, q1, f1, f28, g1, g28]
   refine retW_deep ?_
   refine AccN.deep (pre := []) (p := pcP (builtinsL.take (5 + 2)) a2) (post := []) hacc2 (by simp only [hpS, eq_self, implies_true, f1, f28, g1, g28]) (fun R4 hacc3 hn3 => ?_)
   have k1 := hn3 b1 g1
   have k28 := hn3 b28 g28
   have k1H := hacc2.le.free g1
   have k28H := hacc2.le.free g28
   exact retW_drop (G := H) (leH_hp02 hacc3.le (by simp only [hpS, eq_self, implies_true, k1, k28, k1H, k28H])) (retW_is hK)
end Go.Aug

/- The layer of names: predicates that are built in; what terms, types and goals name. -/
namespace Go.Aug
open Go.Proofs
set_option maxRecDepth 100000
set_option linter.unusedSimpArgs false
attribute [local irreducible] hid andK letA onSome onVar onArr arrOnly onInt onBool onFunc onTup idxA ldV ldD addO appTo fillL slA srcK nilQ retW gif sgd sguard svc sops sdops sagain aopO aLoad aStore aBin aUn aConv aLen aIndexAddr aIndex aIndexAddrS aIndexS aSlice aAppend aBuild aBuildSlice aMakeSlice aField aFieldOf aCallOp deepK deepL frzM putE newK newV growV ACall roundQ thenQ inBlockQ sret cnd szs nilC onMap onRow aLookup aMapUpdate aMakeMap
attribute [local go_sem] Int.natCast_zero
def isBuiltin (k : Ky) : Bool := builtinsL.any fun p => Ky.eqb p.key k
mutual
def Tm.small : Tm → Prop
 | .mk _ _ _ xs => xs.length ≤ 32768 ∧ Tm.smalls xs
def Tm.smalls : List Tm → Prop
 | [] => True
 | t :: ts => t.small ∧ Tm.smalls ts
end
theorem Tm.smalls_mem : ∀ {ts : List Tm}, Tm.smalls ts → ∀ t ∈ ts, t.small
 | _ :: _, h, _, .head _ => h.1
 | _ :: _, h, t, .tail _ ht => Tm.smalls_mem h.2 t ht
mutual
def tmOk (l : List It) : Tm → Bool
 | .mk k n _ xs => (!decide (k = 3) || decide ((0 : Int) < (rctors l ⟨n, xs.length⟩ : Int))) && tmOks l xs
def tmOks (l : List It) : List Tm → Bool
 | [] => true
 | t :: ts => tmOk l t && tmOks l ts
end
mutual
def Ty.small : Ty → Prop
 | .mk _ _ xs => xs.length ≤ 32768 ∧ Ty.smalls xs
def Ty.smalls : List Ty → Prop
 | [] => True
 | t :: ts => t.small ∧ Ty.smalls ts
end
theorem Ty.smalls_mem : ∀ {ts : List Ty}, Ty.smalls ts → ∀ t ∈ ts, t.small
 | _ :: _, h, _, .head _ => h.1
 | _ :: _, h, t, .tail _ ht => Ty.smalls_mem h.2 t ht
mutual
def tyOk (l : List It) (own : Bool) (vars : List ByteArray) : Ty → Bool
 | .mk v n xs => if v = true then !own || vars.any (fun x => decide (x = n)) else (decide ((0 : Int) < (l.countP (tyVars n xs.length) : Int)) || (decide (n = kInt) && decide ((xs.length : Int) = 0))) && tyOks l own vars xs
def tyOks (l : List It) (own : Bool) (vars : List ByteArray) : List Ty → Bool
 | [] => true
 | t :: ts => tyOk l own vars t && tyOks l own vars ts
end
end Go.Aug

/- The layer of names: what goals name. -/
namespace Go.Aug
open Go.Proofs
set_option maxRecDepth 100000
set_option linter.unusedSimpArgs false
attribute [local irreducible] hid andK letA onSome onVar onArr arrOnly onInt onBool onFunc onTup idxA ldV ldD addO appTo fillL slA srcK nilQ retW gif sgd sguard svc sops sdops sagain aopO aLoad aStore aBin aUn aConv aLen aIndexAddr aIndex aIndexAddrS aIndexS aSlice aAppend aBuild aBuildSlice aMakeSlice aField aFieldOf aCallOp deepK deepL frzM putE newK newV growV ACall roundQ thenQ inBlockQ sret cnd szs nilC onMap onRow aLookup aMapUpdate aMakeMap
attribute [local go_sem] Int.natCast_zero
mutual
def Gl.small : Gl → Prop
 | .mk _ a b _ xs gs => a.small ∧ b.small ∧ xs.length ≤ 32768 ∧ Tm.smalls xs ∧ gs.length ≤ 32768 ∧ Gl.smalls gs
def Gl.smalls : List Gl → Prop
 | [] => True
 | t :: ts => t.small ∧ Gl.smalls ts
end
theorem Gl.smalls_mem : ∀ {ts : List Gl}, Gl.smalls ts → ∀ t ∈ ts, t.small
 | _ :: _, h, _, .head _ => h.1
 | _ :: _, h, t, .tail _ ht => Gl.smalls_mem h.2 t ht
def glHead (l : List It) (k : Int) (a b : Tm) (n : ByteArray) (ar : Nat) : Bool :=
 if k = 4 then isBuiltin ⟨n, ar⟩ || decide ((0 : Int) < (rcount l 2 ⟨n, ar⟩ : Int)) else if k = 3 then tmOk l a && tmOk l b else if k = 8 then tmOk l a else true
mutual
def glOk (l : List It) : Gl → Bool
 | .mk k a b n xs gs => (glHead l k a b n xs.length && tmOks l xs) && glOks l gs
def glOks (l : List It) : List Gl → Bool
 | [] => true
 | t :: ts => glOk l t && glOks l ts
end
end Go.Aug

/- The layer of names: what is well named (printed by mkNmE.py). -/
namespace Go.Aug
open Go.Proofs
set_option maxRecDepth 100000
set_option linter.unusedSimpArgs false
attribute [local irreducible] hid andK letA onSome onVar onArr arrOnly onInt onBool onFunc onTup idxA ldV ldD addO appTo fillL slA srcK nilQ retW gif sgd sguard svc sops sdops sagain aopO aLoad aStore aBin aUn aConv aLen aIndexAddr aIndex aIndexAddrS aIndexS aSlice aAppend aBuild aBuildSlice aMakeSlice aField aFieldOf aCallOp deepK deepL frzM putE newK newV growV ACall roundQ thenQ inBlockQ sret cnd szs nilC onMap onRow aLookup aMapUpdate aMakeMap
attribute [local go_sem] Int.natCast_zero
/-- None of these stands ahead of itself. -/
def noTwice : List ByteArray → List ByteArray → Bool
 | _, [] => true
 | pre, v :: vs => !(pre.any fun x => decide (x = v)) && noTwice (pre ++ [v]) vs
def ctWell (l : List It) (vars : List ByteArray) (c : Ct) : Bool := decide (((rctors l ⟨c.name, c.args.length⟩ : Nat) : Int) = 1) && tyOks l true vars c.args
def wellType (l : List It) (it : It) : Bool := (decide ((l.countP (tyOf it.name) : Int) = 1) && noTwice [] it.vars) && it.ctors.all (ctWell l it.vars)
def wellPred (l : List It) (it : It) : Bool := ((!isBuiltin (keyOf it) && decide ((rcount l 2 (keyOf it) : Int) = 1)) && !decide ((rcount l 3 (keyOf it) : Int) = 0)) && tyOks l false [] it.types
def other (i : Nat) (q : Ky) (w : List Bool) (k : Nat) (x : It) : Bool := !decide ((k : Int) = (i : Int)) && (decide (x.kind = 3) && (Ky.eqb (keyOf x) q && sameWays x.ways w))
def noOther (i : Nat) (q : Ky) (w : List Bool) : Nat → List It → Bool
 | _, [] => true
 | k, x :: xs => !other i q w k x && noOther i q w (k + 1) xs
def wellMode (l : List It) (i : Nat) (it : It) : Bool := (!isBuiltin (keyOf it) && !decide ((rcount l 2 (keyOf it) : Int) = 0)) && noOther i (keyOf it) it.ways 0 l
def wellClause (l : List It) (it : It) : Bool := ((!isBuiltin (keyOf it) && !decide ((rcount l 2 (keyOf it) : Int) = 0)) && glOk l it.body) && tmOks l it.args
def rwell (l : List It) (i : Nat) (it : It) : Bool :=
 if it.kind = 1 then wellType l it else if it.kind = 2 then wellPred l it else if it.kind = 3 then wellMode l i it else if it.kind = 4 then wellClause l it else true
/-- An item whose rows are not too long. -/
structure It.small (it : It) : Prop where
 vars : it.vars.length ≤ 32768
 nct : it.ctors.length ≤ 32768
 ctors : ∀ c ∈ it.ctors, c.args.length ≤ 32768 ∧ Ty.smalls c.args
 types : it.types.length ≤ 32768 ∧ Ty.smalls it.types
 ways : it.ways.length ≤ 32768
 args : it.args.length ≤ 32768 ∧ Tm.smalls it.args
 body : it.body.small
end Go.Aug

/- The layer of names: the reference's index. -/
namespace Go.Aug
open Go.Proofs
set_option maxRecDepth 100000
set_option linter.unusedSimpArgs false
attribute [local irreducible] hid andK letA onSome onVar onArr arrOnly onInt onBool onFunc onTup idxA ldV ldD addO appTo fillL slA srcK nilQ retW gif sgd sguard svc sops sdops sagain aopO aLoad aStore aBin aUn aConv aLen aIndexAddr aIndex aIndexAddrS aIndexS aSlice aAppend aBuild aBuildSlice aMakeSlice aField aFieldOf aCallOp deepK deepL frzM putE newK newV growV ACall roundQ thenQ inBlockQ sret cnd szs nilC onMap onRow aLookup aMapUpdate aMakeMap
attribute [local go_sem] Int.natCast_zero
structure Cr where
 key : Ky
 type : ByteArray
 vars : List ByteArray
 args : List Ty
 tag : Int
def Cr.cs (c : Cr) : List D := [.str c.key.name, .int .i64 c.key.ar, .str c.type, .slice (c.vars.map .str), .slice (c.args.map Ty.d), .int .i64 c.tag]
def Cr.d (c : Cr) : D := .agg c.cs
structure Ix where
 types : List It
 ctors : List Cr
 preds : List Pr
def Ix.cs (x : Ix) : List D := [.slice (x.types.map It.d), .slice (x.ctors.map Cr.d), .slice (x.preds.map Pr.d)]
def Ix.d (x : Ix) : D := .agg x.cs
def ctsFrom (it : It) : Nat → List Ct → List Cr
 | _, [] => []
 | k, c :: cs => ⟨⟨c.name, c.args.length⟩, it.name, it.vars, c.args, k⟩ :: ctsFrom it (k + 1) cs
theorem ctsFrom_len (it : It) : ∀ (k : Nat) (cs : List Ct), (ctsFrom it k cs).length = cs.length
 | _, [] => rfl
 | k, c :: cs => by simp [ctsFrom, ctsFrom_len it (k + 1) cs]
def modesOf (l : List It) (q : Ky) : List Md := (l.filter (isOf 3 q)).map fun y => ⟨y.ways, y.det⟩
def clsFrom (q : Ky) : Nat → List It → List Int
 | _, [] => []
 | j, y :: ys => if isOf 4 q y = true then (j : Int) :: clsFrom q (j + 1) ys else clsFrom q (j + 1) ys
def prOf (l : List It) (it : It) : Pr := ⟨keyOf it, it.types, modesOf l (keyOf it), clsFrom (keyOf it) 0 l⟩
def rstep (l : List It) (x : Ix) (it : It) : Ix :=
 if it.kind = 1 then ⟨x.types ++ [it], x.ctors ++ ctsFrom it 0 it.ctors, x.preds⟩
 else if it.kind = 2 then ⟨x.types, x.ctors, x.preds ++ [prOf l it]⟩ else x
def rfrom (l : List It) : Nat → List It → Ix → Option Ix
 | _, [], x => some x
 | i, it :: rest, x => if rwell l i it = true then rfrom l (i + 1) rest (rstep l x it) else none
/-- A source's index; none: it is not well named. -/
def rresolve (l : List It) : Option Ix := rfrom l 0 l ⟨[], [], builtinsL⟩
def ixD (o : Option Ix) : D := (o.getD ⟨[], [], []⟩).d
abbrev pcT (l : List It) (a : A) : Pc := ⟨68, 20, l.map It.d, a⟩
abbrev pcC (l : List Cr) (a : A) : Pc := ⟨81, 6, l.map Cr.d, a⟩
abbrev pcM (l : List Md) (a : A) : Pc := ⟨117, 2, l.map Md.d, a⟩
abbrev pcI (l : List Int) (a : A) : Pc := ⟨3, 1, l.map (.int .i64), a⟩
/-- A source that the reference's names take. -/
structure Srcs (l : List It) : Prop where
 len : l.length ≤ 1048576
 small : ∀ it ∈ l, it.small
end Go.Aug

/- The layer of names: what is read is not too long; a text's items and index. -/
namespace Go.Aug
open Nat renaming reduceBEq → zA, reduceLT → zB, reduceAdd → zC, reduceSub → zD, reduceMul → zE, reduceLeDiff → zF
open Int renaming reduceLE → zG
open Go.Proofs
set_option maxRecDepth 100000
set_option linter.unusedSimpArgs false
attribute [local irreducible] hid andK letA onSome onVar onArr arrOnly onInt onBool onFunc onTup idxA ldV ldD addO appTo fillL slA srcK nilQ retW gif sgd sguard svc sops sdops sagain aopO aLoad aStore aBin aUn aConv aLen aIndexAddr aIndex aIndexAddrS aIndexS aSlice aAppend aBuild aBuildSlice aMakeSlice aField aFieldOf aCallOp deepK deepL frzM putE newK newV growV ACall roundQ thenQ inBlockQ sret cnd szs nilC onMap onRow aLookup aMapUpdate aMakeMap
attribute [local go_sem] Int.natCast_zero
theorem rargs_all {α : Type} {P : α → Prop} {p : RdS → α × RdS} {l : List Tok} (hp : ∀ s, P (p s).1) : ∀ (k : Nat) (xs : List α) (s : RdS), (∀ x ∈ xs, P x) → ∀ x ∈ (rargs p l k xs s).1, P x
 | 0, xs, s, h => h
 | k + 1, xs, s, h => by
  simp only [rargs]
  repeat' split
  ·refine rargs_all hp k _ _ fun x hx => ?_
   rcases List.mem_append.1 hx with hx | hx
   ·exact h x hx
   ·rw [List.mem_singleton.1 hx]; exact hp _
  ·exact h
  ·exact h
theorem rargs_length {α : Type} {p : RdS → α × RdS} {l : List Tok} : ∀ (k : Nat) (xs : List α) (s : RdS), (rargs p l k xs s).1.length ≤ xs.length + k
 | 0, xs, s => Nat.le_refl _
 | k + 1, xs, s => by
  simp only [rargs]
  repeat' split
  ·have := rargs_length (p := p) (l := l) k (xs ++ [(p (rmore l xs.length s).2).1]) (p (rmore l xs.length s).2).2
   simp only [List.length_append, List.length_cons, List.length_nil] at this; omega
  ·simp only; omega
  ·simp only; omega
theorem Tm.smalls_of : ∀ {ts : List Tm}, (∀ t ∈ ts, t.small) → Tm.smalls ts
 | [], _ => trivial
 | _ :: _, h => ⟨h _ (.head _), Tm.smalls_of fun t ht => h t (.tail _ ht)⟩
theorem Ty.smalls_of : ∀ {ts : List Ty}, (∀ t ∈ ts, t.small) → Ty.smalls ts
 | [], _ => trivial
 | _ :: _, h => ⟨h _ (.head _), Ty.smalls_of fun t ht => h t (.tail _ ht)⟩
theorem Gl.smalls_of : ∀ {ts : List Gl}, (∀ t ∈ ts, t.small) → Gl.smalls ts
 | [], _ => trivial
 | _ :: _, h => ⟨h _ (.head _), Gl.smalls_of fun t ht => h t (.tail _ ht)⟩
theorem Tm.small_leaf (k : Int) (n : ByteArray) (i : Int) : (Tm.mk k n i []).small := by simp [Tm.small, Tm.smalls]
theorem Ty.small_leaf (v : Bool) (n : ByteArray) : (Ty.mk v n []).small := by simp [Ty.small, Ty.smalls]
theorem rterm_small {l : List Tok} : ∀ (f n : Nat) (s : RdS), (rterm f l n s).1.small
 | 0, _, _ => Tm.small_leaf _ _ _
 | f + 1, n, s => by
  have hrow : ∀ s, (Tm.mk 3 (rword l 1 (rnest l n s)).1 0 (rargs (rterm f l (n + 1)) l 10 [] (rword l 1 (rnest l n s)).2).1).small := fun s => by
   refine ⟨?_, Tm.smalls_of (rargs_all (fun s => rterm_small f (n + 1) s) 10 [] _ (by simp))⟩
   have := rargs_length (p := rterm f l (n + 1)) (l := l) 10 [] (rword l 1 (rnest l n s)).2
   simp only [List.length_nil] at this; omega
  simp only [rterm]
  split
  ·split
   ·exact Tm.small_leaf _ _ _
   ·split
    ·exact Tm.small_leaf _ _ _
    ·exact hrow s
  ·exact hrow s
theorem rtype_small {l : List Tok} : ∀ (f n : Nat) (s : RdS), (rtype f l n s).1.small
 | 0, _, _ => Ty.small_leaf _ _
 | f + 1, n, s => by
  have hrow : ∀ nm s, (Ty.mk false nm (rargs (rtype f l (n + 1)) l 10 [] s).1).small := fun nm s => by
   refine ⟨?_, Ty.smalls_of (rargs_all (fun s => rtype_small f (n + 1) s) 10 [] _ (by simp))⟩
   have := rargs_length (p := rtype f l (n + 1)) (l := l) 10 [] s
   simp only [List.length_nil] at this; omega
  simp only [rtype]
  repeat' split
  all_goals first
   | exact Ty.small_leaf _ _
   | exact hrow _ _
theorem Tm.small_none : Tm.none.small := Tm.small_leaf _ _ _
theorem rands_all {P : Gl → Prop} {p : RdS → Gl × RdS} {l : List Tok} (hp : ∀ s, P (p s).1) : ∀ (k : Nat) (gs : List Gl) (s : RdS), (∀ x ∈ gs, P x) → ∀ x ∈ (rands p l k gs s).1, P x
 | 0, gs, s, h => h
 | k + 1, gs, s, h => by
  simp only [rands]
  split
  ·refine rands_all hp k _ _ fun x hx => ?_
   rcases List.mem_append.1 hx with hx | hx
   ·exact h x hx
   ·rw [List.mem_singleton.1 hx]; exact hp _
  ·exact h
theorem rands_length {p : RdS → Gl × RdS} {l : List Tok} : ∀ (k : Nat) (gs : List Gl) (s : RdS), (rands p l k gs s).1.length ≤ gs.length + k
 | 0, gs, s => Nat.le_refl _
 | k + 1, gs, s => by
  simp only [rands]
  split
  ·have := rands_length (p := p) (l := l) k (gs ++ [(p (rgot l kComma s).2).1]) (p (rgot l kComma s).2).2
   simp only [List.length_append, List.length_cons, List.length_nil] at this; omega
  ·simp only; omega
theorem Gl.small_none (k : Int) : (Gl.mk k .none .none ⟨#[]⟩ [] []).small := by
 simp [Gl.small, Gl.smalls, Tm.smalls, Tm.small_none]
theorem Gl.small_row (k : Int) {gs : List Gl} (h : ∀ g ∈ gs, g.small) (hl : gs.length ≤ 32768) : (Gl.mk k .none .none ⟨#[]⟩ [] gs).small := by
 simp only [Gl.small, Tm.smalls, List.length_nil]
 exact ⟨Tm.small_none, Tm.small_none, by omega, trivial, hl, Gl.smalls_of h⟩
theorem headD_all {P : Gl → Prop} {gs : List Gl} (h : ∀ g ∈ gs, P g) (hd : P default) : P (gs.headD default) := by
 cases gs with
 | nil => exact hd
 | cons g gs => exact h g (.head _)
theorem rway_small {p : RdS → Gl × RdS} {l : List Tok} (hl : l.length ≤ 16384) (hp : ∀ s, (p s).1.small) (s : RdS) : (rway p l s).1.small := by
 simp only [rway, allOf]
 have h1 := rands_all (l := l) hp l.length [(p s).1] (p s).2 (by simp [hp])
 have h2 := rands_length (p := p) (l := l) l.length [(p s).1] (p s).2
 simp only [List.length_cons, List.length_nil] at h2
 split
 ·exact Gl.small_row 5 h1 (by omega)
 ·exact headD_all h1 (Gl.small_none _)
theorem rors_all {p : RdS → Gl × RdS} {l : List Tok} (hl : l.length ≤ 16384) (hp : ∀ s, (p s).1.small) : ∀ (k : Nat) (os : List Gl) (s : RdS), (∀ x ∈ os, x.small) → ∀ x ∈ (rors p l k os s).1, x.small
 | 0, os, s, h => h
 | k + 1, os, s, h => by
  have h2 : ∀ x ∈ os ++ [(rway p l s).1], x.small := fun x hx => by
   rcases List.mem_append.1 hx with hx | hx
   ·exact h x hx
   ·rw [List.mem_singleton.1 hx]; exact rway_small hl hp s
  simp only [rors]
  repeat' split
  ·exact rors_all hl hp k _ _ h2
  ·exact h2
  ·exact h
theorem rors_length {p : RdS → Gl × RdS} {l : List Tok} : ∀ (k : Nat) (os : List Gl) (s : RdS), (rors p l k os s).1.length ≤ os.length + k
 | 0, os, s => Nat.le_refl _
 | k + 1, os, s => by
  simp only [rors]
  repeat' split
  ·have := rors_length (p := p) (l := l) k (os ++ [(rway p l s).1]) (rgot l kSemi (rway p l s).2).2
   simp only [List.length_append, List.length_cons, List.length_nil] at this; omega
  ·simp only [List.length_append, List.length_cons, List.length_nil]; omega
  ·simp only; omega
theorem rgoalW_small {p : RdS → Gl × RdS} {l : List Tok} (hl : l.length ≤ 16384) (hp : ∀ s, (p s).1.small) (s : RdS) : (rgoalW p l s).1.small := by
 simp only [rgoalW, anyOf]
 have h1 := rors_all hl hp (l.length + 1) [] s (by simp)
 have h2 := rors_length (p := p) (l := l) (l.length + 1) [] s
 simp only [List.length_nil] at h2
 split
 ·exact headD_all h1 (Gl.small_none _)
 ·exact Gl.small_row 6 h1 (by omega)
theorem Tm.small_args {t : Tm} (h : t.small) : t.args.length ≤ 32768 ∧ Tm.smalls t.args := by
 cases t; exact h
theorem rprim_small {l : List Tok} (hl : l.length ≤ 16384) : ∀ (f n : Nat) (s : RdS), (rprim f l n s).1.small
 | 0, _, _ => Gl.small_none _
 | f + 1, n, s => by
  have ih := fun s => rprim_small hl f (n + 1) s
  simp only [rprim]
  repeat' split
  ·exact Gl.small_none _
  ·exact Gl.small_none _
  ·exact Gl.small_row 7 (by simp [ih]) (by simp)
  ·simp only [Gl.small, Tm.smalls, Gl.smalls, List.length_nil]
   exact ⟨rterm_small _ _ _, Tm.small_none, by omega, trivial, by omega, trivial⟩
  ·simp only [rtry, Gl.small, Tm.smalls, Gl.smalls, List.length_nil, List.length_cons]
   exact ⟨Tm.small_none, Tm.small_none, by omega, trivial, by omega, ih _, ih _, trivial⟩
  ·exact rgoalW_small hl ih _
  ·simp only [rcall]
   split
   ·simp only [Gl.small, Tm.smalls, Gl.smalls, List.length_nil]
    exact ⟨rterm_small _ _ _, rterm_small _ _ _, by omega, trivial, by omega, trivial⟩
   ·have := Tm.small_args (rterm_small (l := l) f (n + 1) (rnest l n s))
    simp only [Gl.small, Gl.smalls, List.length_nil]
    exact ⟨Tm.small_none, Tm.small_none, this.1, this.2, by omega, trivial⟩
theorem rctor_small {l : List Tok} (s : RdS) : (rctor l s).1.args.length ≤ 32768 ∧ Ty.smalls (rctor l s).1.args := by
 refine ⟨?_, Ty.smalls_of (rargs_all (fun s => rtype_small 66 1 s) 10 [] _ (by simp))⟩
 have := rargs_length (p := rtype 66 l 1) (l := l) 10 [] (rword l 1 s).2
 simp only [List.length_nil] at this; simp only [rctor]; omega
theorem rbars_all {P : Ct → Prop} {l : List Tok} (hp : ∀ s, P (rctor l s).1) : ∀ (k : Nat) (cs : List Ct) (s : RdS), (∀ x ∈ cs, P x) → ∀ x ∈ (rbars l k cs s).1, P x
 | 0, cs, s, h => h
 | k + 1, cs, s, h => by
  simp only [rbars]
  split
  ·refine rbars_all hp k _ _ fun x hx => ?_
   rcases List.mem_append.1 hx with hx | hx
   ·exact h x hx
   ·rw [List.mem_singleton.1 hx]; exact hp _
  ·exact h
theorem rbars_length {l : List Tok} : ∀ (k : Nat) (cs : List Ct) (s : RdS), (rbars l k cs s).1.length ≤ cs.length + k
 | 0, cs, s => Nat.le_refl _
 | k + 1, cs, s => by
  simp only [rbars]
  split
  ·have := rbars_length (l := l) k (cs ++ [(rctor l (rgot l kBar s).2).1]) (rctor l (rgot l kBar s).2).2
   simp only [List.length_append, List.length_cons, List.length_nil] at this; omega
  ·simp only; omega
theorem ritem_small {l : List Tok} (hl : l.length ≤ 16384) (s : RdS) : (ritem l s).1.small := by
 have z : (default : It).small := ⟨by decide, by decide, by simp [default, instInhabitedIt], ⟨by decide, trivial⟩, by decide, ⟨by decide, trivial⟩, Gl.small_none 0⟩
 have rl : ∀ {α : Type} (p : RdS → α × RdS) (s : RdS), (rargs p l 10 [] s).1.length ≤ 32768 := fun p s => by
  have := rargs_length (p := p) (l := l) 10 [] s
  simp only [List.length_nil] at this; omega
 unfold ritem
 repeat' split
 ·simp only [ritType]
  refine ⟨rl _ _, ?_, ?_, z.types, z.ways, z.args, z.body⟩
  ·exact Nat.le_trans (rbars_length _ _ _) (by simp only [List.length_cons, List.length_nil]; omega)
  ·exact rbars_all (fun s => rctor_small s) _ _ _ (by simp only [List.mem_singleton]; rintro c rfl; exact rctor_small _)
 ·simp only [ritPred]
  exact ⟨z.vars, z.nct, z.ctors, ⟨rl _ _, Ty.smalls_of (rargs_all (fun s => rtype_small 66 1 s) 10 [] _ (by simp))⟩, z.ways, z.args, z.body⟩
 ·simp only [ritMode]
  exact ⟨z.vars, z.nct, z.ctors, z.types, rl _ _, z.args, z.body⟩
 ·simp only [ritClause]
  have ha := Tm.smalls_of (rargs_all (l := l) (fun s => rterm_small (l := l) 66 1 s) 10 [] (rword l 1 s).2 (by simp))
  split
  ·exact ⟨z.vars, z.nct, z.ctors, z.types, z.ways, ⟨rl _ _, ha⟩, rgoalW_small hl (fun s => rprim_small hl 66 1 s) _⟩
  ·exact ⟨z.vars, z.nct, z.ctors, z.types, z.ways, ⟨rl _ _, ha⟩, Gl.small_none 1⟩
theorem ritems_all {P : It → Prop} {l : List Tok} (hp : ∀ s, P (ritem l s).1) : ∀ (k : Nat) (is : List It) (s : RdS), (∀ x ∈ is, P x) → ∀ x ∈ (ritems l k is s).1, P x
 | 0, is, s, h => h
 | k + 1, is, s, h => by
  simp only [ritems]
  repeat' split
  ·exact h
  ·exact h
  ·refine ritems_all hp k _ _ fun x hx => ?_
   rcases List.mem_append.1 hx with hx | hx
   ·exact h x hx
   ·rw [List.mem_singleton.1 hx]; exact hp _
theorem ritems_length {l : List Tok} : ∀ (k : Nat) (is : List It) (s : RdS), is.length ≤ 512 → (ritems l k is s).1.length ≤ 512
 | 0, is, s, h => h
 | k + 1, is, s, h => by
  simp only [ritems]
  repeat' split
  ·exact h
  ·exact h
  ·exact ritems_length k _ _ (by simp only [List.length_append, List.length_cons, List.length_nil]; omega)
/-- The items of a text; the error's number. -/
def rtext (s : ByteArray) : List It × Int := rsource (rlex s).1 (rlex s).2
theorem rtext_srcs (s : ByteArray) : Srcs (rtext s).1 := by
 unfold rtext rsource
 simp only
 split
 ·exact ⟨by simp, by simp⟩
 ·exact ⟨Nat.le_trans (ritems_length _ _ _ (by simp)) (by omega), ritems_all (fun s => ritem_small (rlex_len _) s) _ _ _ (by simp)⟩
theorem rtext_len (s : ByteArray) : (rtext s).1.length ≤ 512 := by
 unfold rtext rsource
 simp only
 split
 ·simp
 ·exact ritems_length _ _ _ (by simp)
theorem read04_ok {eb : EbG} (H : Heap) (s : ByteArray) (K : A → Heap → Prop) (hK : K (.tup [.d (.slice ((rtext s).1.map It.d)), .d (.bool (decide ((rtext s).2 = 0)))]) H) :
  ACall Tryd.prog (seatV eb) 18 [.d (.str s)] H K := by
 refine ACall.by mixed fn18 (by simp) ?_
 conv in s18 => cbv
 refine svc_start ?_
 simp -dsimp (maxDischargeDepth := 9) only [go_sem, zA, zB, zC, zD, zE, zF, zG, gS]
 refine source_ok _ s _ ?_
 simp -dsimp (maxDischargeDepth := 9) only [go_sem, zA, zB, zC, zD, zE, zF, zG, gS]
 exact retW_is hK
end Go.Aug
