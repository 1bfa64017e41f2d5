/- The contracts of the reference's names: keys, counts, what is well named, the index; conditions stand in each contract. -/
import Derived.Test.YtejfagblpbmokaaDoorNamesOne
import Derived.Test.YtejfagblpbmokaaDoorAugSeven
import Derived.Test.YtejfagblpbmokaaDoorRunTwo
set_option linter.all false
set_option linter.unusedVariables false
set_option linter.unusedSimpArgs false
set_option linter.unusedSectionVars false

/- The layer of names: the built in predicates. -/
namespace Go.Aug
open Go.Proofs
set_option maxRecDepth 100000
set_option linter.unusedSimpArgs false
attribute [local irreducible] hid andK letA onSome onVar onArr arrOnly onInt onBool onTup idxA ldV ldD addO appTo fillL slA srcK nilQ retW gif sgd sguard svc sops sdops sagain aopO aLoad aStore aBin aUn aConv aLen aIndexAddr aIndex aIndexAddrS aIndexS aSlice aAppend aBuild aBuildSlice aMakeSlice aField aFieldOf aCallOp deepK deepL frzM putE newK newV growV ACall roundQ thenQ inBlockQ sret cnd szs nilC onMap onRow aLookup aMapUpdate aMakeMap
attribute [local go_sem] Int.natCast_zero
structure Md where
 ways : List Bool
 det : Int
 deriving Inhabited, DecidableEq
def Md.cs (m : Md) : List D := [.slice (m.ways.map .bool), .int .i64 m.det]
def Md.d (m : Md) : D := .agg m.cs
structure Pr where
 key : Ky
 types : List Ty
 modes : List Md
 clauses : List Int
 deriving Inhabited
def Pr.cs (p : Pr) : List D := [.str p.key.name, .int .i64 p.key.ar, .slice (p.types.map Ty.d), .slice (p.modes.map Md.d), .slice (p.clauses.map (.int .i64))]
def Pr.d (p : Pr) : D := .agg p.cs
def tyInt : Ty := .mk false kInt []
def bArith (n : ByteArray) : Pr := ⟨⟨n, 3⟩, [tyInt, tyInt, tyInt], [⟨[true, true, false], 1⟩], []⟩
def bLess (n : ByteArray) : Pr := ⟨⟨n, 2⟩, [tyInt, tyInt], [⟨[true, true], 2⟩], []⟩
def builtinsL : List Pr := [bArith ⟨#[97, 100, 100]⟩, bArith ⟨#[115, 117, 98]⟩, bArith ⟨#[109, 117, 108]⟩, bArith ⟨#[100, 105, 118]⟩, bArith ⟨#[109, 111, 100]⟩, bLess ⟨#[108, 116]⟩, bLess ⟨#[108, 101]⟩]
abbrev pcP (l : List Pr) (a : A) : Pc := ⟨36, 5, l.map Pr.d, a⟩
abbrev pcT0 (l : List Ty) (a : A) : Pc := ⟨135, 3, l.map Ty.d, a⟩
def bNames : List ByteArray := [⟨#[97, 100, 100]⟩, ⟨#[115, 117, 98]⟩, ⟨#[109, 117, 108]⟩, ⟨#[100, 105, 118]⟩, ⟨#[109, 111, 100]⟩, ⟨#[108, 116]⟩, ⟨#[108, 101]⟩]
def bOf (j : Nat) (n : ByteArray) : Pr := if 4 < j then bLess n else bArith n
theorem builtins_at {j : Nat} {n : ByteArray} (h : bNames[j]? = some n) : builtinsL.take (j + 1) = builtinsL.take j ++ [bOf j n] := by
 match j, h with
 | 0, h => cases h; rfl
 | 1, h => cases h; rfl
 | 2, h => cases h; rfl
 | 3, h => cases h; rfl
 | 4, h => cases h; rfl
 | 5, h => cases h; rfl
 | 6, h => cases h; rfl
 | j + 7, h => simp [bNames] at h
set_option maxHeartbeats 8000000 in
theorem preds04_own {eb : EbG} (H : Heap) : ACall Tryd.prog (seatV eb) 54 [] H fun r H' => ∃ b v, r = .own b v ∧ H b = none ∧ v.ownBlock = some b ∧ H' = upd H b (.arr 36 5 v (builtinsL.map Pr.d)) := by
 refine ACall.hp_start ?_
 refine ACall.by mixed fn54 (by simp) ?_
 conv in s54 => cbv
 refine svc_start ?_
 simp -dsimp only [go_sem, gS]
 refine newV_hp (fun b6 v6 f6 w6 => ?_)
 simp only [off_cons, off_nil] at f6
 simp -dsimp only [go_sem, gS, f6]
 refine newV_hp (fun b7 v7 f7 w7 => ?_)
 simp only [off_cons, off_nil] at f7
 simp -dsimp only [go_sem, gS, f6, f7, List.length_cons, List.length_nil]
 have hacc0 : AccN H [] [pcP [] (.own b6 v6)] (upd H b6 (.arr 36 5 v6 [])) := (AccN.none H []).new (by simp only [hpS, eq_self, implies_true, ]) f6 w6
 have h0 : upd H b6 (.arr 36 5 v6 []) b7 = none := upd_eq_none.2 ⟨eqn_false f7.1, f7.2.2⟩
 have hE : bNames.map D.str = [.str ⟨#[97, 100, 100]⟩, .str ⟨#[115, 117, 98]⟩, .str ⟨#[109, 117, 108]⟩, .str ⟨#[100, 105, 118]⟩, .str ⟨#[109, 111, 100]⟩, .str ⟨#[108, 116]⟩, .str ⟨#[108, 101]⟩] := rfl
 have hlen : bNames.length = 7 := rfl
 refine svc_loop (X := Nat × A × Heap) (fun y => [(1, y.2.1), (7, .own b7 v7), (8, .d (.int .i64 ((7 : Nat) : Int))), (9, .d (.int .i64 y.1))])
  (fun y G => G = hp y.2.2 [(b7, .arr 9 1 v7 (bNames.map D.str))] ∧ AccN H [] [pcP (builtinsL.take y.1) y.2.1] y.2.2 ∧ y.2.2 b7 = none ∧ y.1 ≤ 7) (fun y => 7 - y.1) (0, .own b6 v6, upd H b6 (.arr 36 5 v6 [])) _ ⟨rfl, hacc0, h0, Nat.zero_le _⟩ (by simp -dsimp only [go_sem, gS]) (by rw [hp_base (by simp only [hpS, eq_self, implies_true, f7])]; exact (leH_hp (by simp only [hpS, eq_self, implies_true, f6, f7, hE, setL_cons, setL_nil]) (by simp only [hpS, eq_self, implies_true, f6, f7, hE, setL_cons, setL_nil]))) ?_
 clear hacc0 h0
 rintro ⟨j, a, R⟩ G ⟨hG, hacc, h7, hj⟩
 simp only at hG hacc h7 hj
 subst hG
 simp -dsimp only [go_sem, gS]
 refine gif_split (fun q1 => ?_) (fun q1 => ?_)
 ·have q1' : j < bNames.length := by have := of_decide_eq_true q1; omega
  obtain ⟨n, hx⟩ := list_at q1'
  have hw := wrapN (k := j) (by omega)
  simp -dsimp only [go_sem, gS, q1, q1', hx, f7, h7, Option.map_some]
  refine newV_hp (fun b16 v16 f16 w16 => ?_)
  simp only [off_cons, off_nil] at f16
  simp -dsimp only [go_sem, gS, f7, h7, f16]
  refine newV_hp (fun b18 v18 f18 w18 => ?_)
  simp only [off_cons, off_nil] at f18
  simp -dsimp only [go_sem, gS, f7, h7, f16, f18]
  refine newK_hp (fun b4 f4 => ?_)
  simp only [off_cons, off_nil] at f4
  simp -dsimp only [go_sem, gS, f7, h7, f16, f18, f4]
  refine gif_split (fun q3 => ?_) (fun q3 => ?_)
  ·have e3 : 4 < j := by have := of_decide_eq_true q3; omega
   have hb : (bOf j n).d = .agg [.str n, .int .i64 2, .slice ((List.replicate 2 tyInt).map Ty.d), .slice [.agg [.slice [.bool true, .bool true], .int .i64 2]], .slice []] := by rw [bOf, if_pos e3]; rfl
   simp -dsimp only [go_sem, gS, q3, f7, h7, f16, f18, f4]
   refine newV_hp (fun b24 v24 f24 w24 => ?_)
   simp only [off_cons, off_nil] at f24
   simp -dsimp only [go_sem, gS, f7, h7, f16, f18, f4, f24]
   refine newV_hp (fun b26 v26 f26 w26 => ?_)
   simp only [off_cons, off_nil] at f26
   simp -dsimp only [go_sem, gS, f7, h7, f16, f18, f4, f24, f26]
   have h4 := f4.2.2.2.2.2.2
   have hM := f26.2.2.2.2.2.2.2.2.2.2
   refine svc_loop (X := Nat × A × Heap) (fun y => [(1, a), (4, .ref b4 0), (5, .d (.int .i64 y.1)), (7, .own b7 v7), (8, .d (.int .i64 ((7 : Nat) : Int))), (9, .d (.int .i64 j))])
    (fun y G => G = hp y.2.2 [(b7, .arr 9 1 v7 (bNames.map D.str)), (b4, .var [.d (.str n), .d (.int .i64 2), y.2.1, .own b26 v26, .nils]), (b26, .arr 117 2 v26 [.agg [.slice [.bool true, .bool true], .int .i64 2]])] ∧ AccN H [] [pcT0 (List.replicate y.1 tyInt) y.2.1, pcP (builtinsL.take j) a] y.2.2 ∧ (y.2.2 b7 = none ∧ y.2.2 b4 = none ∧ y.2.2 b26 = none) ∧ y.1 ≤ 2) (fun y => 2 - y.1) (0, .nils, R) _ ⟨rfl, hacc.nil _ _, ⟨h7, h4, hM⟩, Nat.zero_le _⟩ (by simp -dsimp only [go_sem, gS]) (leH_hp (by simp only [hpS, eq_self, implies_true, f7, h7, f16, f18, f4, f24, f26]) (by simp only [hpS, eq_self, implies_true, f7, h7, f16, f18, f4, f24, f26])) ?_
   rintro ⟨i, tv, R2⟩ G ⟨hG, hacc2, ⟨g7, g4, gM⟩, hi⟩
   simp only at hG hacc2 g7 g4 gM hi
   subst hG
   simp -dsimp only [go_sem, gS, f7, f4, f26, g7, g4, gM]
   refine gif_split (fun q2 => ?_) (fun q2 => ?_)
   ·have q2' : i < 2 := by have := of_decide_eq_true q2; omega
    have hwi := wrapN (k := i) (by omega)
    simp -dsimp only [go_sem, gS, q2, f7, f4, f26, g7, g4, gM]
    refine newV_hp (fun b38 v38 f38 w38 => ?_)
    simp only [off_cons, off_nil] at f38
    simp -dsimp only [go_sem, gS, f7, f4, f26, g7, g4, gM, f38]
    refine AccN.appTo (pre := []) (p := pcT0 (List.replicate i tyInt) tv) (post := [pcP (builtinsL.take j) a]) (ns := [tyInt.d]) hacc2 (by simp only [hpS, eq_self, implies_true, f7, f4, f26, g7, g4, gM, f38]) (by simp only [hpS, eq_self, implies_true, ]) (by simp only [List.length_map, List.length_replicate, List.length_cons, List.length_nil]; omega) (fun tv' R3 hacc3 hn3 => ?_)
    have k7 := hn3 b7 (by simp only [hpS, eq_self, implies_true, f7, f4, f26]) g7
    have k4 := hn3 b4 (by simp only [hpS, eq_self, implies_true, f7, f4, f26]) g4
    have kM := hn3 b26 (by simp only [hpS, eq_self, implies_true, f7, f4, f26]) gM
    have k38 := hn3 b38 (by simp only [hpS, eq_self, implies_true, f7, f4, f26, f38]) f38.2.2.2.2.2.2
    have o1 := AccN.one (pre := []) hacc3
    simp only at o1
    simp -dsimp only [go_sem, gS, f7, f4, f26, f38, k7, k4, kM, k38, o1, List.length_cons, List.length_nil, hwi]
    have hacc4 : AccN H [] [pcT0 (List.replicate (i + 1) tyInt) tv', pcP (builtinsL.take j) a] R3 := by
     rw [pcT0, List.replicate_succ', List.map_append]; exact hacc3
    refine roundQ_next (i + 1, tv', R3) _ ⟨rfl, hacc4, ⟨k7, k4, kM⟩, q2'⟩ (by simp only; omega) (by simp -dsimp only [go_sem, gS]) (leH_hp (by simp only [hpS, eq_self, implies_true, f7, f4, f26, f38, k7, k4, kM, k38]) (by simp only [hpS, eq_self, implies_true, f7, f4, f26, f38, k7, k4, kM, k38]))
   ·have q2' : i = 2 := by have := of_decide_eq_false q2; omega
    subst q2'
    simp -dsimp only [go_sem, gS, q2, f7, f4, f26, g7, g4, gM]
    have hal := AccN.allD (pre := []) (t := [.own b26 v26, .nils]) hacc2
    simp only at hal
    simp -dsimp only [go_sem, gS, f7, f4, f26, g7, g4, gM, hal]
    refine AccN.deep (pre := []) (p := pcT0 (List.replicate 2 tyInt) tv) (post := [pcP (builtinsL.take j) a]) hacc2 (by simp only [hpS, eq_self, implies_true, f7, f4, f26, g7, g4, gM]) (fun R4 hacc3 hn3 => ?_)
    have k7 := hn3 b7 g7
    have k4 := hn3 b4 g4
    have kM := hn3 b26 gM
    simp -dsimp only [go_sem, gS, f7, f4, f26, k7, k4, kM]
    refine newV_hp (fun b43 v43 f43 w43 => ?_)
    simp only [off_cons, off_nil] at f43
    simp -dsimp only [go_sem, gS, f7, f4, f26, k7, k4, kM, f43]
    rw [← hb]
    refine AccN.appTo (pre := []) (p := pcP (builtinsL.take j) a) (post := []) (ns := [(bOf j n).d]) hacc3 (by simp only [hpS, eq_self, implies_true, f7, f4, f26, k7, k4, kM, f43]) (by simp only [hpS, eq_self, implies_true, ]) (by simp only [List.length_map, List.length_take, List.length_cons, List.length_nil]; omega) (fun a' R5 hacc4 hn4 => ?_)
    have m7 := hn4 b7 (by simp only [hpS, eq_self, implies_true, f7, f4, f26]) k7
    have m4 := hn4 b4 (by simp only [hpS, eq_self, implies_true, f7, f4, f26]) k4
    have mM := hn4 b26 (by simp only [hpS, eq_self, implies_true, f7, f4, f26]) kM
    have m43 := hn4 b43 (by simp only [hpS, eq_self, implies_true, f7, f4, f26, f43]) f43.2.2.2.2.2.2
    simp -dsimp only [go_sem, gS, f7, f4, f26, f43, m7, m4, mM, m43, hw]
    have hacc5 : AccN H [] [pcP (builtinsL.take (j + 1)) a'] R5 := by
     rw [builtins_at hx, pcP, List.map_append]; exact hacc4
    refine roundQ_next (j + 1, a', R5) _ ⟨rfl, hacc5, m7, by omega⟩ (by simp only; omega) (by simp -dsimp only [go_sem, gS]) (leH_hp (by simp only [hpS, eq_self, implies_true, f7, f4, f26, f43, m7, m4, mM, m43]) (by simp only [hpS, eq_self, implies_true, f7, f4, f26, f43, m7, m4, mM, m43]))
  ·have e3 : ¬ 4 < j := by have := of_decide_eq_false q3; omega
   have hb : (bOf j n).d = .agg [.str n, .int .i64 3, .slice ((List.replicate 3 tyInt).map Ty.d), .slice [.agg [.slice [.bool true, .bool true, .bool false], .int .i64 1]], .slice []] := by rw [bOf, if_neg e3]; rfl
   simp -dsimp only [go_sem, gS, q3, f7, h7, f16, f18, f4]
   have h4 := f4.2.2.2.2.2.2
   have hM := f18.2.2.2.2
   refine svc_loop (X := Nat × A × Heap) (fun y => [(1, a), (4, .ref b4 0), (5, .d (.int .i64 y.1)), (7, .own b7 v7), (8, .d (.int .i64 ((7 : Nat) : Int))), (9, .d (.int .i64 j))])
    (fun y G => G = hp y.2.2 [(b7, .arr 9 1 v7 (bNames.map D.str)), (b4, .var [.d (.str n), .d (.int .i64 3), y.2.1, .own b18 v18, .nils]), (b18, .arr 117 2 v18 [.agg [.slice [.bool true, .bool true, .bool false], .int .i64 1]])] ∧ AccN H [] [pcT0 (List.replicate y.1 tyInt) y.2.1, pcP (builtinsL.take j) a] y.2.2 ∧ (y.2.2 b7 = none ∧ y.2.2 b4 = none ∧ y.2.2 b18 = none) ∧ y.1 ≤ 3) (fun y => 3 - y.1) (0, .nils, R) _ ⟨rfl, hacc.nil _ _, ⟨h7, h4, hM⟩, Nat.zero_le _⟩ (by simp -dsimp only [go_sem, gS]) (leH_hp (by simp only [hpS, eq_self, implies_true, f7, h7, f16, f18, f4]) (by simp only [hpS, eq_self, implies_true, f7, h7, f16, f18, f4])) ?_
   rintro ⟨i, tv, R2⟩ G ⟨hG, hacc2, ⟨g7, g4, gM⟩, hi⟩
   simp only at hG hacc2 g7 g4 gM hi
   subst hG
   simp -dsimp only [go_sem, gS, f7, f4, f18, g7, g4, gM]
   refine gif_split (fun q2 => ?_) (fun q2 => ?_)
   ·have q2' : i < 3 := by have := of_decide_eq_true q2; omega
    have hwi := wrapN (k := i) (by omega)
    simp -dsimp only [go_sem, gS, q2, f7, f4, f18, g7, g4, gM]
    refine newV_hp (fun b38 v38 f38 w38 => ?_)
    simp only [off_cons, off_nil] at f38
    simp -dsimp only [go_sem, gS, f7, f4, f18, g7, g4, gM, f38]
    refine AccN.appTo (pre := []) (p := pcT0 (List.replicate i tyInt) tv) (post := [pcP (builtinsL.take j) a]) (ns := [tyInt.d]) hacc2 (by simp only [hpS, eq_self, implies_true, f7, f4, f18, g7, g4, gM, f38]) (by simp only [hpS, eq_self, implies_true, ]) (by simp only [List.length_map, List.length_replicate, List.length_cons, List.length_nil]; omega) (fun tv' R3 hacc3 hn3 => ?_)
    have k7 := hn3 b7 (by simp only [hpS, eq_self, implies_true, f7, f4, f18]) g7
    have k4 := hn3 b4 (by simp only [hpS, eq_self, implies_true, f7, f4, f18]) g4
    have kM := hn3 b18 (by simp only [hpS, eq_self, implies_true, f7, f4, f18]) gM
    have k38 := hn3 b38 (by simp only [hpS, eq_self, implies_true, f7, f4, f18, f38]) f38.2.2.2.2.2.2
    have o1 := AccN.one (pre := []) hacc3
    simp only at o1
    simp -dsimp only [go_sem, gS, f7, f4, f18, f38, k7, k4, kM, k38, o1, List.length_cons, List.length_nil, hwi]
    have hacc4 : AccN H [] [pcT0 (List.replicate (i + 1) tyInt) tv', pcP (builtinsL.take j) a] R3 := by
     rw [pcT0, List.replicate_succ', List.map_append]; exact hacc3
    refine roundQ_next (i + 1, tv', R3) _ ⟨rfl, hacc4, ⟨k7, k4, kM⟩, q2'⟩ (by simp only; omega) (by simp -dsimp only [go_sem, gS]) (leH_hp (by simp only [hpS, eq_self, implies_true, f7, f4, f18, f38, k7, k4, kM, k38]) (by simp only [hpS, eq_self, implies_true, f7, f4, f18, f38, k7, k4, kM, k38]))
   ·have q2' : i = 3 := by have := of_decide_eq_false q2; omega
    subst q2'
    simp -dsimp only [go_sem, gS, q2, f7, f4, f18, g7, g4, gM]
    have hal := AccN.allD (pre := []) (t := [.own b18 v18, .nils]) hacc2
    simp only at hal
    simp -dsimp only [go_sem, gS, f7, f4, f18, g7, g4, gM, hal]
    refine AccN.deep (pre := []) (p := pcT0 (List.replicate 3 tyInt) tv) (post := [pcP (builtinsL.take j) a]) hacc2 (by simp only [hpS, eq_self, implies_true, f7, f4, f18, g7, g4, gM]) (fun R4 hacc3 hn3 => ?_)
    have k7 := hn3 b7 g7
    have k4 := hn3 b4 g4
    have kM := hn3 b18 gM
    simp -dsimp only [go_sem, gS, f7, f4, f18, k7, k4, kM]
    refine newV_hp (fun b43 v43 f43 w43 => ?_)
    simp only [off_cons, off_nil] at f43
    simp -dsimp only [go_sem, gS, f7, f4, f18, k7, k4, kM, f43]
    rw [← hb]
    refine AccN.appTo (pre := []) (p := pcP (builtinsL.take j) a) (post := []) (ns := [(bOf j n).d]) hacc3 (by simp only [hpS, eq_self, implies_true, f7, f4, f18, k7, k4, kM, f43]) (by simp only [hpS, eq_self, implies_true, ]) (by simp only [List.length_map, List.length_take, List.length_cons, List.length_nil]; omega) (fun a' R5 hacc4 hn4 => ?_)
    have m7 := hn4 b7 (by simp only [hpS, eq_self, implies_true, f7, f4, f18]) k7
    have m4 := hn4 b4 (by simp only [hpS, eq_self, implies_true, f7, f4, f18]) k4
    have mM := hn4 b18 (by simp only [hpS, eq_self, implies_true, f7, f4, f18]) kM
    have m43 := hn4 b43 (by simp only [hpS, eq_self, implies_true, f7, f4, f18, f43]) f43.2.2.2.2.2.2
    simp -dsimp only [go_sem, gS, f7, f4, f18, f43, m7, m4, mM, m43, hw]
    have hacc5 : AccN H [] [pcP (builtinsL.take (j + 1)) a'] R5 := by
     rw [builtins_at hx, pcP, List.map_append]; exact hacc4
    refine roundQ_next (j + 1, a', R5) _ ⟨rfl, hacc5, m7, by omega⟩ (by simp only; omega) (by simp -dsimp only [go_sem, gS]) (leH_hp (by simp only [hpS, eq_self, implies_true, f7, f4, f18, f43, m7, m4, mM, m43]) (by simp only [hpS, eq_self, implies_true, f7, f4, f18, f43, m7, m4, mM, m43]))
 ·have q1' : j = 7 := by have := of_decide_eq_false q1; omega
  subst q1'
  simp -dsimp only [go_sem, gS, q1, f7, h7]
  rcases AccN.mid (pre := []) hacc with ⟨e1, _⟩ | ⟨b, v, ha, _, hb, hv, hR⟩
  ·cases e1
  ·simp only at ha hR
   subst ha
   have h7H := hacc.le.free h7
   have hbo := AccN.out (pre := []) (l := [(b7, .arr 9 1 v7 (bNames.map D.str))]) hacc (by simp only [hpS, eq_self, implies_true, h7]) rfl
   refine retW_drop (G := upd H b (.arr 36 5 v (builtinsL.map Pr.d))) ?_ (retW_is ⟨b, v, rfl, hb, hv, rfl⟩)
   refine leH_upd_l (by rw [hp_not hbo]; exact hR) fun k o _ hk => ((leH_hp02 hacc.le (by simp only [hpS, eq_self, implies_true, h7, h7H]))) k o hk
theorem preds04 {eb : EbG} (H : Heap) : ACall Tryd.prog (seatV eb) 54 [] H fun r H' => r = .d (.slice (builtinsL.map Pr.d)) ∧ H' = H :=
 ACall.keep (ACall.deepen ((preds04_own _).mono fun r H' ⟨b, v, e1, _, _, e2⟩ => by
  subst e1; subst e2
  simp only [deepK, upd, if_pos, true_and]))
set_option maxHeartbeats 8000000 in
theorem builtins50_ok {eb : EbG} (H : Heap) (K : A → Heap → Prop) (hK : K (.d (.slice (builtinsL.map Pr.d))) H) : ACall Tryd.prog (seatV eb) 50 [] H K := by
 refine ACall.hp_start ?_
 refine ACall.by mixed fn50 (by simp) ?_
 conv in s50 => cbv
 refine svc_start ?_
 simp -dsimp only [go_sem, gS]
 refine newK_hp (fun b1 f1 => ?_)
 simp only [off_cons, off_nil] at f1
 simp -dsimp only [go_sem, gS, f1]
 refine newV_hp (fun b8 v8 f8 w8 => ?_)
 simp only [off_cons, off_nil] at f8
 simp -dsimp only [go_sem, gS, f1, f8, List.length_cons, List.length_nil]
 have hE8 : ((bNames.drop 0).take 5).map D.str = [.str ⟨#[97, 100, 100]⟩, .str ⟨#[115, 117, 98]⟩, .str ⟨#[109, 117, 108]⟩, .str ⟨#[100, 105, 118]⟩, .str ⟨#[109, 111, 100]⟩] := rfl
 have hE28 : ((bNames.drop 5).take 2).map D.str = [.str ⟨#[108, 116]⟩, .str ⟨#[108, 101]⟩] := rfl
 have h1 := f1
 have h8 := f8.2.2
 refine svc_loop (X := Nat × A × Heap) (fun y => [(1, .ref b1 0), (2, y.2.1), (8, .own b8 v8), (9, .d (.int .i64 ((5 : Nat) : Int))), (10, .d (.int .i64 y.1))])
  (fun y G => G = hp y.2.2 [(b1, .var [.d (.bool false), .d (.str kInt), .nils]), (b8, .arr 9 1 v8 (((bNames.drop 0).take 5).map D.str))] ∧ AccN H [] [pcP (builtinsL.take (0 + y.1)) y.2.1] y.2.2 ∧ (y.2.2 b1 = none ∧ y.2.2 b8 = none) ∧ y.1 ≤ 5) (fun y => 5 - y.1) (0, .nils, H) _ ⟨rfl, (AccN.none H []).nil _ _, ⟨h1, h8⟩, Nat.zero_le _⟩ (by simp -dsimp only [go_sem, gS]) (leH_hp (by simp only [hpS, eq_self, implies_true, f1, f8, hE8, kInt]) (by simp only [hpS, eq_self, implies_true, f1, f8, hE8, kInt])) ?_
 rintro ⟨j, a, R⟩ G ⟨hG, hacc, ⟨g1, g8⟩, hj⟩
 simp only at hG hacc g1 g8 hj
 subst hG
 simp -dsimp only [go_sem, gS]
 refine gif_split (fun q1 => ?_) (fun q1 => ?_)
 ·have q1' : j < 5 := by have := of_decide_eq_true q1; omega
  have hlj : j < ((bNames.drop 0).take 5).length := q1'
  obtain ⟨n, hx⟩ := list_at hlj
  have hx2 : bNames[0 + j]? = some n := by
   rw [List.getElem?_take_of_lt q1', List.getElem?_drop] at hx; exact hx
  have hx0 : (bNames.take 5)[j]? = some n := hx
  have hlj0 : j < (bNames.take 5).length := hlj
  have hw := wrapN (k := j) (by omega)
  have hb : (bOf (0 + j) n).d = .agg [.str n, .int .i64 3, .slice [tyInt.d, tyInt.d, tyInt.d], .slice [.agg [.slice [.bool true, .bool true, .bool false], .int .i64 1]], .slice []] := by
   rw [bOf, if_neg (by omega)]; rfl
  have hty : tyInt.d = .agg [.bool false, .str kInt, .slice []] := rfl
  rw [hty] at hb
  simp -dsimp only [go_sem, gS, q1, hlj0, hx0, g1, g8, f1, f8, Option.map_some]
  refine newV_hp (fun b20 v20 f20 w20 => ?_)
  simp only [off_cons, off_nil] at f20
  simp -dsimp only [go_sem, gS, g1, g8, f1, f8, f20]
  refine newV_hp (fun b21 v21 f21 w21 => ?_)
  simp only [off_cons, off_nil] at f21
  simp -dsimp only [go_sem, gS, g1, g8, f1, f8, f20, f21]
  refine newV_hp (fun b23 v23 f23 w23 => ?_)
  simp only [off_cons, off_nil] at f23
  simp -dsimp only [go_sem, gS, g1, g8, f1, f8, f20, f21, f23]
  refine newV_hp (fun b25 v25 f25 w25 => ?_)
  simp only [off_cons, off_nil] at f25
  simp -dsimp only [go_sem, gS, g1, g8, f1, f8, f20, f21, f23, f25]
  rw [← hb]
  refine AccN.appTo (pre := []) (p := pcP (builtinsL.take (0 + j)) a) (post := []) (ns := [(bOf (0 + j) n).d]) hacc (by simp only [hpS, eq_self, implies_true, g1, g8, f1, f8, f20, f21, f23, f25]) (by simp only [hpS, eq_self, implies_true, ]) (by simp only [List.length_map, List.length_take, List.length_cons, List.length_nil]; omega) (fun a' R5 hacc4 hn4 => ?_)
  have m1 := hn4 b1 (by simp only [hpS, eq_self, implies_true, f1, f8]) g1
  have m2 := hn4 b8 (by simp only [hpS, eq_self, implies_true, f1, f8]) g8
  have x0 := hn4 b20 (by simp only [hpS, eq_self, implies_true, f1, f8, f20]) f20.2.2.2.2
  have x1 := hn4 b21 (by simp only [hpS, eq_self, implies_true, f1, f8, f20, f21]) f21.2.2.2.2.2.2
  have x2 := hn4 b23 (by simp only [hpS, eq_self, implies_true, f1, f8, f20, f21, f23]) f23.2.2.2.2.2.2.2.2
  have x3 := hn4 b25 (by simp only [hpS, eq_self, implies_true, f1, f8, f20, f21, f23, f25]) f25.2.2.2.2.2.2.2.2.2.2
  simp -dsimp only [go_sem, gS, f1, f8, f20, f21, f23, f25, m1, m2, x0, x1, x2, x3, hw]
  have hacc5 : AccN H [] [pcP (builtinsL.take (0 + (j + 1))) a'] R5 := by
   rw [← Nat.add_assoc, builtins_at hx2, pcP, List.map_append]; exact hacc4
  have hacc6 : AccN H [] [pcP (builtinsL.take (j + 1)) a'] R5 := by simpa only [Nat.zero_add] using hacc5
  refine roundQ_next (j + 1, a', R5) _ ⟨rfl, hacc6, ⟨m1, m2⟩, by omega⟩ (by simp only; omega) (by simp -dsimp only [go_sem, gS]) (leH_hp (by simp only [hpS, eq_self, implies_true, f1, f8, f20, f21, f23, f25, m1, m2, x0, x1, x2, x3]) (by simp only [hpS, eq_self, implies_true, f1, f8, f20, f21, f23, f25, m1, m2, x0, x1, x2, x3]))
 ·have q1' : j = 5 := by have := of_decide_eq_false q1; omega
  subst q1'
  simp -dsimp only [go_sem, gS, q1, f1, f8, g1, g8]
  refine newV_hp (fun b28 v28 f28 w28 => ?_)
  simp only [off_cons, off_nil] at f28
  have h28 := f28.2.2.2.2
  simp -dsimp only [go_sem, gS, f1, f8, g1, g8, f28, List.length_cons, List.length_nil]
  clear hj q1
  refine svc_loop (X := Nat × A × Heap) (fun y => [(1, .ref b1 0), (2, y.2.1), (28, .own b28 v28), (29, .d (.int .i64 ((2 : Nat) : Int))), (30, .d (.int .i64 y.1))])
   (fun y G => G = hp y.2.2 [(b1, .var [.d (.bool false), .d (.str kInt), .nils]), (b28, .arr 9 1 v28 (((bNames.drop 5).take 2).map D.str))] ∧ AccN H [] [pcP (builtinsL.take (5 + y.1)) y.2.1] y.2.2 ∧ (y.2.2 b1 = none ∧ y.2.2 b28 = none) ∧ y.1 ≤ 2) (fun y => 2 - y.1) (0, a, R) _ ⟨rfl, hacc, ⟨g1, h28⟩, Nat.zero_le _⟩ (by simp -dsimp only [go_sem, gS]) (leH_hp (by simp only [hpS, eq_self, implies_true, f1, f8, g1, g8, f28, hE28]) (by simp only [hpS, eq_self, implies_true, f1, f8, g1, g8, f28, hE28])) ?_
  rintro ⟨j, a2, R2⟩ G ⟨hG, hacc2, ⟨g1, g28⟩, hj⟩
  simp only at hG hacc2 g1 g28 hj
  subst hG
  simp -dsimp only [go_sem, gS]
  refine gif_split (fun q1 => ?_) (fun q1 => ?_)
  ·have q1' : j < 2 := by have := of_decide_eq_true q1; omega
   have hlj : j < ((bNames.drop 5).take 2).length := q1'
   obtain ⟨n, hx⟩ := list_at hlj
   have hx2 : bNames[5 + j]? = some n := by
    rw [List.getElem?_take_of_lt q1', List.getElem?_drop] at hx; exact hx
   have hw := wrapN (k := j) (by omega)
   have hb : (bOf (5 + j) n).d = .agg [.str n, .int .i64 2, .slice [tyInt.d, tyInt.d], .slice [.agg [.slice [.bool true, .bool true], .int .i64 2]], .slice []] := by
    rw [bOf, if_pos (by omega)]; rfl
   have hty : tyInt.d = .agg [.bool false, .str kInt, .slice []] := rfl
   rw [hty] at hb
   simp -dsimp only [go_sem, gS, q1, hlj, hx, g1, g28, f1, f28, Option.map_some]
   refine newV_hp (fun b39 v39 f39 w39 => ?_)
   simp only [off_cons, off_nil] at f39
   simp -dsimp only [go_sem, gS, g1, g28, f1, f28, f39]
   refine newV_hp (fun b40 v40 f40 w40 => ?_)
   simp only [off_cons, off_nil] at f40
   simp -dsimp only [go_sem, gS, g1, g28, f1, f28, f39, f40]
   refine newV_hp (fun b42 v42 f42 w42 => ?_)
   simp only [off_cons, off_nil] at f42
   simp -dsimp only [go_sem, gS, g1, g28, f1, f28, f39, f40, f42]
   refine newV_hp (fun b44 v44 f44 w44 => ?_)
   simp only [off_cons, off_nil] at f44
   simp -dsimp only [go_sem, gS, g1, g28, f1, f28, f39, f40, f42, f44]
   rw [← hb]
   refine AccN.appTo (pre := []) (p := pcP (builtinsL.take (5 + j)) a2) (post := []) (ns := [(bOf (5 + j) n).d]) hacc2 (by simp only [hpS, eq_self, implies_true, g1, g28, f1, f28, f39, f40, f42, f44]) (by simp only [hpS, eq_self, implies_true, ]) (by simp only [List.length_map, List.length_take, List.length_cons, List.length_nil]; omega) (fun a' R5 hacc4 hn4 => ?_)
   have m1 := hn4 b1 (by simp only [hpS, eq_self, implies_true, f1, f28]) g1
   have m2 := hn4 b28 (by simp only [hpS, eq_self, implies_true, f1, f28]) g28
   have x0 := hn4 b39 (by simp only [hpS, eq_self, implies_true, f1, f28, f39]) f39.2.2.2.2
   have x1 := hn4 b40 (by simp only [hpS, eq_self, implies_true, f1, f28, f39, f40]) f40.2.2.2.2.2.2
   have x2 := hn4 b42 (by simp only [hpS, eq_self, implies_true, f1, f28, f39, f40, f42]) f42.2.2.2.2.2.2.2.2
   have x3 := hn4 b44 (by simp only [hpS, eq_self, implies_true, f1, f28, f39, f40, f42, f44]) f44.2.2.2.2.2.2.2.2.2.2
   simp -dsimp only [go_sem, gS, f1, f28, f39, f40, f42, f44, m1, m2, x0, x1, x2, x3, hw]
   have hacc5 : AccN H [] [pcP (builtinsL.take (5 + (j + 1))) a'] R5 := by
    rw [← Nat.add_assoc, builtins_at hx2, pcP, List.map_append]; exact hacc4
   refine roundQ_next (j + 1, a', R5) _ ⟨rfl, hacc5, ⟨m1, m2⟩, by omega⟩ (by simp only; omega) (by simp -dsimp only [go_sem, gS]) (leH_hp (by simp only [hpS, eq_self, implies_true, f1, f28, f39, f40, f42, f44, m1, m2, x0, x1, x2, x3]) (by simp only [hpS, eq_self, implies_true, f1, f28, f39, f40, f42, f44, m1, m2, x0, x1, x2, x3]))
  ·have q1' : j = 2 := by have := of_decide_eq_false q1; omega
   subst q1'
   simp -dsimp only [go_sem, gS, q1, f1, f28, g1, g28]
   refine retW_deep ?_
   refine AccN.deep (pre := []) (p := pcP (builtinsL.take (5 + 2)) a2) (post := []) hacc2 (by simp only [hpS, eq_self, implies_true, f1, f28, g1, g28]) (fun R4 hacc3 hn3 => ?_)
   have k1 := hn3 b1 g1
   have k28 := hn3 b28 g28
   have k1H := hacc2.le.free g1
   have k28H := hacc2.le.free g28
   exact retW_drop (G := H) (leH_hp02 hacc3.le (by simp only [hpS, eq_self, implies_true, k1, k28, k1H, k28H])) (retW_is hK)
end Go.Aug

/- The layer of names: predicates that are built in; what terms, types and goals name. -/
namespace Go.Aug
open Go.Proofs
set_option maxRecDepth 100000
set_option linter.unusedSimpArgs false
attribute [local irreducible] hid andK letA onSome onVar onArr arrOnly onInt onBool onTup idxA ldV ldD addO appTo fillL slA srcK nilQ retW gif sgd sguard svc sops sdops sagain aopO aLoad aStore aBin aUn aConv aLen aIndexAddr aIndex aIndexAddrS aIndexS aSlice aAppend aBuild aBuildSlice aMakeSlice aField aFieldOf aCallOp deepK deepL frzM putE newK newV growV ACall roundQ thenQ inBlockQ sret cnd szs nilC onMap onRow aLookup aMapUpdate aMakeMap
attribute [local go_sem] Int.natCast_zero
theorem preds04_ok {eb : EbG} (H : Heap) (K : A → Heap → Prop) (hK : K (.d (.slice (builtinsL.map Pr.d))) H) : ACall Tryd.prog (seatV eb) 54 [] H K :=
 (preds04 H).mono fun _ _ ⟨h1, h2⟩ => by rw [h1, h2]; exact hK
def isBuiltin (k : Ky) : Bool := builtinsL.any fun p => Ky.eqb p.key k
theorem builtin04_ok {eb : EbG} (H : Heap) (q : Ky) (K : A → Heap → Prop) (hK : K (.d (.bool (isBuiltin q))) H) :
  ACall Tryd.prog (seatV eb) 40 [.d q.d] H K := by
 refine ACall.hp_start ?_
 refine ACall.by mixed fn40 (by simp) ?_
 conv in s40 => cbv
 refine svc_start ?_
 simp -dsimp only [go_sem, gS, Ky.d, Ky.cs]
 refine newK_hp (fun b1 f1 => ?_)
 simp only [off_cons, off_nil] at f1
 simp -dsimp only [go_sem, gS, f1]
 refine preds04_ok _ _ ?_
 have hlen : builtinsL.length = 7 := rfl
 unfold isBuiltin at hK
 generalize builtinsL = l at hlen hK ⊢
 simp -dsimp only [go_sem, gS, f1]
 refine svc_loop (X := Nat) (fun k => [(1, .ref b1 0), (5, .d (.slice (l.map Pr.d))), (6, .d (.int .i64 l.length)), (7, .d (.int .i64 k))])
  (fun k G => G = hp H [(b1, .var [.d (.str q.name), .d (.int .i64 q.ar)])] ∧ k ≤ l.length ∧ ((l.drop k).any fun p => Ky.eqb p.key q) = l.any fun p => Ky.eqb p.key q) (fun k => l.length - k) 0 _ ⟨rfl, by omega, rfl⟩ (by simp -dsimp only [go_sem, gS]) (.refl _) ?_
 rintro k G ⟨rfl, hk, hrun⟩
 simp -dsimp only [go_sem, gS]
 refine gif_split (fun g1 => ?_) (fun g1 => ?_)
 ·have g1' : k < l.length := by have := of_decide_eq_true g1; omega
  obtain ⟨p, hx⟩ := list_at g1'
  have hw := wrapN (k := k) (by omega)
  rw [drop_at hx, List.any_cons] at hrun
  simp -dsimp only [go_sem, gS, g1, hx, Pr.d, Pr.cs]
  refine newK_hp (fun b4 f4 => ?_)
  simp only [off_cons, off_nil] at f4
  simp -dsimp only [go_sem, gS, f1, f4]
  refine gif_split (fun g2 => ?_) (fun g2 => ?_)
  ·have hy : Ky.eqb p.key q = true := by simp only [Ky.eqb]; simpa using g2
   rw [hy, Bool.true_or] at hrun
   rw [← hrun] at hK
   simp -dsimp only [go_sem, gS, g2]
   exact retW_drop (G := H) (leH_hp0 (by simp only [hpS, eq_self, implies_true, f1, f4])) (retW_is hK)
  ·have hy : Ky.eqb p.key q = false := by simp only [Ky.eqb]; simpa using g2
   rw [hy, Bool.false_or] at hrun
   simp -dsimp only [go_sem, gS, g2, hw]
   exact roundQ_next (k + 1) _ ⟨rfl, g1', hrun⟩ (by omega) (by simp -dsimp only [go_sem, gS]) (leH_hp (by simp only [hpS, eq_self, implies_true, f1, f4]) (by simp only [hpS, eq_self, implies_true, f1, f4]))
 ·rw [drop_end (by have := of_decide_eq_false g1; omega)] at hrun
  rw [← hrun] at hK
  simp -dsimp only [go_sem, gS, g1]
  exact retW_drop (G := H) (leH_hp0 (by simp only [hpS, eq_self, implies_true, f1])) (retW_is hK)
mutual
def Tm.small : Tm → Prop
 | .mk _ _ _ xs => xs.length ≤ 32768 ∧ Tm.smalls xs
def Tm.smalls : List Tm → Prop
 | [] => True
 | t :: ts => t.small ∧ Tm.smalls ts
end
theorem Tm.smalls_mem : ∀ {ts : List Tm}, Tm.smalls ts → ∀ t ∈ ts, t.small
 | _ :: _, h, _, .head _ => h.1
 | _ :: _, h, t, .tail _ ht => Tm.smalls_mem h.2 t ht
mutual
def tmOk (l : List It) : Tm → Bool
 | .mk k n _ xs => (!decide (k = 3) || decide ((0 : Int) < (rctors l ⟨n, xs.length⟩ : Int))) && tmOks l xs
def tmOks (l : List It) : List Tm → Bool
 | [] => true
 | t :: ts => tmOk l t && tmOks l ts
end
/-- A source whose rows are not too long. -/
structure Src (l : List It) : Prop where
 len : l.length ≤ 1048576
 ctors : ∀ it ∈ l, it.ctors.length ≤ 32768
set_option maxHeartbeats 1000000 in
theorem term04_ok {eb : EbG} (l : List It) (hl : Src l) : ∀ (n : Nat) (t : Tm), _root_.SizeOf.sizeOf t ≤ n → t.small → ∀ (H : Heap) (K : A → Heap → Prop), K (.d (.bool (tmOk l t))) H →
  ACall Tryd.prog (seatV eb) 108 [.d (.slice (l.map It.d)), .d t.d] H K
 | 0, .mk k nm i xs, hn, _, _, _, _ => by simp at hn
 | n + 1, .mk k nm i xs, hn, hs, H, K, hK => by
  simp only [Tm.small] at hs
  simp only [tmOk] at hK
  have ih : ∀ t ∈ xs, ∀ (H : Heap) (K : A → Heap → Prop), K (.d (.bool (tmOk l t))) H → ACall Tryd.prog (seatV eb) 108 [.d (.slice (l.map It.d)), .d t.d] H K := fun t ht H K hK =>
   term04_ok l hl n t (by have := List.sizeOf_lt_of_mem ht; simp only [Tm.mk.sizeOf_spec] at hn; omega) (Tm.smalls_mem hs.2 t ht) H K hK
  refine ACall.hp_start ?_
  refine ACall.by mixed fn108 (by simp) ?_
  conv in s108 => cbv
  refine svc_start ?_
  simp -dsimp only [go_sem, gS, Tm.d, Tm.cs, Tm.ds_map]
  refine newK_hp (fun b3 f3 => ?_)
  simp only [off_cons, off_nil] at f3
  simp -dsimp only [go_sem, gS, f3]
  refine (fun (key : (?T : Prop)) => ?main) ?rest
  case main =>
   refine gif_split (fun g1 => ?_) (fun g1 => ?_)
   ·simp -dsimp only [go_sem, gS, f3, g1]
    refine svc_loop (X := Nat × Bool) (fun x => [(0, .d (.slice (l.map It.d))), (5, .d (.bool x.2)), (23, .d (.slice (xs.map Tm.d))), (24, .d (.int .i64 xs.length)), (25, .d (.int .i64 x.1))])
     (fun x G => G = hp H [] ∧ x.1 ≤ xs.length ∧ (x.2 && tmOks l (xs.drop x.1)) = ((!decide (k = 3) || decide ((0 : Int) < (rctors l ⟨nm, xs.length⟩ : Int))) && tmOks l xs)) (fun x => xs.length - x.1) (0, true) _ ⟨rfl, by simp, by simp only [g1, Bool.true_or, List.drop_zero]⟩ (by simp -dsimp only [go_sem, gS]) ((leH_hp0 (by simp only [hpS, eq_self, implies_true, f3]))) ?_
    exact key
   ·simp -dsimp only [go_sem, gS, f3, g1]
    refine ctors_ok _ l hl.len hl.ctors ⟨nm, xs.length⟩ _ ?_
    simp -dsimp only [go_sem, gS, f3]
    refine svc_loop (X := Nat × Bool) (fun x => [(0, .d (.slice (l.map It.d))), (5, .d (.bool x.2)), (23, .d (.slice (xs.map Tm.d))), (24, .d (.int .i64 xs.length)), (25, .d (.int .i64 x.1))])
     (fun x G => G = hp H [] ∧ x.1 ≤ xs.length ∧ (x.2 && tmOks l (xs.drop x.1)) = ((!decide (k = 3) || decide ((0 : Int) < (rctors l ⟨nm, xs.length⟩ : Int))) && tmOks l xs)) (fun x => xs.length - x.1) (0, decide ((0 : Int) < (rctors l ⟨nm, xs.length⟩ : Int))) _ ⟨rfl, by simp, by simp only [g1, Bool.false_or, List.drop_zero]⟩ (by simp -dsimp only [go_sem, gS]) ((leH_hp0 (by simp only [hpS, eq_self, implies_true, f3]))) ?_
    exact key
  case rest =>
   rintro ⟨j, b⟩ G ⟨hG, hj, hrun⟩
   simp only at hj hrun
   rw [hG]
   simp -dsimp only [go_sem, gS]
   refine gif_split (fun g1 => ?_) (fun g1 => ?_)
   ·have g1' : j < xs.length := by have := of_decide_eq_true g1; omega
    obtain ⟨⟨tk, tn, ti, ta⟩, hx⟩ := list_at g1'
    have hw := wrapN (k := j) (by omega)
    rw [drop_at hx] at hrun
    simp only [tmOks] at hrun
    simp -dsimp only [go_sem, gS, g1, hx, Tm.d, Tm.cs]
    refine newK_hp (fun b7 f7 => ?_)
    simp only [off_cons, off_nil] at f7
    simp -dsimp only [go_sem, gS, f7]
    cases b with
    | true =>
     simp -dsimp only [go_sem, gS, f7]
     refine ih (.mk tk tn ti ta) (List.mem_of_getElem? hx) _ _ ?_
     simp -dsimp only [go_sem, gS, f7, hw]
     exact roundQ_next (j + 1, tmOk l (.mk tk tn ti ta)) _ ⟨rfl, g1', by rw [← hrun, Bool.true_and]⟩ (by simp only; omega) (by simp -dsimp only [go_sem, gS]) (leH_hp0 (by simp only [hpS, eq_self, implies_true, f7]))
    | false =>
     simp -dsimp only [go_sem, gS, f7, hw]
     exact roundQ_next (j + 1, false) _ ⟨rfl, g1', by rw [← hrun]; simp⟩ (by simp only; omega) (by simp -dsimp only [go_sem, gS]) (leH_hp0 (by simp only [hpS, eq_self, implies_true, f7]))
   ·rw [drop_end (by have := of_decide_eq_false g1; omega)] at hrun
    simp only [tmOks, Bool.and_true] at hrun
    rw [← hrun] at hK
    simp -dsimp only [go_sem, gS, g1]
    exact retW_drop (G := H) (leH_hp0 (by simp only [hpS, eq_self, implies_true, ])) (retW_is hK)
mutual
def Ty.small : Ty → Prop
 | .mk _ _ xs => xs.length ≤ 32768 ∧ Ty.smalls xs
def Ty.smalls : List Ty → Prop
 | [] => True
 | t :: ts => t.small ∧ Ty.smalls ts
end
theorem Ty.smalls_mem : ∀ {ts : List Ty}, Ty.smalls ts → ∀ t ∈ ts, t.small
 | _ :: _, h, _, .head _ => h.1
 | _ :: _, h, t, .tail _ ht => Ty.smalls_mem h.2 t ht
mutual
def tyOk (l : List It) (own : Bool) (vars : List ByteArray) : Ty → Bool
 | .mk v n xs => if v = true then !own || vars.any (fun x => decide (x = n)) else (decide ((0 : Int) < (l.countP (tyVars n xs.length) : Int)) || (decide (n = kInt) && decide ((xs.length : Int) = 0))) && tyOks l own vars xs
def tyOks (l : List It) (own : Bool) (vars : List ByteArray) : List Ty → Bool
 | [] => true
 | t :: ts => tyOk l own vars t && tyOks l own vars ts
end
set_option maxHeartbeats 1000000 in
theorem typ04_ok {eb : EbG} (l : List It) (hl : Src l) (own : Bool) (vars : List ByteArray) (hv : vars.length ≤ 1048576) : ∀ (n : Nat) (t : Ty), _root_.SizeOf.sizeOf t ≤ n → t.small → ∀ (H : Heap) (K : A → Heap → Prop), K (.d (.bool (tyOk l own vars t))) H →
  ACall Tryd.prog (seatV eb) 105 [.d (.slice (l.map It.d)), .d t.d, .d (.bool own), .d (.slice (vars.map .str))] H K
 | 0, .mk v nm xs, hn, _, _, _, _ => by simp at hn
 | n + 1, .mk v nm xs, hn, hs, H, K, hK => by
  simp only [Ty.small] at hs
  simp only [tyOk] at hK
  have ih : ∀ t ∈ xs, ∀ (H : Heap) (K : A → Heap → Prop), K (.d (.bool (tyOk l own vars t))) H → ACall Tryd.prog (seatV eb) 105 [.d (.slice (l.map It.d)), .d t.d, .d (.bool own), .d (.slice (vars.map .str))] H K := fun t ht H K hK =>
   typ04_ok l hl own vars hv n t (by have := List.sizeOf_lt_of_mem ht; simp only [Ty.mk.sizeOf_spec] at hn; omega) (Ty.smalls_mem hs.2 t ht) H K hK
  refine ACall.hp_start ?_
  refine ACall.by mixed fn105 (by simp) ?_
  conv in s105 => cbv
  refine svc_start ?_
  simp -dsimp only [go_sem, gS, Ty.d, Ty.cs, Ty.ds_map]
  refine newK_hp (fun b5 f5 => ?_)
  simp only [off_cons, off_nil] at f5
  simp -dsimp only [go_sem, gS, f5]
  cases v with
  | true =>
   simp only [if_true] at hK
   simp -dsimp only [go_sem, gS, f5]
   cases own with
   | false =>
    simp -dsimp only [go_sem, gS, f5]
    exact retW_drop (G := H) (leH_hp0 (by simp only [hpS, eq_self, implies_true, f5])) (retW_is hK)
   | true =>
    simp -dsimp only [go_sem, gS, f5]
    refine in_ok _ vars hv nm _ ?_
    simp -dsimp only [go_sem, gS, f5]
    exact retW_drop (G := H) (leH_hp0 (by simp only [hpS, eq_self, implies_true, f5])) (retW_is hK)
  | false =>
   simp only [Bool.false_eq_true, if_false] at hK
   simp -dsimp only [go_sem, gS, f5]
   refine types_ok _ l hl.len nm xs.length _ ?_
   simp -dsimp only [go_sem, gS, f5]
   have hkI : (⟨#[105, 110, 116]⟩ : ByteArray) = kInt := rfl
   refine (fun (key : (?T : Prop)) => ?main) ?rest
   case main =>
    refine gif_split (fun g1 => ?_) (fun g1 => ?_)
    ·simp -dsimp only [go_sem, gS, f5, g1]
     refine svc_loop (X := Nat × Bool) (fun x => [(0, .d (.slice (l.map It.d))), (2, .d (.bool own)), (3, .d (.slice (vars.map .str))), (11, .d (.bool x.2)), (48, .d (.slice (xs.map Ty.d))), (49, .d (.int .i64 xs.length)), (50, .d (.int .i64 x.1))])
      (fun x G => G = hp H [] ∧ x.1 ≤ xs.length ∧ (x.2 && tyOks l own vars (xs.drop x.1)) = ((decide ((0 : Int) < (l.countP (tyVars nm xs.length) : Int)) || (decide (nm = kInt) && decide ((xs.length : Int) = 0))) && tyOks l own vars xs)) (fun x => xs.length - x.1) (0, true) _ ⟨rfl, by simp, by simp only [g1, Bool.true_or, List.drop_zero]⟩ (by simp -dsimp only [go_sem, gS]) ((leH_hp0 (by simp only [hpS, eq_self, implies_true, f5]))) ?_
     exact key
    ·simp -dsimp only [go_sem, gS, f5, g1]
     refine gif_split (fun g2 => ?_) (fun g2 => ?_)
     ·simp -dsimp only [go_sem, gS, f5, g2]
      refine svc_loop (X := Nat × Bool) (fun x => [(0, .d (.slice (l.map It.d))), (2, .d (.bool own)), (3, .d (.slice (vars.map .str))), (11, .d (.bool x.2)), (48, .d (.slice (xs.map Ty.d))), (49, .d (.int .i64 xs.length)), (50, .d (.int .i64 x.1))])
       (fun x G => G = hp H [] ∧ x.1 ≤ xs.length ∧ (x.2 && tyOks l own vars (xs.drop x.1)) = ((decide ((0 : Int) < (l.countP (tyVars nm xs.length) : Int)) || (decide (nm = kInt) && decide ((xs.length : Int) = 0))) && tyOks l own vars xs)) (fun x => xs.length - x.1) (0, decide ((xs.length : Int) = 0)) _ ⟨rfl, by simp, by simp only [g1, ← hkI, g2, Bool.false_or, Bool.true_and, List.drop_zero]⟩ (by simp -dsimp only [go_sem, gS]) ((leH_hp0 (by simp only [hpS, eq_self, implies_true, f5]))) ?_
      exact key
     ·simp -dsimp only [go_sem, gS, f5, g2]
      refine svc_loop (X := Nat × Bool) (fun x => [(0, .d (.slice (l.map It.d))), (2, .d (.bool own)), (3, .d (.slice (vars.map .str))), (11, .d (.bool x.2)), (48, .d (.slice (xs.map Ty.d))), (49, .d (.int .i64 xs.length)), (50, .d (.int .i64 x.1))])
       (fun x G => G = hp H [] ∧ x.1 ≤ xs.length ∧ (x.2 && tyOks l own vars (xs.drop x.1)) = ((decide ((0 : Int) < (l.countP (tyVars nm xs.length) : Int)) || (decide (nm = kInt) && decide ((xs.length : Int) = 0))) && tyOks l own vars xs)) (fun x => xs.length - x.1) (0, false) _ ⟨rfl, by simp, by simp only [g1, ← hkI, g2, Bool.false_or, Bool.false_and, List.drop_zero]⟩ (by simp -dsimp only [go_sem, gS]) ((leH_hp0 (by simp only [hpS, eq_self, implies_true, f5]))) ?_
      exact key
   case rest =>
    rintro ⟨j, b⟩ G ⟨hG, hj, hrun⟩
    simp only at hj hrun
    rw [hG]
    simp -dsimp only [go_sem, gS]
    refine gif_split (fun g1 => ?_) (fun g1 => ?_)
    ·have g1' : j < xs.length := by have := of_decide_eq_true g1; omega
     obtain ⟨⟨tv, tn, ta⟩, hx⟩ := list_at g1'
     have hw := wrapN (k := j) (by omega)
     rw [drop_at hx] at hrun
     simp only [tyOks] at hrun
     simp -dsimp only [go_sem, gS, g1, hx, Ty.d, Ty.cs]
     refine newK_hp (fun b13 f13 => ?_)
     simp only [off_cons, off_nil] at f13
     simp -dsimp only [go_sem, gS, f13]
     cases b with
     | true =>
      simp -dsimp only [go_sem, gS, f13]
      refine ih (.mk tv tn ta) (List.mem_of_getElem? hx) _ _ ?_
      simp -dsimp only [go_sem, gS, f13, hw]
      exact roundQ_next (j + 1, tyOk l own vars (.mk tv tn ta)) _ ⟨rfl, g1', by rw [← hrun, Bool.true_and]⟩ (by simp only; omega) (by simp -dsimp only [go_sem, gS]) (leH_hp0 (by simp only [hpS, eq_self, implies_true, f13]))
     | false =>
      simp -dsimp only [go_sem, gS, f13, hw]
      exact roundQ_next (j + 1, false) _ ⟨rfl, g1', by rw [← hrun]; simp⟩ (by simp only; omega) (by simp -dsimp only [go_sem, gS]) (leH_hp0 (by simp only [hpS, eq_self, implies_true, f13]))
    ·rw [drop_end (by have := of_decide_eq_false g1; omega)] at hrun
     simp only [tyOks, Bool.and_true] at hrun
     rw [← hrun] at hK
     simp -dsimp only [go_sem, gS, g1]
     exact retW_drop (G := H) (leH_hp0 (by simp only [hpS, eq_self, implies_true, ])) (retW_is hK)
end Go.Aug

/- The layer of names: what goals name. -/
namespace Go.Aug
open Go.Proofs
set_option maxRecDepth 100000
set_option linter.unusedSimpArgs false
attribute [local irreducible] hid andK letA onSome onVar onArr arrOnly onInt onBool onTup idxA ldV ldD addO appTo fillL slA srcK nilQ retW gif sgd sguard svc sops sdops sagain aopO aLoad aStore aBin aUn aConv aLen aIndexAddr aIndex aIndexAddrS aIndexS aSlice aAppend aBuild aBuildSlice aMakeSlice aField aFieldOf aCallOp deepK deepL frzM putE newK newV growV ACall roundQ thenQ inBlockQ sret cnd szs nilC onMap onRow aLookup aMapUpdate aMakeMap
attribute [local go_sem] Int.natCast_zero
mutual
def Gl.small : Gl → Prop
 | .mk _ a b _ xs gs => a.small ∧ b.small ∧ xs.length ≤ 32768 ∧ Tm.smalls xs ∧ gs.length ≤ 32768 ∧ Gl.smalls gs
def Gl.smalls : List Gl → Prop
 | [] => True
 | t :: ts => t.small ∧ Gl.smalls ts
end
theorem Gl.smalls_mem : ∀ {ts : List Gl}, Gl.smalls ts → ∀ t ∈ ts, t.small
 | _ :: _, h, _, .head _ => h.1
 | _ :: _, h, t, .tail _ ht => Gl.smalls_mem h.2 t ht
def glHead (l : List It) (k : Int) (a b : Tm) (n : ByteArray) (ar : Nat) : Bool :=
 if k = 4 then isBuiltin ⟨n, ar⟩ || decide ((0 : Int) < (rcount l 2 ⟨n, ar⟩ : Int)) else if k = 3 then tmOk l a && tmOk l b else if k = 8 then tmOk l a else true
mutual
def glOk (l : List It) : Gl → Bool
 | .mk k a b n xs gs => (glHead l k a b n xs.length && tmOks l xs) && glOks l gs
def glOks (l : List It) : List Gl → Bool
 | [] => true
 | t :: ts => glOk l t && glOks l ts
end
set_option maxHeartbeats 2000000 in
theorem goal04_ok {eb : EbG} (l : List It) (hl : Src l) : ∀ (n : Nat) (t : Gl), _root_.SizeOf.sizeOf t ≤ n → t.small → ∀ (H : Heap) (K : A → Heap → Prop), K (.d (.bool (glOk l t))) H →
  ACall Tryd.prog (seatV eb) 107 [.d (.slice (l.map It.d)), .d t.d] H K
 | 0, .mk k a b nm xs gs, hn, _, _, _, _ => by simp at hn
 | n + 1, .mk k a b nm xs gs, hn, hs, H, K, hK => by
  simp only [Gl.small] at hs
  obtain ⟨hsa, hsb, hxl, hxs, hgl, hgs⟩ := hs
  simp only [glOk] at hK
  have ih : ∀ t ∈ gs, ∀ (H : Heap) (K : A → Heap → Prop), K (.d (.bool (glOk l t))) H → ACall Tryd.prog (seatV eb) 107 [.d (.slice (l.map It.d)), .d t.d] H K := fun t ht H K hK =>
   goal04_ok l hl n t (by have := List.sizeOf_lt_of_mem ht; simp only [Gl.mk.sizeOf_spec] at hn; omega) (Gl.smalls_mem hgs t ht) H K hK
  have hterm : ∀ t : Tm, t.small → ∀ (H : Heap) (K : A → Heap → Prop), K (.d (.bool (tmOk l t))) H → ACall Tryd.prog (seatV eb) 108 [.d (.slice (l.map It.d)), .d t.d] H K := fun t ht H K hK =>
   term04_ok l hl _ t (Nat.le_refl _) ht H K hK
  obtain ⟨ak, an, ai, aa⟩ := a
  obtain ⟨bk, bn, bi, ba⟩ := b
  refine ACall.hp_start ?_
  refine ACall.by mixed fn107 (by simp) ?_
  conv in s107 => cbv
  refine svc_start ?_
  simp -dsimp only [go_sem, gS, Gl.d, Gl.cs, Tm.cs, Gl.ds_map, List.cons_append, List.nil_append]
  refine newK_hp (fun b3 f3 => ?_)
  simp only [off_cons, off_nil] at f3
  simp -dsimp only [go_sem, gS, f3]
  refine (fun (key : (?T : Prop)) => ?main) ?rest
  case main =>
   refine gif_split (fun g1 => ?_) (fun g1 => ?_)
   ·have e4 : k = 4 := of_decide_eq_true g1
    have n3 : decide (k = 3) = false := by rw [e4]; decide
    have n8 : decide (k = 8) = false := by rw [e4]; decide
    simp -dsimp only [go_sem, gS, f3, g1]
    refine newK_hp (fun b6 f6 => ?_)
    simp only [off_cons, off_nil] at f6
    simp -dsimp only [go_sem, gS, f3, f6]
    refine builtin04_ok _ ⟨nm, xs.length⟩ _ ?_
    simp -dsimp only [go_sem, gS, f3, f6]
    cases hb : isBuiltin ⟨nm, xs.length⟩ with
    | true =>
     simp -dsimp only [go_sem, gS, f3, f6, n3, n8]
     refine svc_loop (X := Nat × Bool) (fun x => [(0, .d (.slice (l.map It.d))), (3, .ref b3 0), (5, .d (.bool x.2)), (49, .d (.slice (xs.map Tm.d))), (50, .d (.int .i64 xs.length)), (51, .d (.int .i64 x.1))])
      (fun x G => G = hp H [(b3, .var [.d (.int .i64 k), .d (.int .i64 ak), .d (.str an), .d (.int .i64 ai), .d (.slice (Tm.ds aa)), .d (.int .i64 bk), .d (.str bn), .d (.int .i64 bi), .d (.slice (Tm.ds ba)), .d (.str nm), .d (.slice (xs.map Tm.d)), .d (.slice (gs.map Gl.d))])] ∧ x.1 ≤ xs.length ∧ (x.2 && tmOks l (xs.drop x.1)) = (glHead l k (.mk ak an ai aa) (.mk bk bn bi ba) nm xs.length && tmOks l xs)) (fun x => xs.length - x.1) (0, true) _ ⟨rfl, by simp, by simp only [glHead, hb, Bool.true_or, Bool.true_and, List.drop_zero, if_pos e4]⟩ (by simp -dsimp only [go_sem, gS]) (leH_hp (by simp only [hpS, eq_self, implies_true, f3, f6]) (by simp only [hpS, eq_self, implies_true, f3, f6])) ?_
     exact key
    | false =>
     simp -dsimp only [go_sem, gS, f3, f6]
     refine count_ok _ l hl.len 2 ⟨nm, xs.length⟩ _ ?_
     simp -dsimp only [go_sem, gS, f3, f6, n3, n8]
     refine svc_loop (X := Nat × Bool) (fun x => [(0, .d (.slice (l.map It.d))), (3, .ref b3 0), (5, .d (.bool x.2)), (49, .d (.slice (xs.map Tm.d))), (50, .d (.int .i64 xs.length)), (51, .d (.int .i64 x.1))])
      (fun x G => G = hp H [(b3, .var [.d (.int .i64 k), .d (.int .i64 ak), .d (.str an), .d (.int .i64 ai), .d (.slice (Tm.ds aa)), .d (.int .i64 bk), .d (.str bn), .d (.int .i64 bi), .d (.slice (Tm.ds ba)), .d (.str nm), .d (.slice (xs.map Tm.d)), .d (.slice (gs.map Gl.d))])] ∧ x.1 ≤ xs.length ∧ (x.2 && tmOks l (xs.drop x.1)) = (glHead l k (.mk ak an ai aa) (.mk bk bn bi ba) nm xs.length && tmOks l xs)) (fun x => xs.length - x.1) (0, decide ((0 : Int) < (rcount l 2 ⟨nm, xs.length⟩ : Int))) _ ⟨rfl, by simp, by simp only [glHead, hb, Bool.false_or, List.drop_zero, if_pos e4]⟩ (by simp -dsimp only [go_sem, gS]) (leH_hp (by simp only [hpS, eq_self, implies_true, f3, f6]) (by simp only [hpS, eq_self, implies_true, f3, f6])) ?_
     exact key
   ·have e4 : k ≠ 4 := of_decide_eq_false g1
    simp -dsimp only [go_sem, gS, f3, g1]
    refine gif_split (fun g2 => ?_) (fun g2 => ?_)
    ·have e3 : k = 3 := of_decide_eq_true g2
     have n8 : decide (k = 8) = false := by rw [e3]; decide
     simp -dsimp only [go_sem, gS, f3, g2]
     refine hterm (.mk ak an ai aa) hsa _ _ ?_
     simp -dsimp only [go_sem, gS, f3]
     cases ha : tmOk l (.mk ak an ai aa) with
     | false =>
      simp -dsimp only [go_sem, gS, f3, n8]
      refine svc_loop (X := Nat × Bool) (fun x => [(0, .d (.slice (l.map It.d))), (3, .ref b3 0), (5, .d (.bool x.2)), (49, .d (.slice (xs.map Tm.d))), (50, .d (.int .i64 xs.length)), (51, .d (.int .i64 x.1))])
       (fun x G => G = hp H [(b3, .var [.d (.int .i64 k), .d (.int .i64 ak), .d (.str an), .d (.int .i64 ai), .d (.slice (Tm.ds aa)), .d (.int .i64 bk), .d (.str bn), .d (.int .i64 bi), .d (.slice (Tm.ds ba)), .d (.str nm), .d (.slice (xs.map Tm.d)), .d (.slice (gs.map Gl.d))])] ∧ x.1 ≤ xs.length ∧ (x.2 && tmOks l (xs.drop x.1)) = (glHead l k (.mk ak an ai aa) (.mk bk bn bi ba) nm xs.length && tmOks l xs)) (fun x => xs.length - x.1) (0, false) _ ⟨rfl, by simp, by simp only [glHead, ha, if_neg e4, if_pos e3, Bool.false_and, List.drop_zero]⟩ (by simp -dsimp only [go_sem, gS]) (leH_hp (by simp only [hpS, eq_self, implies_true, f3]) (by simp only [hpS, eq_self, implies_true, f3])) ?_
      exact key
     | true =>
      simp -dsimp only [go_sem, gS, f3]
      refine hterm (.mk bk bn bi ba) hsb _ _ ?_
      simp -dsimp only [go_sem, gS, f3, n8]
      refine svc_loop (X := Nat × Bool) (fun x => [(0, .d (.slice (l.map It.d))), (3, .ref b3 0), (5, .d (.bool x.2)), (49, .d (.slice (xs.map Tm.d))), (50, .d (.int .i64 xs.length)), (51, .d (.int .i64 x.1))])
       (fun x G => G = hp H [(b3, .var [.d (.int .i64 k), .d (.int .i64 ak), .d (.str an), .d (.int .i64 ai), .d (.slice (Tm.ds aa)), .d (.int .i64 bk), .d (.str bn), .d (.int .i64 bi), .d (.slice (Tm.ds ba)), .d (.str nm), .d (.slice (xs.map Tm.d)), .d (.slice (gs.map Gl.d))])] ∧ x.1 ≤ xs.length ∧ (x.2 && tmOks l (xs.drop x.1)) = (glHead l k (.mk ak an ai aa) (.mk bk bn bi ba) nm xs.length && tmOks l xs)) (fun x => xs.length - x.1) (0, tmOk l (.mk bk bn bi ba)) _ ⟨rfl, by simp, by simp only [glHead, ha, if_neg e4, if_pos e3, Bool.true_and, List.drop_zero]⟩ (by simp -dsimp only [go_sem, gS]) (leH_hp (by simp only [hpS, eq_self, implies_true, f3]) (by simp only [hpS, eq_self, implies_true, f3])) ?_
      exact key
    ·have e3 : k ≠ 3 := of_decide_eq_false g2
     simp -dsimp only [go_sem, gS, f3, g2]
     refine gif_split (fun g5 => ?_) (fun g5 => ?_)
     ·have e8 : k = 8 := of_decide_eq_true g5
      simp -dsimp only [go_sem, gS, f3, g5]
      refine hterm (.mk ak an ai aa) hsa _ _ ?_
      simp -dsimp only [go_sem, gS, f3]
      refine svc_loop (X := Nat × Bool) (fun x => [(0, .d (.slice (l.map It.d))), (3, .ref b3 0), (5, .d (.bool x.2)), (49, .d (.slice (xs.map Tm.d))), (50, .d (.int .i64 xs.length)), (51, .d (.int .i64 x.1))])
       (fun x G => G = hp H [(b3, .var [.d (.int .i64 k), .d (.int .i64 ak), .d (.str an), .d (.int .i64 ai), .d (.slice (Tm.ds aa)), .d (.int .i64 bk), .d (.str bn), .d (.int .i64 bi), .d (.slice (Tm.ds ba)), .d (.str nm), .d (.slice (xs.map Tm.d)), .d (.slice (gs.map Gl.d))])] ∧ x.1 ≤ xs.length ∧ (x.2 && tmOks l (xs.drop x.1)) = (glHead l k (.mk ak an ai aa) (.mk bk bn bi ba) nm xs.length && tmOks l xs)) (fun x => xs.length - x.1) (0, tmOk l (.mk ak an ai aa)) _ ⟨rfl, by simp, by simp only [glHead, if_neg e4, if_neg e3, if_pos e8, List.drop_zero]⟩ (by simp -dsimp only [go_sem, gS]) (leH_hp (by simp only [hpS, eq_self, implies_true, f3]) (by simp only [hpS, eq_self, implies_true, f3])) ?_
      exact key
     ·have e8 : k ≠ 8 := of_decide_eq_false g5
      simp -dsimp only [go_sem, gS, f3, g5]
      refine svc_loop (X := Nat × Bool) (fun x => [(0, .d (.slice (l.map It.d))), (3, .ref b3 0), (5, .d (.bool x.2)), (49, .d (.slice (xs.map Tm.d))), (50, .d (.int .i64 xs.length)), (51, .d (.int .i64 x.1))])
       (fun x G => G = hp H [(b3, .var [.d (.int .i64 k), .d (.int .i64 ak), .d (.str an), .d (.int .i64 ai), .d (.slice (Tm.ds aa)), .d (.int .i64 bk), .d (.str bn), .d (.int .i64 bi), .d (.slice (Tm.ds ba)), .d (.str nm), .d (.slice (xs.map Tm.d)), .d (.slice (gs.map Gl.d))])] ∧ x.1 ≤ xs.length ∧ (x.2 && tmOks l (xs.drop x.1)) = (glHead l k (.mk ak an ai aa) (.mk bk bn bi ba) nm xs.length && tmOks l xs)) (fun x => xs.length - x.1) (0, true) _ ⟨rfl, by simp, by simp only [glHead, if_neg e4, if_neg e3, if_neg e8, Bool.true_and, List.drop_zero]⟩ (by simp -dsimp only [go_sem, gS]) (leH_hp (by simp only [hpS, eq_self, implies_true, f3]) (by simp only [hpS, eq_self, implies_true, f3])) ?_
      exact key
  case rest =>
   rintro ⟨j, c⟩ G ⟨hG, hj, hrun⟩
   simp only at hj hrun
   subst hG
   simp -dsimp only [go_sem, gS]
   refine gif_split (fun g1 => ?_) (fun g1 => ?_)
   ·have g1' : j < xs.length := by have := of_decide_eq_true g1; omega
    obtain ⟨⟨tk, tn, ti, ta⟩, hx⟩ := list_at g1'
    have hw := wrapN (k := j) (by omega)
    rw [drop_at hx] at hrun
    simp only [tmOks] at hrun
    simp -dsimp only [go_sem, gS, g1, hx, Tm.d, Tm.cs]
    refine newK_hp (fun b8 f8 => ?_)
    simp only [off_cons, off_nil] at f8
    simp -dsimp only [go_sem, gS, f3, f8]
    cases c with
    | true =>
     simp -dsimp only [go_sem, gS, f3, f8]
     refine hterm (.mk tk tn ti ta) (Tm.smalls_mem hxs _ (List.mem_of_getElem? hx)) _ _ ?_
     simp -dsimp only [go_sem, gS, f3, f8, hw]
     exact roundQ_next (j + 1, tmOk l (.mk tk tn ti ta)) _ ⟨rfl, g1', by rw [← hrun, Bool.true_and]⟩ (by simp only; omega) (by simp -dsimp only [go_sem, gS]) (leH_hp (by simp only [hpS, eq_self, implies_true, f3, f8]) (by simp only [hpS, eq_self, implies_true, f3, f8]))
    | false =>
     simp -dsimp only [go_sem, gS, f3, f8, hw]
     exact roundQ_next (j + 1, false) _ ⟨rfl, g1', by rw [← hrun]; simp⟩ (by simp only; omega) (by simp -dsimp only [go_sem, gS]) (leH_hp (by simp only [hpS, eq_self, implies_true, f3, f8]) (by simp only [hpS, eq_self, implies_true, f3, f8]))
   ·rw [drop_end (by have := of_decide_eq_false g1; omega)] at hrun
    simp only [tmOks, Bool.and_true] at hrun
    rw [← hrun] at hK
    simp -dsimp only [go_sem, gS, g1, f3]
    refine svc_loop (X := Nat × Bool) (fun x => [(0, .d (.slice (l.map It.d))), (5, .d (.bool x.2)), (63, .d (.slice (gs.map Gl.d))), (64, .d (.int .i64 gs.length)), (65, .d (.int .i64 x.1))])
     (fun x G => G = hp H [] ∧ x.1 ≤ gs.length ∧ (x.2 && glOks l (gs.drop x.1)) = (c && glOks l gs)) (fun x => gs.length - x.1) (0, c) _ ⟨rfl, by simp, by simp only [List.drop_zero]⟩ (by simp -dsimp only [go_sem, gS]) ((leH_hp0 (by simp only [hpS, eq_self, implies_true, f3]))) ?_
    rintro ⟨j, d⟩ G ⟨hG, hj, hrun⟩
    simp only at hj hrun
    rw [hG]
    simp -dsimp only [go_sem, gS]
    refine gif_split (fun g1 => ?_) (fun g1 => ?_)
    ·have g1' : j < gs.length := by have := of_decide_eq_true g1; omega
     obtain ⟨g, hx⟩ := list_at g1'
     obtain ⟨x1, x2, x3, x4, x5, x6, x7, x8, x9, x10, x11, x12, hca⟩ := g.opn
     have hgd : g.d = .agg [x1, x2, x3, x4, x5, x6, x7, x8, x9, x10, x11, x12] := by rw [Gl.d, hca]
     have hw := wrapN (k := j) (by omega)
     rw [drop_at hx] at hrun
     simp only [glOks] at hrun
     simp -dsimp only [go_sem, gS, g1, hx, hgd]
     refine newK_hp (fun b10 f10 => ?_)
     simp only [off_cons, off_nil] at f10
     simp -dsimp only [go_sem, gS, f10]
     cases d with
     | true =>
      simp -dsimp only [go_sem, gS, f10]
      rw [← hgd]
      refine ih g (List.mem_of_getElem? hx) _ _ ?_
      simp -dsimp only [go_sem, gS, f10, hw]
      exact roundQ_next (j + 1, glOk l g) _ ⟨rfl, g1', by rw [← hrun, Bool.true_and]⟩ (by simp only; omega) (by simp -dsimp only [go_sem, gS]) (leH_hp0 (by simp only [hpS, eq_self, implies_true, f10]))
     | false =>
      simp -dsimp only [go_sem, gS, f10, hw]
      exact roundQ_next (j + 1, false) _ ⟨rfl, g1', by rw [← hrun]; simp⟩ (by simp only; omega) (by simp -dsimp only [go_sem, gS]) (leH_hp0 (by simp only [hpS, eq_self, implies_true, f10]))
    ·rw [drop_end (by have := of_decide_eq_false g1; omega)] at hrun
     simp only [glOks, Bool.and_true] at hrun
     rw [← hrun] at hK
     simp -dsimp only [go_sem, gS, g1]
     exact retW_drop (G := H) (leH_hp0 (by simp only [hpS, eq_self, implies_true, ])) (retW_is hK)
end Go.Aug

/- The layer of names: what is well named (printed by mkNmE.py). -/
namespace Go.Aug
open Go.Proofs
set_option maxRecDepth 100000
set_option linter.unusedSimpArgs false
attribute [local irreducible] hid andK letA onSome onVar onArr arrOnly onInt onBool onTup idxA ldV ldD addO appTo fillL slA srcK nilQ retW gif sgd sguard svc sops sdops sagain aopO aLoad aStore aBin aUn aConv aLen aIndexAddr aIndex aIndexAddrS aIndexS aSlice aAppend aBuild aBuildSlice aMakeSlice aField aFieldOf aCallOp deepK deepL frzM putE newK newV growV ACall roundQ thenQ inBlockQ sret cnd szs nilC onMap onRow aLookup aMapUpdate aMakeMap
attribute [local go_sem] Int.natCast_zero
/-- None of these stands ahead of itself. -/
def noTwice : List ByteArray → List ByteArray → Bool
 | _, [] => true
 | pre, v :: vs => !(pre.any fun x => decide (x = v)) && noTwice (pre ++ [v]) vs
def ctWell (l : List It) (vars : List ByteArray) (c : Ct) : Bool := decide (((rctors l ⟨c.name, c.args.length⟩ : Nat) : Int) = 1) && tyOks l true vars c.args
def wellType (l : List It) (it : It) : Bool := (decide ((l.countP (tyOf it.name) : Int) = 1) && noTwice [] it.vars) && it.ctors.all (ctWell l it.vars)
def wellPred (l : List It) (it : It) : Bool := ((!isBuiltin (keyOf it) && decide ((rcount l 2 (keyOf it) : Int) = 1)) && !decide ((rcount l 3 (keyOf it) : Int) = 0)) && tyOks l false [] it.types
def other (i : Nat) (q : Ky) (w : List Bool) (k : Nat) (x : It) : Bool := !decide ((k : Int) = (i : Int)) && (decide (x.kind = 3) && (Ky.eqb (keyOf x) q && sameWays x.ways w))
def noOther (i : Nat) (q : Ky) (w : List Bool) : Nat → List It → Bool
 | _, [] => true
 | k, x :: xs => !other i q w k x && noOther i q w (k + 1) xs
def wellMode (l : List It) (i : Nat) (it : It) : Bool := (!isBuiltin (keyOf it) && !decide ((rcount l 2 (keyOf it) : Int) = 0)) && noOther i (keyOf it) it.ways 0 l
def wellClause (l : List It) (it : It) : Bool := ((!isBuiltin (keyOf it) && !decide ((rcount l 2 (keyOf it) : Int) = 0)) && glOk l it.body) && tmOks l it.args
def rwell (l : List It) (i : Nat) (it : It) : Bool :=
 if it.kind = 1 then wellType l it else if it.kind = 2 then wellPred l it else if it.kind = 3 then wellMode l i it else if it.kind = 4 then wellClause l it else true
/-- An item whose rows are not too long. -/
structure It.small (it : It) : Prop where
 vars : it.vars.length ≤ 32768
 nct : it.ctors.length ≤ 32768
 ctors : ∀ c ∈ it.ctors, c.args.length ≤ 32768 ∧ Ty.smalls c.args
 types : it.types.length ≤ 32768 ∧ Ty.smalls it.types
 ways : it.ways.length ≤ 32768
 args : it.args.length ≤ 32768 ∧ Tm.smalls it.args
 body : it.body.small
set_option maxHeartbeats 8000000 in
theorem well_ok {eb : EbG} (l : List It) (hl : Src l) (hws : ∀ x ∈ l, x.ways.length ≤ 1048576) (i : Nat) (it : It) (hi : l[i]? = some it) (hs : it.small) (H : Heap) (K : A → Heap → Prop) (hK : K (.d (.bool (rwell l i it))) H) :
  ACall Tryd.prog (seatV eb) 55 [.d (.slice (l.map It.d)), .d (.int .i64 i)] H K := by
 have hvl := hs.vars
 have hcl := hs.nct
 have htl := hs.types.1
 obtain ⟨x1, x2, x3, x4, x5, x6, x7, x8, x9, x10, x11, x12, hbody, hd⟩ := it.opn
 have hgd : it.body.d = .agg [x1, x2, x3, x4, x5, x6, x7, x8, x9, x10, x11, x12] := by rw [Gl.d, hbody]
 refine ACall.hp_start ?_
 refine ACall.by mixed fn55 (by simp) ?_
 conv in s55 => cbv
 refine svc_start ?_
 simp -dsimp only [go_sem, gS, hi, hd]
 refine newK_hp (fun b5 f5 => ?_)
 simp only [off_cons, off_nil] at f5
 simp -dsimp only [go_sem, gS, f5]
 rw [← hd]
 refine keyOf_ok _ it _ ?_
 simp -dsimp only [go_sem, gS, f5, Ky.d, Ky.cs]
 refine newK_hp (fun b6 f6 => ?_)
 simp only [off_cons, off_nil] at f6
 simp -dsimp only [go_sem, gS, f5, f6]
 refine gif_split (fun g1 => ?_) (fun g1 => ?_)
 ·have e1 : it.kind = 1 := of_decide_eq_true g1
  rw [rwell, if_pos e1] at hK
  have hno : (wellType l it = false) → K (.d (.bool false)) H := fun h => by rw [h] at hK; exact hK
  simp -dsimp only [go_sem, gS, f5, f6, g1]
  refine types_ok _ l hl.len it.name 0 _ ?_
  simp -dsimp only [go_sem, gS, f5, f6]
  refine gif_split (fun g2 => ?_) (fun g2 => ?_)
  ·simp -dsimp only [go_sem, gS, g2]
   exact retW_drop (G := H) (leH_hp0 (by simp only [hpS, eq_self, implies_true, f5, f6])) (retW_is (hno (by simp only [wellType]; rw [show decide ((l.countP (tyOf it.name) : Int) = 1) = false by simpa using g2]; simp)))
  have c1 : decide ((l.countP (tyOf it.name) : Int) = 1) = true := by simpa using g2
  simp -dsimp only [go_sem, gS, g2, f5, f6]
  refine svc_loop (X := Nat) (fun k => [(0, .d (.slice (l.map It.d))), (5, .ref b5 0), (41, .d (.slice (it.vars.map .str))), (42, .d (.int .i64 it.vars.length)), (43, .d (.int .i64 k))])
   (fun k G => G = hp H [(b5, .var [.d (.int .i64 it.kind), .d (.str it.name), .d (.slice (it.vars.map .str)), .d (.slice (it.ctors.map Ct.d)), .d (.slice (it.types.map Ty.d)), .d (.slice (it.ways.map .bool)), .d (.int .i64 it.det), .d (.slice (it.args.map Tm.d)), .d x1, .d x2, .d x3, .d x4, .d x5, .d x6, .d x7, .d x8, .d x9, .d x10, .d x11, .d x12])] ∧ k ≤ it.vars.length ∧ noTwice (it.vars.take k) (it.vars.drop k) = noTwice [] it.vars) (fun k => it.vars.length - k) 0 _ ⟨rfl, by omega, by simp⟩ (by simp -dsimp only [go_sem, gS]) (leH_hp (by simp only [hpS, eq_self, implies_true, f5, f6]) (by simp only [hpS, eq_self, implies_true, f5, f6])) ?_
  rintro k G ⟨rfl, hk, hrun⟩
  simp -dsimp only [go_sem, gS]
  refine gif_split (fun g3 => ?_) (fun g3 => ?_)
  ·have g3' : k < it.vars.length := by have := of_decide_eq_true g3; omega
   obtain ⟨v, hv⟩ := list_at g3'
   have hw := wrapN (k := k) (by omega)
   have htk : it.vars.take (k + 1) = it.vars.take k ++ [v] := by rw [List.take_add_one, hv]; rfl
   rw [drop_at hv] at hrun
   simp only [noTwice] at hrun
   have hsz := szs_map (sz := 1) (f := D.str) (fun _ => rfl) it.vars
   simp -dsimp only [go_sem, gS, g3, hv, f5, hsz]
   refine andK_split (by omega) ?_
   simp -dsimp only [go_sem, gS]
   rw [← List.map_take]
   refine in_ok _ (it.vars.take k) (by rw [List.length_take]; omega) v _ ?_
   cases hin : (it.vars.take k).any (fun x => decide (x = v)) with
   | true =>
    rw [hin] at hrun
    simp -dsimp only [go_sem, gS]
    exact retW_drop (G := H) (leH_hp0 (by simp only [hpS, eq_self, implies_true, f5])) (retW_is (hno (by simp only [wellType, ← hrun]; simp)))
   | false =>
    rw [hin] at hrun
    simp -dsimp only [go_sem, gS, hw]
    exact roundQ_next (k + 1) _ ⟨rfl, g3', by rw [htk, ← hrun]; simp⟩ (by omega) (by simp -dsimp only [go_sem, gS]) (.refl _)
  have c2 : noTwice [] it.vars = true := by
   rw [drop_end (by have := of_decide_eq_false g3; omega)] at hrun
   rw [← hrun]; rfl
  simp -dsimp only [go_sem, gS, g3, f5]
  refine svc_loop (X := Nat) (fun k => [(0, .d (.slice (l.map It.d))), (5, .ref b5 0), (56, .d (.slice (it.ctors.map Ct.d))), (57, .d (.int .i64 it.ctors.length)), (58, .d (.int .i64 k))])
   (fun k G => G = hp H [(b5, .var [.d (.int .i64 it.kind), .d (.str it.name), .d (.slice (it.vars.map .str)), .d (.slice (it.ctors.map Ct.d)), .d (.slice (it.types.map Ty.d)), .d (.slice (it.ways.map .bool)), .d (.int .i64 it.det), .d (.slice (it.args.map Tm.d)), .d x1, .d x2, .d x3, .d x4, .d x5, .d x6, .d x7, .d x8, .d x9, .d x10, .d x11, .d x12])] ∧ k ≤ it.ctors.length ∧ (it.ctors.drop k).all (ctWell l it.vars) = it.ctors.all (ctWell l it.vars)) (fun k => it.ctors.length - k) 0 _ ⟨rfl, by omega, by simp only [List.drop_zero]⟩ (by simp -dsimp only [go_sem, gS]) (.refl _) ?_
  rintro k G ⟨rfl, hk, hrun⟩
  simp -dsimp only [go_sem, gS]
  refine gif_split (fun g4 => ?_) (fun g4 => ?_)
  ·have g4' : k < it.ctors.length := by have := of_decide_eq_true g4; omega
   obtain ⟨c, hc⟩ := list_at g4'
   have hw := wrapN (k := k) (by omega)
   have hcm := List.mem_of_getElem? hc
   rw [drop_at hc, List.all_cons] at hrun
   simp -dsimp only [go_sem, gS, g4, hc, Ct.d, Ct.cs]
   refine newK_hp (fun b12 f12 => ?_)
   simp only [off_cons, off_nil] at f12
   simp -dsimp only [go_sem, gS, f5, f12]
   refine ctors_ok _ l hl.len hl.ctors ⟨c.name, c.args.length⟩ _ ?_
   simp -dsimp only [go_sem, gS, f5, f12]
   refine gif_split (fun g5 => ?_) (fun g5 => ?_)
   ·have hcw : ctWell l it.vars c = false := by simp only [ctWell]; rw [show decide (((rctors l ⟨c.name, c.args.length⟩ : Nat) : Int) = 1) = false by simpa using g5, Bool.false_and]
    rw [hcw, Bool.false_and] at hrun
    simp -dsimp only [go_sem, gS, g5]
    exact retW_drop (G := H) (leH_hp0 (by simp only [hpS, eq_self, implies_true, f5, f12])) (retW_is (hno (by simp only [wellType, ← hrun]; simp)))
   have hc1 : decide (((rctors l ⟨c.name, c.args.length⟩ : Nat) : Int) = 1) = true := by simpa using g5
   have hcs := hs.ctors c hcm
   simp -dsimp only [go_sem, gS, g5, f5, f12]
   refine svc_loop (X := Nat) (fun j => [(0, .d (.slice (l.map It.d))), (5, .ref b5 0), (56, .d (.slice (it.ctors.map Ct.d))), (57, .d (.int .i64 it.ctors.length)), (58, .d (.int .i64 k)), (72, .d (.slice (c.args.map Ty.d))), (73, .d (.int .i64 c.args.length)), (74, .d (.int .i64 j))])
    (fun j G => G = hp H [(b5, .var [.d (.int .i64 it.kind), .d (.str it.name), .d (.slice (it.vars.map .str)), .d (.slice (it.ctors.map Ct.d)), .d (.slice (it.types.map Ty.d)), .d (.slice (it.ways.map .bool)), .d (.int .i64 it.det), .d (.slice (it.args.map Tm.d)), .d x1, .d x2, .d x3, .d x4, .d x5, .d x6, .d x7, .d x8, .d x9, .d x10, .d x11, .d x12])] ∧ j ≤ (c.args).length ∧ tyOks l true it.vars ((c.args).drop j) = tyOks l true it.vars (c.args)) (fun j => (c.args).length - j) 0 _ ⟨rfl, by simp, by simp only [List.drop_zero]⟩ (by simp -dsimp only [go_sem, gS]) (leH_hp (by simp only [hpS, eq_self, implies_true, f5, f12]) (by simp only [hpS, eq_self, implies_true, f5, f12])) ?_
   rintro j G ⟨hG, hj, hty⟩
   rw [hG]
   simp -dsimp only [go_sem, gS]
   refine gif_split (fun q1 => ?_) (fun q1 => ?_)
   ·have q1' : j < (c.args).length := by have := of_decide_eq_true q1; omega
    obtain ⟨⟨tv, tn, ta⟩, hx⟩ := list_at q1'
    have hwj := wrapN (k := j) (by omega)
    rw [drop_at hx] at hty
    simp only [tyOks] at hty
    simp -dsimp only [go_sem, gS, q1, hx, Ty.d, Ty.cs]
    refine newK_hp (fun b14 f14 => ?_)
    simp only [off_cons, off_nil] at f14
    simp -dsimp only [go_sem, gS, f5, f14]
    skip
    refine typ04_ok l hl true it.vars (by omega) _ (.mk tv tn ta) (Nat.le_refl _) (Ty.smalls_mem hcs.2 _ (List.mem_of_getElem? hx)) _ _ ?_
    cases ht : tyOk l true it.vars (.mk tv tn ta) with
    | true =>
     rw [ht, Bool.true_and] at hty
     simp -dsimp only [go_sem, gS, f5, f14, hwj]
     exact roundQ_next (j + 1) _ ⟨rfl, q1', hty⟩ (by omega) (by simp -dsimp only [go_sem, gS]) (leH_hp (by simp only [hpS, eq_self, implies_true, f5, f14]) (by simp only [hpS, eq_self, implies_true, f5, f14]))
    | false =>
     rw [ht, Bool.false_and] at hty
     simp -dsimp only [go_sem, gS, f5, f14]
     exact retW_drop (G := H) (leH_hp0 (by simp only [hpS, eq_self, implies_true, f5, f14])) (retW_is (hno (by
        have hcw : ctWell l it.vars c = false := by simp only [ctWell, ← hty, Bool.and_false]
        rw [hcw, Bool.false_and] at hrun
        simp only [wellType, ← hrun, Bool.and_false])))
   ·rw [drop_end (by have := of_decide_eq_false q1; omega)] at hty
    simp only [tyOks] at hty
    simp -dsimp only [go_sem, gS, q1, f5]
    have hcw : ctWell l it.vars c = true := by simp only [ctWell, hc1, ← hty, Bool.and_self]
    rw [hcw, Bool.true_and] at hrun
    simp -dsimp only [go_sem, gS, hw]
    exact roundQ_next (k + 1) _ ⟨rfl, g4', hrun⟩ (by omega) (by simp -dsimp only [go_sem, gS]) (leH_hp (by simp only [hpS, eq_self, implies_true, f5]) (by simp only [hpS, eq_self, implies_true, f5]))
  have c3 : it.ctors.all (ctWell l it.vars) = true := by
   rw [drop_end (by have := of_decide_eq_false g4; omega)] at hrun
   rw [← hrun]; rfl
  have hyes : wellType l it = true := by simp only [wellType, c1, c2, c3, Bool.and_self]
  rw [hyes] at hK
  simp -dsimp only [go_sem, gS, g4]
  exact retW_drop (G := H) (leH_hp0 (by simp only [hpS, eq_self, implies_true, f5])) (retW_is hK)
 have e1 : it.kind ≠ 1 := of_decide_eq_false g1
 rw [rwell, if_neg e1] at hK
 simp -dsimp only [go_sem, gS, g1]
 refine gif_split (fun g1 => ?_) (fun g1 => ?_)
 ·have e2 : it.kind = 2 := of_decide_eq_true g1
  rw [if_pos e2] at hK
  have hno : (wellPred l it = false) → K (.d (.bool false)) H := fun h => by rw [h] at hK; exact hK
  simp -dsimp only [go_sem, gS, f5, f6, g1]
  refine builtin04_ok _ (keyOf it) _ ?_
  cases hb : isBuiltin (keyOf it) with
  | true =>
   simp -dsimp only [go_sem, gS, f5, f6]
   exact retW_drop (G := H) (leH_hp0 (by simp only [hpS, eq_self, implies_true, f5, f6])) (retW_is (hno (by simp only [wellPred, hb]; simp)))
  | false =>
  simp -dsimp only [go_sem, gS, f5, f6]
  refine count_ok _ l hl.len 2 (keyOf it) _ ?_
  simp -dsimp only [go_sem, gS, f5, f6]
  refine gif_split (fun g2 => ?_) (fun g2 => ?_)
  ·have e2 : decide ((rcount l 2 (keyOf it) : Int) = 1) = false := by simpa using g2
   simp -dsimp only [go_sem, gS, f5, f6, g2]
   exact retW_drop (G := H) (leH_hp0 (by simp only [hpS, eq_self, implies_true, f5, f6])) (retW_is (hno (by simp only [wellPred, e2]; simp)))
  have e2 : decide ((rcount l 2 (keyOf it) : Int) = 1) = true := by simpa using g2
  simp -dsimp only [go_sem, gS, f5, f6, g2]
  refine count_ok _ l hl.len 3 (keyOf it) _ ?_
  simp -dsimp only [go_sem, gS, f5, f6]
  refine gif_split (fun g3 => ?_) (fun g3 => ?_)
  ·simp -dsimp only [go_sem, gS, f5, f6, g3]
   exact retW_drop (G := H) (leH_hp0 (by simp only [hpS, eq_self, implies_true, f5, f6])) (retW_is (hno (by simp only [wellPred, g3]; simp)))
  simp -dsimp only [go_sem, gS, f5, f6, g3]
  refine svc_loop (X := Nat) (fun j => [(0, .d (.slice (l.map It.d))), (103, .d (.slice (it.types.map Ty.d))), (104, .d (.int .i64 it.types.length)), (105, .d (.int .i64 j))])
   (fun j G => G = hp H [] ∧ j ≤ (it.types).length ∧ tyOks l false [] ((it.types).drop j) = tyOks l false [] (it.types)) (fun j => (it.types).length - j) 0 _ ⟨rfl, by simp, by simp only [List.drop_zero]⟩ (by simp -dsimp only [go_sem, gS]) (leH_hp0 (by simp only [hpS, eq_self, implies_true, f5, f6])) ?_
  rintro j G ⟨hG, hj, hty⟩
  rw [hG]
  simp -dsimp only [go_sem, gS]
  refine gif_split (fun q1 => ?_) (fun q1 => ?_)
  ·have q1' : j < (it.types).length := by have := of_decide_eq_true q1; omega
   obtain ⟨⟨tv, tn, ta⟩, hx⟩ := list_at q1'
   have hwj := wrapN (k := j) (by omega)
   rw [drop_at hx] at hty
   simp only [tyOks] at hty
   simp -dsimp only [go_sem, gS, q1, hx, Ty.d, Ty.cs]
   refine newK_hp (fun b16 f16 => ?_)
   simp only [off_cons, off_nil] at f16
   simp -dsimp only [go_sem, gS, f5, f6, f16]
   refine ACall.frz [false, false, false, true] ?_
   simp -dsimp only [go_sem, gS]
   refine typ04_ok l hl false [] (by simp) _ (.mk tv tn ta) (Nat.le_refl _) (Ty.smalls_mem hs.types.2 _ (List.mem_of_getElem? hx)) _ _ ?_
   cases ht : tyOk l false [] (.mk tv tn ta) with
   | true =>
    rw [ht, Bool.true_and] at hty
    simp -dsimp only [go_sem, gS, f5, f6, f16, hwj]
    exact roundQ_next (j + 1) _ ⟨rfl, q1', hty⟩ (by omega) (by simp -dsimp only [go_sem, gS]) (leH_hp0 (by simp only [hpS, eq_self, implies_true, f16]))
   | false =>
    rw [ht, Bool.false_and] at hty
    simp -dsimp only [go_sem, gS, f5, f6, f16]
    exact retW_drop (G := H) (leH_hp0 (by simp only [hpS, eq_self, implies_true, f16])) (retW_is (hno (by simp only [wellPred, ← hty, Bool.and_false])))
  ·rw [drop_end (by have := of_decide_eq_false q1; omega)] at hty
   simp only [tyOks] at hty
   simp -dsimp only [go_sem, gS, q1, f5, f6]
   have hyes : wellPred l it = true := by simp only [wellPred, hb, e2, g3, ← hty]; rfl
   rw [hyes] at hK
   exact retW_drop (G := H) (leH_hp0 (by simp only [hpS, eq_self, implies_true, f5])) (retW_is hK)
 have e2 : it.kind ≠ 2 := of_decide_eq_false g1
 rw [if_neg e2] at hK
 simp -dsimp only [go_sem, gS, g1]
 refine gif_split (fun g1 => ?_) (fun g1 => ?_)
 ·have e3 : it.kind = 3 := of_decide_eq_true g1
  rw [if_pos e3] at hK
  have hno : (wellMode l i it = false) → K (.d (.bool false)) H := fun h => by rw [h] at hK; exact hK
  simp -dsimp only [go_sem, gS, f5, f6, g1]
  refine builtin04_ok _ (keyOf it) _ ?_
  cases hb : isBuiltin (keyOf it) with
  | true =>
   simp -dsimp only [go_sem, gS, f5, f6]
   exact retW_drop (G := H) (leH_hp0 (by simp only [hpS, eq_self, implies_true, f5, f6])) (retW_is (hno (by simp only [wellMode, hb]; simp)))
  | false =>
  simp -dsimp only [go_sem, gS, f5, f6]
  refine count_ok _ l hl.len 2 (keyOf it) _ ?_
  simp -dsimp only [go_sem, gS, f5, f6]
  refine gif_split (fun g2 => ?_) (fun g2 => ?_)
  ·simp -dsimp only [go_sem, gS, f5, f6, g2]
   exact retW_drop (G := H) (leH_hp0 (by simp only [hpS, eq_self, implies_true, f5, f6])) (retW_is (hno (by simp only [wellMode, g2]; simp)))
  simp -dsimp only [go_sem, gS, f5, f6, g2]
  refine svc_loop (X := Nat) (fun k => [(1, .d (.int .i64 i)), (5, .ref b5 0), (6, .ref b6 0), (124, .d (.slice (l.map It.d))), (125, .d (.int .i64 l.length)), (126, .d (.int .i64 k))])
   (fun k G => G = hp H [(b5, .var [.d (.int .i64 it.kind), .d (.str it.name), .d (.slice (it.vars.map .str)), .d (.slice (it.ctors.map Ct.d)), .d (.slice (it.types.map Ty.d)), .d (.slice (it.ways.map .bool)), .d (.int .i64 it.det), .d (.slice (it.args.map Tm.d)), .d x1, .d x2, .d x3, .d x4, .d x5, .d x6, .d x7, .d x8, .d x9, .d x10, .d x11, .d x12]), (b6, .var [.d (.str (keyOf it).name), .d (.int .i64 (keyOf it).ar)])] ∧ k ≤ l.length ∧ noOther i (keyOf it) it.ways k (l.drop k) = noOther i (keyOf it) it.ways 0 l) (fun k => l.length - k) 0 _ ⟨rfl, by omega, by simp only [List.drop_zero]⟩ (by simp -dsimp only [go_sem, gS]) (.refl _) ?_
  rintro k G ⟨rfl, hk, hrun⟩
  simp -dsimp only [go_sem, gS]
  refine gif_split (fun g3 => ?_) (fun g3 => ?_)
  ·have g3' : k < l.length := by have := of_decide_eq_true g3; have := hl.len; omega
   obtain ⟨x, hx⟩ := list_at g3'
   have hw := wrapN (k := k) (by have := hl.len; omega)
   rw [drop_at hx] at hrun
   simp only [noOther] at hrun
   obtain ⟨y1, y2, y3, y4, y5, y6, y7, y8, y9, y10, y11, y12, _, hdx⟩ := x.opn
   have hgo : other i (keyOf it) it.ways k x = false → noOther i (keyOf it) it.ways (k + 1) (l.drop (k + 1)) = noOther i (keyOf it) it.ways 0 l := fun h => by
    rw [h] at hrun; exact hrun
   have hst : other i (keyOf it) it.ways k x = true → K (.d (.bool false)) H := fun h => hno (by
    rw [h] at hrun; simp only [wellMode, ← hrun]; simp)
   simp -dsimp only [go_sem, gS, g3, hx, hdx]
   refine newK_hp (fun b18 f18 => ?_)
   simp only [off_cons, off_nil] at f18
   simp -dsimp only [go_sem, gS, f5, f6, f18]
   refine gif_split (fun g4 => ?_) (fun g4 => ?_)
   ·simp -dsimp only [go_sem, gS, f5, f6, f18, g4]
    refine gif_split (fun g5 => ?_) (fun g5 => ?_)
    ·simp -dsimp only [go_sem, gS, f5, f6, f18, g5]
     rw [← hdx]
     refine keyOf_ok _ x _ ?_
     simp -dsimp only [go_sem, gS, f5, f6, f18, Ky.d, Ky.cs]
     have hkey : (decide ((keyOf x).name = (keyOf it).name) && (decide ((keyOf x).ar = (keyOf it).ar) && true)) = Ky.eqb (keyOf x) (keyOf it) := by simp [Ky.eqb]
     try rw [hkey]
     try rw [show (decide ((keyOf x).name = (keyOf it).name) && decide ((keyOf x).ar = (keyOf it).ar)) = Ky.eqb (keyOf x) (keyOf it) from rfl]
     cases hq : Ky.eqb (keyOf x) (keyOf it) with
     | true =>
      simp -dsimp only [go_sem, gS, f5, f6, f18]
      refine ways_ok _ x.ways it.ways (hws x (List.mem_of_getElem? hx)) _ ?_
      cases hq2 : sameWays x.ways it.ways with
      | true =>
       simp -dsimp only [go_sem, gS, f5, f6, f18]
       exact retW_drop (G := H) (leH_hp0 (by simp only [hpS, eq_self, implies_true, f5, f6, f18])) (retW_is (hst (by simp only [other, hq, hq2, Bool.and_true]; rw [g5, Bool.and_true]; simpa using g4)))
      | false =>
       simp -dsimp only [go_sem, gS, f5, f6, f18, hw]
       exact roundQ_next (k + 1) _ ⟨rfl, g3', hgo (by simp only [other, hq2, Bool.and_false])⟩ (by omega) (by simp -dsimp only [go_sem, gS]) (leH_hp (by simp only [hpS, eq_self, implies_true, f5, f6, f18]) (by simp only [hpS, eq_self, implies_true, f5, f6, f18]))
     | false =>
      simp -dsimp only [go_sem, gS, f5, f6, f18, hw]
      exact roundQ_next (k + 1) _ ⟨rfl, g3', hgo (by simp only [other, hq, Bool.false_and, Bool.and_false])⟩ (by omega) (by simp -dsimp only [go_sem, gS]) (leH_hp (by simp only [hpS, eq_self, implies_true, f5, f6, f18]) (by simp only [hpS, eq_self, implies_true, f5, f6, f18]))
    ·simp -dsimp only [go_sem, gS, f5, f6, f18, g5, hw]
     exact roundQ_next (k + 1) _ ⟨rfl, g3', hgo (by simp only [other, g5, Bool.false_and, Bool.and_false])⟩ (by omega) (by simp -dsimp only [go_sem, gS]) (leH_hp (by simp only [hpS, eq_self, implies_true, f5, f6, f18]) (by simp only [hpS, eq_self, implies_true, f5, f6, f18]))
   ·simp -dsimp only [go_sem, gS, f5, f6, f18, g4, hw]
    exact roundQ_next (k + 1) _ ⟨rfl, g3', hgo (by simp only [other]; rw [show (!decide ((k : Int) = (i : Int))) = false by simpa using g4, Bool.false_and])⟩ (by omega) (by simp -dsimp only [go_sem, gS]) (leH_hp (by simp only [hpS, eq_self, implies_true, f5, f6, f18]) (by simp only [hpS, eq_self, implies_true, f5, f6, f18]))
  have hyes : wellMode l i it = true := by
   rw [drop_end (by have := of_decide_eq_false g3; have := hl.len; omega)] at hrun
   simp only [wellMode, hb, g2, ← hrun]; rfl
  rw [hyes] at hK
  simp -dsimp only [go_sem, gS, g3]
  exact retW_drop (G := H) (leH_hp0 (by simp only [hpS, eq_self, implies_true, f5, f6])) (retW_is hK)
 have e3 : it.kind ≠ 3 := of_decide_eq_false g1
 rw [if_neg e3] at hK
 simp -dsimp only [go_sem, gS, g1]
 refine gif_split (fun g1 => ?_) (fun g1 => ?_)
 ·have e4 : it.kind = 4 := of_decide_eq_true g1
  rw [if_pos e4] at hK
  have hno : (wellClause l it = false) → K (.d (.bool false)) H := fun h => by rw [h] at hK; exact hK
  simp -dsimp only [go_sem, gS, f5, f6, g1]
  refine builtin04_ok _ (keyOf it) _ ?_
  cases hb : isBuiltin (keyOf it) with
  | true =>
   simp -dsimp only [go_sem, gS, f5, f6]
   exact retW_drop (G := H) (leH_hp0 (by simp only [hpS, eq_self, implies_true, f5, f6])) (retW_is (hno (by simp only [wellClause, hb]; simp)))
  | false =>
  simp -dsimp only [go_sem, gS, f5, f6]
  refine count_ok _ l hl.len 2 (keyOf it) _ ?_
  simp -dsimp only [go_sem, gS, f5, f6]
  refine gif_split (fun g2 => ?_) (fun g2 => ?_)
  ·simp -dsimp only [go_sem, gS, f5, f6, g2]
   exact retW_drop (G := H) (leH_hp0 (by simp only [hpS, eq_self, implies_true, f5, f6])) (retW_is (hno (by simp only [wellClause, g2]; simp)))
  simp -dsimp only [go_sem, gS, f5, f6, g2]
  rw [← hgd]
  refine goal04_ok l hl _ it.body (Nat.le_refl _) hs.body _ _ ?_
  cases hg : glOk l it.body with
  | false =>
   simp -dsimp only [go_sem, gS, f5, f6]
   exact retW_drop (G := H) (leH_hp0 (by simp only [hpS, eq_self, implies_true, f5, f6])) (retW_is (hno (by simp only [wellClause, hg]; simp)))
  | true =>
  simp -dsimp only [go_sem, gS, f5, f6]
  refine svc_loop (X := Nat) (fun j => [(0, .d (.slice (l.map It.d))), (171, .d (.slice (it.args.map Tm.d))), (172, .d (.int .i64 it.args.length)), (173, .d (.int .i64 j))])
   (fun j G => G = hp H [] ∧ j ≤ it.args.length ∧ tmOks l (it.args.drop j) = tmOks l it.args) (fun j => it.args.length - j) 0 _ ⟨rfl, by simp, by simp only [List.drop_zero]⟩ (by simp -dsimp only [go_sem, gS]) (leH_hp0 (by simp only [hpS, eq_self, implies_true, f5, f6])) ?_
  rintro j G ⟨hG, hj, hty⟩
  rw [hG]
  simp -dsimp only [go_sem, gS]
  refine gif_split (fun q1 => ?_) (fun q1 => ?_)
  ·have q1' : j < it.args.length := by have := of_decide_eq_true q1; omega
   obtain ⟨⟨tk, tn, ti, ta⟩, hx⟩ := list_at q1'
   have hal := hs.args.1
   have hwj := wrapN (k := j) (by omega)
   rw [drop_at hx] at hty
   simp only [tmOks] at hty
   simp -dsimp only [go_sem, gS, q1, hx, Tm.d, Tm.cs]
   refine newK_hp (fun b20 f20 => ?_)
   simp only [off_cons, off_nil] at f20
   simp -dsimp only [go_sem, gS, f20]
   refine term04_ok l hl _ (.mk tk tn ti ta) (Nat.le_refl _) (Tm.smalls_mem hs.args.2 _ (List.mem_of_getElem? hx)) _ _ ?_
   cases ht : tmOk l (.mk tk tn ti ta) with
   | true =>
    rw [ht, Bool.true_and] at hty
    simp -dsimp only [go_sem, gS, f20, hwj]
    exact roundQ_next (j + 1) _ ⟨rfl, q1', hty⟩ (by omega) (by simp -dsimp only [go_sem, gS]) (leH_hp0 (by simp only [hpS, eq_self, implies_true, f20]))
   | false =>
    rw [ht, Bool.false_and] at hty
    simp -dsimp only [go_sem, gS, f20]
    exact retW_drop (G := H) (leH_hp0 (by simp only [hpS, eq_self, implies_true, f20])) (retW_is (hno (by simp only [wellClause, ← hty]; simp)))
  rw [drop_end (by have := of_decide_eq_false q1; omega)] at hty
  simp only [tmOks] at hty
  have hyes : wellClause l it = true := by simp only [wellClause, hb, g2, hg, ← hty]; rfl
  rw [hyes] at hK
  simp -dsimp only [go_sem, gS, q1]
  exact retW_drop (G := H) (leH_hp0 (by simp only [hpS, eq_self, implies_true, ])) (retW_is hK)
 have e4 : it.kind ≠ 4 := of_decide_eq_false g1
 rw [if_neg e4] at hK
 simp -dsimp only [go_sem, gS, g1]
 exact retW_drop (G := H) (leH_hp0 (by simp only [hpS, eq_self, implies_true, f5, f6])) (retW_is hK)
end Go.Aug

/- The layer of names: the reference's index. -/
namespace Go.Aug
open Go.Proofs
set_option maxRecDepth 100000
set_option linter.unusedSimpArgs false
attribute [local irreducible] hid andK letA onSome onVar onArr arrOnly onInt onBool onTup idxA ldV ldD addO appTo fillL slA srcK nilQ retW gif sgd sguard svc sops sdops sagain aopO aLoad aStore aBin aUn aConv aLen aIndexAddr aIndex aIndexAddrS aIndexS aSlice aAppend aBuild aBuildSlice aMakeSlice aField aFieldOf aCallOp deepK deepL frzM putE newK newV growV ACall roundQ thenQ inBlockQ sret cnd szs nilC onMap onRow aLookup aMapUpdate aMakeMap
attribute [local go_sem] Int.natCast_zero
structure Cr where
 key : Ky
 type : ByteArray
 vars : List ByteArray
 args : List Ty
 tag : Int
def Cr.cs (c : Cr) : List D := [.str c.key.name, .int .i64 c.key.ar, .str c.type, .slice (c.vars.map .str), .slice (c.args.map Ty.d), .int .i64 c.tag]
def Cr.d (c : Cr) : D := .agg c.cs
structure Ix where
 types : List It
 ctors : List Cr
 preds : List Pr
def Ix.cs (x : Ix) : List D := [.slice (x.types.map It.d), .slice (x.ctors.map Cr.d), .slice (x.preds.map Pr.d)]
def Ix.d (x : Ix) : D := .agg x.cs
def ctsFrom (it : It) : Nat → List Ct → List Cr
 | _, [] => []
 | k, c :: cs => ⟨⟨c.name, c.args.length⟩, it.name, it.vars, c.args, k⟩ :: ctsFrom it (k + 1) cs
def modesOf (l : List It) (q : Ky) : List Md := (l.filter (isOf 3 q)).map fun y => ⟨y.ways, y.det⟩
def clsFrom (q : Ky) : Nat → List It → List Int
 | _, [] => []
 | j, y :: ys => if isOf 4 q y = true then (j : Int) :: clsFrom q (j + 1) ys else clsFrom q (j + 1) ys
def prOf (l : List It) (it : It) : Pr := ⟨keyOf it, it.types, modesOf l (keyOf it), clsFrom (keyOf it) 0 l⟩
def rstep (l : List It) (x : Ix) (it : It) : Ix :=
 if it.kind = 1 then ⟨x.types ++ [it], x.ctors ++ ctsFrom it 0 it.ctors, x.preds⟩
 else if it.kind = 2 then ⟨x.types, x.ctors, x.preds ++ [prOf l it]⟩ else x
def rfrom (l : List It) : Nat → List It → Ix → Option Ix
 | _, [], x => some x
 | i, it :: rest, x => if rwell l i it = true then rfrom l (i + 1) rest (rstep l x it) else none
/-- A source's index; none: it is not well named. -/
def rresolve (l : List It) : Option Ix := rfrom l 0 l ⟨[], [], builtinsL⟩
def ixD (o : Option Ix) : D := (o.getD ⟨[], [], []⟩).d
theorem preds04_new {eb : EbG} (H : Heap) (K : A → Heap → Prop) (hK : ∀ b v, H b = none → v.ownBlock = some b → K (.own b v) (upd H b (.arr 36 5 v (builtinsL.map Pr.d)))) : ACall Tryd.prog (seatV eb) 54 [] H K :=
 (preds04_own H).mono fun _ _ ⟨b, v, h1, h2, h3, h4⟩ => by rw [h1, h4]; exact hK b v h2 h3
/-- The index while it is made. -/
structure IxX where
 k : Nat
 x : Ix
 t : A
 c : A
 p : A
 R : Heap
abbrev pcT (l : List It) (a : A) : Pc := ⟨68, 20, l.map It.d, a⟩
abbrev pcC (l : List Cr) (a : A) : Pc := ⟨81, 6, l.map Cr.d, a⟩
abbrev pcM (l : List Md) (a : A) : Pc := ⟨117, 2, l.map Md.d, a⟩
abbrev pcI (l : List Int) (a : A) : Pc := ⟨3, 1, l.map (.int .i64), a⟩
abbrev Ix.ps (x : Ix) (t c p : A) : List Pc := [pcT x.types t, pcC x.ctors c, pcP x.preds p]
structure IxJ (H : Heap) (b2 b4 : Nat) (l : List It) (x : IxX) (G : Heap) : Prop where
 is : G = hp x.R [(b2, .var [.nils, .nils, .nils]), (b4, .var [x.t, x.c, x.p])]
 acc : AccN H [b2, b4] (x.x.ps x.t x.c x.p) x.R
 le : x.k ≤ l.length
 run : rfrom l x.k (l.drop x.k) x.x = rresolve l
 few : x.x.types.length ≤ x.k ∧ x.x.ctors.length ≤ x.k * 32768 ∧ x.x.preds.length ≤ 7 + x.k
/-- A source that the reference's names take. -/
structure Srcs (l : List It) : Prop where
 len : l.length ≤ 1048576
 small : ∀ it ∈ l, it.small
theorem Srcs.src {l : List It} (h : Srcs l) : Src l := ⟨h.len, fun it hit => (h.small it hit).nct⟩
set_option maxHeartbeats 8000000 in
theorem resolve04_ok {eb : EbG} (l : List It) (hl : Srcs l) (H : Heap) (K : A → Heap → Prop) (hK : K (.tup [.d (ixD (rresolve l)), .d (.bool (rresolve l).isSome)]) H) :
  ACall Tryd.prog (seatV eb) 20 [.d (.slice (l.map It.d))] H K := by
 have hlen := hl.len
 refine ACall.hp_start ?_
 refine ACall.by mixed fn20 (by simp) ?_
 conv in s20 => cbv
 refine svc_start ?_
 simp -dsimp only [go_sem, gS]
 refine newK_hp (fun b2 f2 => ?_)
 simp only [off_cons, off_nil] at f2
 simp -dsimp only [go_sem, gS, f2]
 refine preds04_new _ _ (fun b7 v7 h7 w7 => ?_)
 have f7 := off_of h7
 simp only [off_cons, off_nil] at f7
 simp -dsimp only [go_sem, gS, f2, f7]
 refine newK_hp (fun b4 f4 => ?_)
 simp only [off_cons, off_nil] at f4
 simp -dsimp only [go_sem, gS, f2, f7, f4]
 refine svc_loop (X := IxX) (fun x => [(0, .d (.slice (l.map It.d))), (2, .ref b2 0), (4, .ref b4 0), (14, .d (.slice (l.map It.d))), (15, .d (.int .i64 l.length)), (16, .d (.int .i64 x.k))])
  (IxJ H b2 b4 l) (fun x => l.length - x.k) ⟨0, ⟨[], [], builtinsL⟩, .nils, .nils, .own b7 v7, upd H b7 (.arr 36 5 v7 (builtinsL.map Pr.d))⟩ _
  ⟨rfl, (((AccN.none H [b2, b4]).new (by simp only [hpS, eq_self, implies_true, f7, f4, f2]) f7.2.2 w7).nil _ _).nil _ _, by simp, rfl, by simp [builtinsL]⟩ (by simp -dsimp only [go_sem, gS]) (by rw [hp_base (by simp only [hpS, eq_self, implies_true, f7, f4])]; exact (leH_hp (by simp only [hpS, eq_self, implies_true, f2, f7, f4, setL_cons, setL_nil]) (by simp only [hpS, eq_self, implies_true, f2, f7, f4, setL_cons, setL_nil]))) ?_
 rintro ⟨k, x, t, c, p, R⟩ G ⟨hG, hacc, hk, hrun, hfT, hfC, hfP⟩
 simp only at hG hacc hk hrun hfT hfC hfP
 subst hG
 simp -dsimp only [go_sem, gS]
 refine gif_split (fun g1 => ?_) (fun g1 => ?_)
 ·have g1' : k < l.length := by have := of_decide_eq_true g1; omega
  obtain ⟨it, hx⟩ := list_at g1'
  have hmem := List.mem_of_getElem? hx
  have hsm := hl.small it hmem
  have hw := wrapN (k := k) (by omega)
  rw [drop_at hx] at hrun
  simp only [rfrom] at hrun
  obtain ⟨x1, x2, x3, x4, x5, x6, x7, x8, x9, x10, x11, x12, hbody, hd⟩ := it.opn
  simp -dsimp only [go_sem, gS, g1, hx, hd]
  refine newK_hp (fun b6 f6 => ?_)
  simp only [off_cons, off_nil] at f6
  simp -dsimp only [go_sem, gS, f2, f4, f6]
  refine well_ok l hl.src (fun y hy => Nat.le_trans (hl.small y hy).ways (by decide)) k it hx hsm _ _ ?_
  cases hwl : rwell l k it with
  | false =>
   rw [hwl] at hrun
   simp only [Bool.false_eq_true, if_false] at hrun
   rw [← hrun] at hK
   simp -dsimp only [go_sem, gS, f2, f4, f6]
   refine retW_tup [true, true] ?_
   simp -dsimp only [go_sem, gS, f2, f4, f6]
   have f6H := hacc.le.free f6.2.2.2.2
   exact retW_drop (G := H) (leH_hp02 hacc.le (by simp only [hpS, eq_self, implies_true, f2, f4, f6H])) (retW_is hK)
  | true =>
   rw [hwl, if_pos rfl] at hrun
   simp -dsimp only [go_sem, gS, f2, f4, f6]
   refine gif_split (fun g2 => ?_) (fun g2 => ?_)
   ·have e1 : it.kind = 1 := of_decide_eq_true g2
    rw [rstep, if_pos e1] at hrun
    simp -dsimp only [go_sem, gS, f2, f4, f6, g2]
    refine newV_hp (fun b33 v33 f33 w33 => ?_)
    simp only [off_cons, off_nil] at f33
    simp -dsimp only [go_sem, gS, f2, f4, f6, f33]
    refine AccN.appTo (pre := []) (p := pcT x.types t) (post := [pcC x.ctors c, pcP x.preds p]) hacc (by simp only [hpS, eq_self, implies_true, f2, f4, f6, f33]) (by simp only [hpS, eq_self, implies_true, f4]) (by simp only [List.length_map, List.length_cons, List.length_nil]; omega) (fun t' R' hacc' hn => ?_)
    have f6' := hn b6 (by simp only [hpS, eq_self, implies_true, f2, f4, f6, f33]) f6.2.2.2.2
    have f33' := hn b33 (by simp only [hpS, eq_self, implies_true, f2, f4, f6, f33]) f33.2.2.2.2.2.2
    have hacc' : AccN H [b2, b4] [pcT (x.types ++ [it]) t', pcC x.ctors c, pcP x.preds p] R' := by
     have e : (x.types ++ [it]).map It.d = x.types.map It.d ++ [.agg [.int .i64 it.kind, .str it.name, .slice (it.vars.map .str), .slice (it.ctors.map Ct.d), .slice (it.types.map Ty.d), .slice (it.ways.map .bool), .int .i64 it.det, .slice (it.args.map Tm.d), x1, x2, x3, x4, x5, x6, x7, x8, x9, x10, x11, x12]] := by simp [hd]
     simp only [pcT, e]; exact hacc'
    have hone := AccN.one (pre := []) hacc'
    simp -dsimp only [go_sem, gS, f2, f4, f6, f33, hone]
    refine svc_loop (X := Nat × List Cr × A × Heap) (fun y => [(0, .d (.slice (l.map It.d))), (2, .ref b2 0), (4, .ref b4 0), (6, .ref b6 0), (14, .d (.slice (l.map It.d))), (15, .d (.int .i64 l.length)), (16, .d (.int .i64 k)), (37, .d (.slice (it.ctors.map Ct.d))), (38, .d (.int .i64 it.ctors.length)), (39, .d (.int .i64 y.1))])
     (fun y G => G = hp y.2.2.2 [(b2, .var [.nils, .nils, .nils]), (b4, .var [t', y.2.2.1, p]), (b6, .var [.d (.int .i64 it.kind), .d (.str it.name), .d (.slice (it.vars.map .str)), .d (.slice (it.ctors.map Ct.d)), .d (.slice (it.types.map Ty.d)), .d (.slice (it.ways.map .bool)), .d (.int .i64 it.det), .d (.slice (it.args.map Tm.d)), .d x1, .d x2, .d x3, .d x4, .d x5, .d x6, .d x7, .d x8, .d x9, .d x10, .d x11, .d x12])] ∧ AccN H [b2, b4] [pcT (x.types ++ [it]) t', pcC y.2.1 y.2.2.1, pcP x.preds p] y.2.2.2 ∧ y.2.2.2 b6 = none ∧ y.1 ≤ it.ctors.length ∧ y.2.1 ++ ctsFrom it y.1 (it.ctors.drop y.1) = x.ctors ++ ctsFrom it 0 it.ctors ∧ y.2.1.length ≤ x.ctors.length + y.1)
     (fun y => it.ctors.length - y.1) (0, x.ctors, c, R') _ ⟨rfl, hacc', f6', by simp, by simp, by simp⟩ (by simp -dsimp only [go_sem, gS]) (leH_hp (by simp only [hpS, eq_self, implies_true, f2, f4, f6, f33, f33']) (by simp only [hpS, eq_self, implies_true, f2, f4, f6, f33, f33'])) ?_
    rintro ⟨j, cs, c2, R2⟩ G ⟨hG, hacc2, f62, hj, hcs, hcl⟩
    simp only at hG hacc2 f62 hj hcs hcl
    subst hG
    have hnc := hsm.nct
    simp -dsimp only [go_sem, gS]
    refine gif_split (fun g3 => ?_) (fun g3 => ?_)
    ·have g3' : j < it.ctors.length := by have := of_decide_eq_true g3; omega
     obtain ⟨q, hq⟩ := list_at g3'
     have hwj := wrapN (k := j) (by omega)
     rw [drop_at hq] at hcs
     simp only [ctsFrom] at hcs
     simp -dsimp only [go_sem, gS, g3, hq, Ct.d, Ct.cs]
     refine newK_hp (fun b8 f8 => ?_)
     simp only [off_cons, off_nil] at f8
     simp -dsimp only [go_sem, gS, f2, f4, f6, f62, f8]
     refine newV_hp (fun b60 v60 f60 w60 => ?_)
     simp only [off_cons, off_nil] at f60
     simp -dsimp only [go_sem, gS, f2, f4, f6, f62, f8, f60]
     refine AccN.appTo (pre := [pcT (x.types ++ [it]) t']) (p := pcC cs c2) (post := [pcP x.preds p]) hacc2 (by simp only [hpS, eq_self, implies_true, f2, f4, f6, f62, f8, f60]) (by simp only [hpS, eq_self, implies_true, f4]) (by simp only [List.length_map, List.length_cons, List.length_nil]; omega) (fun c3 R3 hacc3 hn3 => ?_)
     have f63 := hn3 b6 (by simp only [hpS, eq_self, implies_true, f2, f4, f6, f62, f8, f60]) f62
     have f83 := hn3 b8 (by simp only [hpS, eq_self, implies_true, f2, f4, f6, f62, f8, f60]) f8.2.2.2.2.2.2
     have f603 := hn3 b60 (by simp only [hpS, eq_self, implies_true, f2, f4, f6, f62, f8, f60]) f60.2.2.2.2.2.2.2.2
     have hacc3 : AccN H [b2, b4] [pcT (x.types ++ [it]) t', pcC (cs ++ [⟨⟨q.name, q.args.length⟩, it.name, it.vars, q.args, j⟩]) c3, pcP x.preds p] R3 := by
      simp only [pcC, List.map_append, List.map_cons, List.map_nil, Cr.d, Cr.cs]; exact hacc3
     have hone3 := AccN.one (pre := [pcT (x.types ++ [it]) t']) hacc3
     simp -dsimp only [go_sem, gS, f2, f4, f6, f8, f60, hone3, hwj]
     refine roundQ_next (j + 1, cs ++ [⟨⟨q.name, q.args.length⟩, it.name, it.vars, q.args, j⟩], c3, R3) _ ⟨rfl, hacc3, f63, g3', by rw [← hcs]; simp, by simp only [List.length_append, List.length_cons, List.length_nil]; omega⟩ (by simp only; omega) (by simp -dsimp only [go_sem, gS]) (leH_hp (by simp only [hpS, eq_self, implies_true, f2, f4, f6, f8, f60, f63, f83, f603]) (by simp only [hpS, eq_self, implies_true, f2, f4, f6, f8, f60, f63, f83, f603]))
    ·have hfin : cs = x.ctors ++ ctsFrom it 0 it.ctors := by
      rw [drop_end (by have := of_decide_eq_false g3; omega)] at hcs
      simpa [ctsFrom] using hcs
     simp -dsimp only [go_sem, gS, g3, hw]
     refine roundQ_next ⟨k + 1, ⟨x.types ++ [it], cs, x.preds⟩, t', c2, p, R2⟩ _ ⟨rfl, hacc2, g1', by rw [hfin]; exact hrun, by simp only [List.length_append, List.length_cons, List.length_nil]; omega⟩ (by simp only; omega) (by simp -dsimp only [go_sem, gS]) (leH_hp (by simp only [hpS, eq_self, implies_true, f2, f4, f6, f62]) (by simp only [hpS, eq_self, implies_true, f2, f4, f6, f62]))
   ·have e1 : it.kind ≠ 1 := of_decide_eq_false g2
    simp -dsimp only [go_sem, gS, f2, f4, f6, g2]
    refine gif_split (fun g3 => ?_) (fun g3 => ?_)
    ·have e2 : it.kind = 2 := of_decide_eq_true g3
     rw [rstep, if_neg e1, if_pos e2] at hrun
     simp -dsimp only [go_sem, gS, f2, f4, f6, g3]
     refine (fun (key2 : ∀ b9 : Nat, (eqn b9 b2 = false ∧ eqn b2 b9 = false ∧ eqn b9 b4 = false ∧ eqn b4 b9 = false ∧ eqn b9 b6 = false ∧ eqn b6 b9 = false ∧ R b9 = none) → (?T2 : Nat → Prop) b9) => ?main2) ?rest2
     case main2 =>
      rw [← hd]
      refine And.intro ?_ ?_
      ·refine keyOf_ok _ it _ ?_
       simp -dsimp only [go_sem, gS, f2, f4, f6, hd, Ky.d, Ky.cs]
       refine And.intro ?_ ?_
       ·refine newK_hp (fun b9 f9 => ?_)
        simp only [off_cons, off_nil] at f9
        simp -dsimp only [go_sem, gS, f2, f4, f6, f9, hd]
        refine svc_loop (X := Nat × List Md × List Int × A × A × Heap) (fun y => [(0, .d (.slice (l.map It.d))), (2, .ref b2 0), (4, .ref b4 0), (9, .ref b9 0), (14, .d (.slice (l.map It.d))), (15, .d (.int .i64 l.length)), (16, .d (.int .i64 k)), (71, .d (.slice (l.map It.d))), (72, .d (.int .i64 l.length)), (73, .d (.int .i64 y.1))])
         (fun y G => G = hp y.2.2.2.2.2 [(b2, .var [.nils, .nils, .nils]), (b4, .var [t, c, p]), (b9, .var [.d (.str (keyOf it).name), .d (.int .i64 (keyOf it).ar), .d (.slice (it.types.map Ty.d)), y.2.2.2.1, y.2.2.2.2.1])] ∧ AccN H [b2, b4] [pcM y.2.1 y.2.2.2.1, pcI y.2.2.1 y.2.2.2.2.1, pcT x.types t, pcC x.ctors c, pcP x.preds p] y.2.2.2.2.2 ∧ y.2.2.2.2.2 b9 = none ∧ y.1 ≤ l.length ∧ y.2.1 ++ modesOf (l.drop y.1) (keyOf it) = modesOf l (keyOf it) ∧ y.2.2.1 ++ clsFrom (keyOf it) y.1 (l.drop y.1) = clsFrom (keyOf it) 0 l ∧ y.2.1.length ≤ y.1 ∧ y.2.2.1.length ≤ y.1)
         (fun y => l.length - y.1) (0, [], [], .nils, .nils, R) _ ⟨rfl, (hacc.nil _ _).nil _ _, f9.2.2.2.2.2.2, by simp, by simp, by simp, by simp, by simp⟩ (by simp -dsimp only [go_sem, gS]) (leH_hp (by simp only [hpS, eq_self, implies_true, f2, f4, f6, f9]) (by simp only [hpS, eq_self, implies_true, f2, f4, f6, f9])) ?_
        exact key2 b9 f9
       ·refine newK_hp (fun b9 f9 => ?_)
        simp only [off_cons, off_nil] at f9
        simp -dsimp only [go_sem, gS, f2, f4, f6, f9, hd]
        refine svc_loop (X := Nat × List Md × List Int × A × A × Heap) (fun y => [(0, .d (.slice (l.map It.d))), (2, .ref b2 0), (4, .ref b4 0), (9, .ref b9 0), (14, .d (.slice (l.map It.d))), (15, .d (.int .i64 l.length)), (16, .d (.int .i64 k)), (71, .d (.slice (l.map It.d))), (72, .d (.int .i64 l.length)), (73, .d (.int .i64 y.1))])
         (fun y G => G = hp y.2.2.2.2.2 [(b2, .var [.nils, .nils, .nils]), (b4, .var [t, c, p]), (b9, .var [.d (.str (keyOf it).name), .d (.int .i64 (keyOf it).ar), .d (.slice (it.types.map Ty.d)), y.2.2.2.1, y.2.2.2.2.1])] ∧ AccN H [b2, b4] [pcM y.2.1 y.2.2.2.1, pcI y.2.2.1 y.2.2.2.2.1, pcT x.types t, pcC x.ctors c, pcP x.preds p] y.2.2.2.2.2 ∧ y.2.2.2.2.2 b9 = none ∧ y.1 ≤ l.length ∧ y.2.1 ++ modesOf (l.drop y.1) (keyOf it) = modesOf l (keyOf it) ∧ y.2.2.1 ++ clsFrom (keyOf it) y.1 (l.drop y.1) = clsFrom (keyOf it) 0 l ∧ y.2.1.length ≤ y.1 ∧ y.2.2.1.length ≤ y.1)
         (fun y => l.length - y.1) (0, [], [], .nils, .nils, R) _ ⟨rfl, (hacc.nil _ _).nil _ _, f9.2.2.2.2.2.2, by simp, by simp, by simp, by simp, by simp⟩ (by simp -dsimp only [go_sem, gS]) (leH_hp (by simp only [hpS, eq_self, implies_true, f2, f4, f6, f9]) (by simp only [hpS, eq_self, implies_true, f2, f4, f6, f9])) ?_
        exact key2 b9 f9
      ·refine newK_hp (fun b9 f9 => ?_)
       simp only [off_cons, off_nil] at f9
       simp -dsimp only [go_sem, gS, f2, f4, f6, f9, hd]
       rw [← hd]
       refine keyOf_ok _ it _ ?_
       simp -dsimp only [go_sem, gS, f2, f4, f6, f9, hd, Ky.d, Ky.cs]
       refine svc_loop (X := Nat × List Md × List Int × A × A × Heap) (fun y => [(0, .d (.slice (l.map It.d))), (2, .ref b2 0), (4, .ref b4 0), (9, .ref b9 0), (14, .d (.slice (l.map It.d))), (15, .d (.int .i64 l.length)), (16, .d (.int .i64 k)), (71, .d (.slice (l.map It.d))), (72, .d (.int .i64 l.length)), (73, .d (.int .i64 y.1))])
        (fun y G => G = hp y.2.2.2.2.2 [(b2, .var [.nils, .nils, .nils]), (b4, .var [t, c, p]), (b9, .var [.d (.str (keyOf it).name), .d (.int .i64 (keyOf it).ar), .d (.slice (it.types.map Ty.d)), y.2.2.2.1, y.2.2.2.2.1])] ∧ AccN H [b2, b4] [pcM y.2.1 y.2.2.2.1, pcI y.2.2.1 y.2.2.2.2.1, pcT x.types t, pcC x.ctors c, pcP x.preds p] y.2.2.2.2.2 ∧ y.2.2.2.2.2 b9 = none ∧ y.1 ≤ l.length ∧ y.2.1 ++ modesOf (l.drop y.1) (keyOf it) = modesOf l (keyOf it) ∧ y.2.2.1 ++ clsFrom (keyOf it) y.1 (l.drop y.1) = clsFrom (keyOf it) 0 l ∧ y.2.1.length ≤ y.1 ∧ y.2.2.1.length ≤ y.1)
        (fun y => l.length - y.1) (0, [], [], .nils, .nils, R) _ ⟨rfl, (hacc.nil _ _).nil _ _, f9.2.2.2.2.2.2, by simp, by simp, by simp, by simp, by simp⟩ (by simp -dsimp only [go_sem, gS]) (leH_hp (by simp only [hpS, eq_self, implies_true, f2, f4, f6, f9]) (by simp only [hpS, eq_self, implies_true, f2, f4, f6, f9])) ?_
       exact key2 b9 f9
     case rest2 =>
      intro b9 f9
      rintro ⟨j, ms, cs, a1, a2, R1⟩ G ⟨hG, hacc1, f91, hj, hms, hcs, hml, hcl⟩
      simp only at hG hacc1 f91 hj hms hcs hml hcl
      subst hG
      simp -dsimp only [go_sem, gS]
      refine gif_split (fun q1 => ?_) (fun q1 => ?_)
      ·have q1' : j < l.length := by have := of_decide_eq_true q1; omega
       obtain ⟨y, hy⟩ := list_at q1'
       have hwj := wrapN (k := j) (by omega)
       rw [drop_at hy] at hms hcs
       simp only [clsFrom] at hcs
       obtain ⟨z1, z2, z3, z4, z5, z6, z7, z8, z9, z10, z11, z12, _, hdy⟩ := y.opn
       have hkey : ∀ a b : Ky, (decide (a.name = b.name) && decide (a.ar = b.ar)) = Ky.eqb a b := fun _ _ => rfl
       simp -dsimp only [go_sem, gS, q1, hy, hdy]
       refine newK_hp (fun b11 f11 => ?_)
       simp only [off_cons, off_nil] at f11
       simp -dsimp only [go_sem, gS, f2, f4, f9, f91, f11]
       refine gif_split (fun q2 => ?_) (fun q2 => ?_)
       ·have q2' : y.kind = 3 := of_decide_eq_true q2
        have q4 : decide (y.kind = 4) = false := by rw [q2']; decide
        have hn4 : isOf 4 (keyOf it) y = false := by simp only [isOf, q4, Bool.false_and]
        rw [hn4] at hcs
        simp only [Bool.false_eq_true, if_false] at hcs
        simp -dsimp only [go_sem, gS, f2, f4, f9, f91, f11, q2]
        rw [← hdy]
        refine keyOf_ok _ y _ ?_
        simp -dsimp only [go_sem, gS, f2, f4, f9, f91, f11, hdy, Ky.d, Ky.cs]
        rw [hkey]
        cases hq : Ky.eqb (keyOf y) (keyOf it) with
        | true =>
         have h3 : isOf 3 (keyOf it) y = true := by simp only [isOf, q2, hq, Bool.and_self]
         simp only [modesOf, List.filter_cons, h3, if_true, List.map_cons] at hms
         simp -dsimp only [go_sem, gS, f2, f4, f9, f91, f11]
         refine newV_hp (fun b95 v95 f95 w95 => ?_)
         simp only [off_cons, off_nil] at f95
         simp -dsimp only [go_sem, gS, f2, f4, f9, f91, f11, f95]
         refine AccN.appTo (pre := []) (p := pcM ms a1) (post := [pcI cs a2, pcT x.types t, pcC x.ctors c, pcP x.preds p]) hacc1 (by simp only [hpS, eq_self, implies_true, f2, f4, f9, f91, f11, f95]) (by simp only [hpS, eq_self, implies_true, f4]) (by simp only [List.length_map, List.length_cons, List.length_nil]; omega) (fun a3 R3 hacc3 hn3 => ?_)
         have f93 := hn3 b9 (by simp only [hpS, eq_self, implies_true, f2, f4, f9, f91, f11, f95]) f91
         have f113 := hn3 b11 (by simp only [hpS, eq_self, implies_true, f2, f4, f9, f91, f11, f95]) f11.2.2.2.2.2.2
         have f953 := hn3 b95 (by simp only [hpS, eq_self, implies_true, f2, f4, f9, f91, f11, f95]) f95.2.2.2.2.2.2.2.2
         have hacc3 : AccN H [b2, b4] [pcM (ms ++ [⟨y.ways, y.det⟩]) a3, pcI cs a2, pcT x.types t, pcC x.ctors c, pcP x.preds p] R3 := by
          simp only [pcM, List.map_append, List.map_cons, List.map_nil, Md.d, Md.cs]; exact hacc3
         have hone3 := AccN.one (pre := []) hacc3
         simp -dsimp only [go_sem, gS, f2, f4, f9, f11, f95, hone3, hwj, q4]
         refine roundQ_next (j + 1, ms ++ [⟨y.ways, y.det⟩], cs, a3, a2, R3) _ ⟨rfl, hacc3, f93, q1', by simp only [modesOf]; rw [← hms]; simp, hcs, by simp only [List.length_append, List.length_cons, List.length_nil]; omega, by simp only; omega⟩ (by simp only; omega) (by simp -dsimp only [go_sem, gS]) (leH_hp (by simp only [hpS, eq_self, implies_true, f2, f4, f9, f11, f95, f93, f113, f953]) (by simp only [hpS, eq_self, implies_true, f2, f4, f9, f11, f95, f93, f113, f953]))
        | false =>
         have h3 : isOf 3 (keyOf it) y = false := by simp only [isOf, hq, Bool.and_false]
         simp only [modesOf, List.filter_cons, h3, Bool.false_eq_true, if_false] at hms
         simp -dsimp only [go_sem, gS, f2, f4, f9, f91, f11, hwj, q4]
         refine roundQ_next (j + 1, ms, cs, a1, a2, R1) _ ⟨rfl, hacc1, f91, q1', hms, hcs, by simp only; omega, by simp only; omega⟩ (by simp only; omega) (by simp -dsimp only [go_sem, gS]) (leH_hp (by simp only [hpS, eq_self, implies_true, f2, f4, f9, f11, f91]) (by simp only [hpS, eq_self, implies_true, f2, f4, f9, f11, f91]))
       ·have h3 : isOf 3 (keyOf it) y = false := by simp only [isOf, q2, Bool.false_and]
        simp only [modesOf, List.filter_cons, h3, Bool.false_eq_true, if_false] at hms
        simp -dsimp only [go_sem, gS, f2, f4, f9, f91, f11, q2]
        refine gif_split (fun q3 => ?_) (fun q3 => ?_)
        ·simp -dsimp only [go_sem, gS, f2, f4, f9, f91, f11, q3]
         rw [← hdy]
         refine keyOf_ok _ y _ ?_
         simp -dsimp only [go_sem, gS, f2, f4, f9, f91, f11, hdy, Ky.d, Ky.cs]
         rw [hkey]
         cases hq : Ky.eqb (keyOf y) (keyOf it) with
         | true =>
          have h4 : isOf 4 (keyOf it) y = true := by simp only [isOf, q3, hq, Bool.and_self]
          rw [h4, if_pos rfl] at hcs
          simp -dsimp only [go_sem, gS, f2, f4, f9, f91, f11]
          refine newV_hp (fun b95 v95 f95 w95 => ?_)
          simp only [off_cons, off_nil] at f95
          simp -dsimp only [go_sem, gS, f2, f4, f9, f91, f11, f95]
          refine AccN.appTo (pre := [pcM ms a1]) (p := pcI cs a2) (post := [pcT x.types t, pcC x.ctors c, pcP x.preds p]) hacc1 (by simp only [hpS, eq_self, implies_true, f2, f4, f9, f91, f11, f95]) (by simp only [hpS, eq_self, implies_true, f4]) (by simp only [List.length_map, List.length_cons, List.length_nil]; omega) (fun a3 R3 hacc3 hn3 => ?_)
          have f93 := hn3 b9 (by simp only [hpS, eq_self, implies_true, f2, f4, f9, f91, f11, f95]) f91
          have f113 := hn3 b11 (by simp only [hpS, eq_self, implies_true, f2, f4, f9, f91, f11, f95]) f11.2.2.2.2.2.2
          have f953 := hn3 b95 (by simp only [hpS, eq_self, implies_true, f2, f4, f9, f91, f11, f95]) f95.2.2.2.2.2.2.2.2
          have hacc3 : AccN H [b2, b4] [pcM ms a1, pcI (cs ++ [(j : Int)]) a3, pcT x.types t, pcC x.ctors c, pcP x.preds p] R3 := by
           simp only [pcI, List.map_append, List.map_cons, List.map_nil]; exact hacc3
          have hone3 := AccN.one (pre := [pcM ms a1]) hacc3
          simp -dsimp only [go_sem, gS, f2, f4, f9, f11, f95, hone3, hwj]
          refine roundQ_next (j + 1, ms, cs ++ [(j : Int)], a1, a3, R3) _ ⟨rfl, hacc3, f93, q1', hms, by rw [← hcs]; simp, by simp only; omega, by simp only [List.length_append, List.length_cons, List.length_nil]; omega⟩ (by simp only; omega) (by simp -dsimp only [go_sem, gS]) (leH_hp (by simp only [hpS, eq_self, implies_true, f2, f4, f9, f11, f95, f93, f113, f953]) (by simp only [hpS, eq_self, implies_true, f2, f4, f9, f11, f95, f93, f113, f953]))
         | false =>
          have h4 : isOf 4 (keyOf it) y = false := by simp only [isOf, hq, Bool.and_false]
          rw [h4] at hcs
          simp only [Bool.false_eq_true, if_false] at hcs
          simp -dsimp only [go_sem, gS, f2, f4, f9, f91, f11, hwj]
          refine roundQ_next (j + 1, ms, cs, a1, a2, R1) _ ⟨rfl, hacc1, f91, q1', hms, hcs, by simp only; omega, by simp only; omega⟩ (by simp only; omega) (by simp -dsimp only [go_sem, gS]) (leH_hp (by simp only [hpS, eq_self, implies_true, f2, f4, f9, f11, f91]) (by simp only [hpS, eq_self, implies_true, f2, f4, f9, f11, f91]))
        ·have h4 : isOf 4 (keyOf it) y = false := by simp only [isOf, q3, Bool.false_and]
         rw [h4] at hcs
         simp only [Bool.false_eq_true, if_false] at hcs
         simp -dsimp only [go_sem, gS, f2, f4, f9, f91, f11, q3, hwj]
         refine roundQ_next (j + 1, ms, cs, a1, a2, R1) _ ⟨rfl, hacc1, f91, q1', hms, hcs, by simp only; omega, by simp only; omega⟩ (by simp only; omega) (by simp -dsimp only [go_sem, gS]) (leH_hp (by simp only [hpS, eq_self, implies_true, f2, f4, f9, f11, f91]) (by simp only [hpS, eq_self, implies_true, f2, f4, f9, f11, f91]))
      ·have hend := of_decide_eq_false q1
       rw [drop_end (by omega)] at hms hcs
       have hm : ms = modesOf l (keyOf it) := by simpa [modesOf] using hms
       have hc : cs = clsFrom (keyOf it) 0 l := by simpa [clsFrom] using hcs
       have hal := fun s => AccN.allD (pre := []) hacc1 (t := s)
       simp -dsimp only [go_sem, gS, q1, f2, f4, f9, f91, hal]
       refine AccN.deep (pre := []) (p := pcM ms a1) (post := [pcI cs a2, pcT x.types t, pcC x.ctors c, pcP x.preds p]) hacc1 (by simp only [hpS, eq_self, implies_true, f2, f4, f9, f91]) (fun R2 hacc2 hn2 => ?_)
       have f92 := hn2 b9 f91
       simp -dsimp only [go_sem, gS, f2, f4, f9, f92]
       refine AccN.deep (pre := []) (p := pcI cs a2) (post := [pcT x.types t, pcC x.ctors c, pcP x.preds p]) hacc2 (by simp only [hpS, eq_self, implies_true, f2, f4, f9, f92]) (fun R3 hacc3 hn3 => ?_)
       have f93 := hn3 b9 f92
       simp -dsimp only [go_sem, gS, f2, f4, f9, f93]
       refine newV_hp (fun b118 v118 f118 w118 => ?_)
       simp only [off_cons, off_nil] at f118
       simp -dsimp only [go_sem, gS, f2, f4, f9, f93, f118]
       refine AccN.appTo (pre := [pcT x.types t, pcC x.ctors c]) (p := pcP x.preds p) (post := []) hacc3 (by simp only [hpS, eq_self, implies_true, f2, f4, f9, f93, f118]) (by simp only [hpS, eq_self, implies_true, f4]) (by simp only [List.length_map, List.length_cons, List.length_nil]; omega) (fun p4 R4 hacc4 hn4 => ?_)
       have f94 := hn4 b9 (by simp only [hpS, eq_self, implies_true, f2, f4, f9, f93, f118]) f93
       have f1184 := hn4 b118 (by simp only [hpS, eq_self, implies_true, f2, f4, f9, f93, f118]) f118.2.2.2.2.2.2
       have hacc4 : AccN H [b2, b4] (Ix.ps ⟨x.types, x.ctors, x.preds ++ [prOf l it]⟩ t c p4) R4 := by
        simp only [Ix.ps, pcP, List.map_append, List.map_cons, List.map_nil, Pr.d, Pr.cs, prOf, ← hm, ← hc]; exact hacc4
       have hone4 := AccN.one (pre := [pcT x.types t, pcC x.ctors c]) hacc4
       simp -dsimp only [go_sem, gS, f2, f4, f9, f118, hone4, hw]
       refine roundQ_next ⟨k + 1, ⟨x.types, x.ctors, x.preds ++ [prOf l it]⟩, t, c, p4, R4⟩ _ ⟨rfl, hacc4, g1', hrun, by simp only [List.length_append, List.length_cons, List.length_nil]; omega⟩ (by simp only; omega) (by simp -dsimp only [go_sem, gS]) (leH_hp (by simp only [hpS, eq_self, implies_true, f2, f4, f9, f94, f118, f1184]) (by simp only [hpS, eq_self, implies_true, f2, f4, f9, f94, f118, f1184]))
    ·have e2 : it.kind ≠ 2 := of_decide_eq_false g3
     rw [rstep, if_neg e1, if_neg e2] at hrun
     simp -dsimp only [go_sem, gS, f2, f4, f6, g3, hw]
     exact roundQ_next ⟨k + 1, x, t, c, p, R⟩ _ ⟨rfl, hacc, g1', hrun, by simp only; omega⟩ (by simp only; omega) (by simp -dsimp only [go_sem, gS]) (leH_hp (by simp only [hpS, eq_self, implies_true, f2, f4, f6]) (by simp only [hpS, eq_self, implies_true, f2, f4, f6]))
 ·have hfin : rresolve l = some x := by
   rw [drop_end (by have := of_decide_eq_false g1; omega)] at hrun
   rw [← hrun]; rfl
  rw [hfin] at hK
  have hone := fun s => AccN.allD (pre := []) hacc (t := s)
  simp -dsimp only [go_sem, gS, g1, f2, f4, hone]
  refine retW_tup [true, true] ?_
  simp -dsimp only [go_sem, gS, f2, f4]
  refine AccN.deep (pre := []) (p := pcT x.types t) (post := [pcC x.ctors c, pcP x.preds p]) hacc (by simp only [hpS, eq_self, implies_true, f2, f4]) (fun R1 hacc1 hn1 => ?_)
  simp -dsimp only [go_sem, gS, f2, f4]
  refine AccN.deep (pre := []) (p := pcC x.ctors c) (post := [pcP x.preds p]) hacc1 (by simp only [hpS, eq_self, implies_true, f2, f4]) (fun R2 hacc2 hn2 => ?_)
  simp -dsimp only [go_sem, gS, f2, f4]
  refine AccN.deep (pre := []) (p := pcP x.preds p) (post := []) hacc2 (by simp only [hpS, eq_self, implies_true, f2, f4]) (fun R3 hacc3 hn3 => ?_)
  simp -dsimp only [go_sem, gS, f2, f4]
  exact retW_drop (G := H) (leH_hp02 hacc3.le (by simp only [hpS, eq_self, implies_true, f2, f4])) (retW_is hK)
end Go.Aug

/- The layer of names: what is read is not too long; a text's items and index. -/
namespace Go.Aug
open Go.Proofs
set_option maxRecDepth 100000
set_option linter.unusedSimpArgs false
attribute [local irreducible] hid andK letA onSome onVar onArr arrOnly onInt onBool onTup idxA ldV ldD addO appTo fillL slA srcK nilQ retW gif sgd sguard svc sops sdops sagain aopO aLoad aStore aBin aUn aConv aLen aIndexAddr aIndex aIndexAddrS aIndexS aSlice aAppend aBuild aBuildSlice aMakeSlice aField aFieldOf aCallOp deepK deepL frzM putE newK newV growV ACall roundQ thenQ inBlockQ sret cnd szs nilC onMap onRow aLookup aMapUpdate aMakeMap
attribute [local go_sem] Int.natCast_zero
theorem rargs_all {α : Type} {P : α → Prop} {p : RdS → α × RdS} {l : List Tok} (hp : ∀ s, P (p s).1) : ∀ (k : Nat) (xs : List α) (s : RdS), (∀ x ∈ xs, P x) → ∀ x ∈ (rargs p l k xs s).1, P x
 | 0, xs, s, h => h
 | k + 1, xs, s, h => by
  simp only [rargs]
  repeat' split
  ·refine rargs_all hp k _ _ fun x hx => ?_
   rcases List.mem_append.1 hx with hx | hx
   ·exact h x hx
   ·rw [List.mem_singleton.1 hx]; exact hp _
  ·exact h
  ·exact h
theorem rargs_length {α : Type} {p : RdS → α × RdS} {l : List Tok} : ∀ (k : Nat) (xs : List α) (s : RdS), (rargs p l k xs s).1.length ≤ xs.length + k
 | 0, xs, s => Nat.le_refl _
 | k + 1, xs, s => by
  simp only [rargs]
  repeat' split
  ·have := rargs_length (p := p) (l := l) k (xs ++ [(p (rmore l xs.length s).2).1]) (p (rmore l xs.length s).2).2
   simp only [List.length_append, List.length_cons, List.length_nil] at this; omega
  ·simp only; omega
  ·simp only; omega
theorem Tm.smalls_of : ∀ {ts : List Tm}, (∀ t ∈ ts, t.small) → Tm.smalls ts
 | [], _ => trivial
 | _ :: _, h => ⟨h _ (.head _), Tm.smalls_of fun t ht => h t (.tail _ ht)⟩
theorem Ty.smalls_of : ∀ {ts : List Ty}, (∀ t ∈ ts, t.small) → Ty.smalls ts
 | [], _ => trivial
 | _ :: _, h => ⟨h _ (.head _), Ty.smalls_of fun t ht => h t (.tail _ ht)⟩
theorem Gl.smalls_of : ∀ {ts : List Gl}, (∀ t ∈ ts, t.small) → Gl.smalls ts
 | [], _ => trivial
 | _ :: _, h => ⟨h _ (.head _), Gl.smalls_of fun t ht => h t (.tail _ ht)⟩
theorem Tm.small_leaf (k : Int) (n : ByteArray) (i : Int) : (Tm.mk k n i []).small := by simp [Tm.small, Tm.smalls]
theorem Ty.small_leaf (v : Bool) (n : ByteArray) : (Ty.mk v n []).small := by simp [Ty.small, Ty.smalls]
theorem rterm_small {l : List Tok} : ∀ (f n : Nat) (s : RdS), (rterm f l n s).1.small
 | 0, _, _ => Tm.small_leaf _ _ _
 | f + 1, n, s => by
  have hrow : ∀ s, (Tm.mk 3 (rword l 1 (rnest l n s)).1 0 (rargs (rterm f l (n + 1)) l 10 [] (rword l 1 (rnest l n s)).2).1).small := fun s => by
   refine ⟨?_, Tm.smalls_of (rargs_all (fun s => rterm_small f (n + 1) s) 10 [] _ (by simp))⟩
   have := rargs_length (p := rterm f l (n + 1)) (l := l) 10 [] (rword l 1 (rnest l n s)).2
   simp only [List.length_nil] at this; omega
  simp only [rterm]
  split
  ·split
   ·exact Tm.small_leaf _ _ _
   ·split
    ·exact Tm.small_leaf _ _ _
    ·exact hrow s
  ·exact hrow s
theorem rtype_small {l : List Tok} : ∀ (f n : Nat) (s : RdS), (rtype f l n s).1.small
 | 0, _, _ => Ty.small_leaf _ _
 | f + 1, n, s => by
  have hrow : ∀ nm s, (Ty.mk false nm (rargs (rtype f l (n + 1)) l 10 [] s).1).small := fun nm s => by
   refine ⟨?_, Ty.smalls_of (rargs_all (fun s => rtype_small f (n + 1) s) 10 [] _ (by simp))⟩
   have := rargs_length (p := rtype f l (n + 1)) (l := l) 10 [] s
   simp only [List.length_nil] at this; omega
  simp only [rtype]
  repeat' split
  all_goals first
   | exact Ty.small_leaf _ _
   | exact hrow _ _
theorem Tm.small_none : Tm.none.small := Tm.small_leaf _ _ _
theorem rands_all {P : Gl → Prop} {p : RdS → Gl × RdS} {l : List Tok} (hp : ∀ s, P (p s).1) : ∀ (k : Nat) (gs : List Gl) (s : RdS), (∀ x ∈ gs, P x) → ∀ x ∈ (rands p l k gs s).1, P x
 | 0, gs, s, h => h
 | k + 1, gs, s, h => by
  simp only [rands]
  split
  ·refine rands_all hp k _ _ fun x hx => ?_
   rcases List.mem_append.1 hx with hx | hx
   ·exact h x hx
   ·rw [List.mem_singleton.1 hx]; exact hp _
  ·exact h
theorem rands_length {p : RdS → Gl × RdS} {l : List Tok} : ∀ (k : Nat) (gs : List Gl) (s : RdS), (rands p l k gs s).1.length ≤ gs.length + k
 | 0, gs, s => Nat.le_refl _
 | k + 1, gs, s => by
  simp only [rands]
  split
  ·have := rands_length (p := p) (l := l) k (gs ++ [(p (rgot l kComma s).2).1]) (p (rgot l kComma s).2).2
   simp only [List.length_append, List.length_cons, List.length_nil] at this; omega
  ·simp only; omega
theorem Gl.small_none (k : Int) : (Gl.mk k .none .none ⟨#[]⟩ [] []).small := by
 simp [Gl.small, Gl.smalls, Tm.smalls, Tm.small_none]
theorem Gl.small_row (k : Int) {gs : List Gl} (h : ∀ g ∈ gs, g.small) (hl : gs.length ≤ 32768) : (Gl.mk k .none .none ⟨#[]⟩ [] gs).small := by
 simp only [Gl.small, Tm.smalls, List.length_nil]
 exact ⟨Tm.small_none, Tm.small_none, by omega, trivial, hl, Gl.smalls_of h⟩
theorem headD_all {P : Gl → Prop} {gs : List Gl} (h : ∀ g ∈ gs, P g) (hd : P default) : P (gs.headD default) := by
 cases gs with
 | nil => exact hd
 | cons g gs => exact h g (.head _)
theorem rway_small {p : RdS → Gl × RdS} {l : List Tok} (hl : l.length ≤ 16384) (hp : ∀ s, (p s).1.small) (s : RdS) : (rway p l s).1.small := by
 simp only [rway, allOf]
 have h1 := rands_all (l := l) hp l.length [(p s).1] (p s).2 (by simp [hp])
 have h2 := rands_length (p := p) (l := l) l.length [(p s).1] (p s).2
 simp only [List.length_cons, List.length_nil] at h2
 split
 ·exact Gl.small_row 5 h1 (by omega)
 ·exact headD_all h1 (Gl.small_none _)
theorem rors_all {p : RdS → Gl × RdS} {l : List Tok} (hl : l.length ≤ 16384) (hp : ∀ s, (p s).1.small) : ∀ (k : Nat) (os : List Gl) (s : RdS), (∀ x ∈ os, x.small) → ∀ x ∈ (rors p l k os s).1, x.small
 | 0, os, s, h => h
 | k + 1, os, s, h => by
  have h2 : ∀ x ∈ os ++ [(rway p l s).1], x.small := fun x hx => by
   rcases List.mem_append.1 hx with hx | hx
   ·exact h x hx
   ·rw [List.mem_singleton.1 hx]; exact rway_small hl hp s
  simp only [rors]
  repeat' split
  ·exact rors_all hl hp k _ _ h2
  ·exact h2
  ·exact h
theorem rors_length {p : RdS → Gl × RdS} {l : List Tok} : ∀ (k : Nat) (os : List Gl) (s : RdS), (rors p l k os s).1.length ≤ os.length + k
 | 0, os, s => Nat.le_refl _
 | k + 1, os, s => by
  simp only [rors]
  repeat' split
  ·have := rors_length (p := p) (l := l) k (os ++ [(rway p l s).1]) (rgot l kSemi (rway p l s).2).2
   simp only [List.length_append, List.length_cons, List.length_nil] at this; omega
  ·simp only [List.length_append, List.length_cons, List.length_nil]; omega
  ·simp only; omega
theorem rgoalW_small {p : RdS → Gl × RdS} {l : List Tok} (hl : l.length ≤ 16384) (hp : ∀ s, (p s).1.small) (s : RdS) : (rgoalW p l s).1.small := by
 simp only [rgoalW, anyOf]
 have h1 := rors_all hl hp (l.length + 1) [] s (by simp)
 have h2 := rors_length (p := p) (l := l) (l.length + 1) [] s
 simp only [List.length_nil] at h2
 split
 ·exact headD_all h1 (Gl.small_none _)
 ·exact Gl.small_row 6 h1 (by omega)
theorem Tm.small_args {t : Tm} (h : t.small) : t.args.length ≤ 32768 ∧ Tm.smalls t.args := by
 cases t; exact h
theorem rprim_small {l : List Tok} (hl : l.length ≤ 16384) : ∀ (f n : Nat) (s : RdS), (rprim f l n s).1.small
 | 0, _, _ => Gl.small_none _
 | f + 1, n, s => by
  have ih := fun s => rprim_small hl f (n + 1) s
  simp only [rprim]
  repeat' split
  ·exact Gl.small_none _
  ·exact Gl.small_none _
  ·exact Gl.small_row 7 (by simp [ih]) (by simp)
  ·simp only [Gl.small, Tm.smalls, Gl.smalls, List.length_nil]
   exact ⟨rterm_small _ _ _, Tm.small_none, by omega, trivial, by omega, trivial⟩
  ·simp only [rtry, Gl.small, Tm.smalls, Gl.smalls, List.length_nil, List.length_cons]
   exact ⟨Tm.small_none, Tm.small_none, by omega, trivial, by omega, ih _, ih _, trivial⟩
  ·exact rgoalW_small hl ih _
  ·simp only [rcall]
   split
   ·simp only [Gl.small, Tm.smalls, Gl.smalls, List.length_nil]
    exact ⟨rterm_small _ _ _, rterm_small _ _ _, by omega, trivial, by omega, trivial⟩
   ·have := Tm.small_args (rterm_small (l := l) f (n + 1) (rnest l n s))
    simp only [Gl.small, Gl.smalls, List.length_nil]
    exact ⟨Tm.small_none, Tm.small_none, this.1, this.2, by omega, trivial⟩
theorem rctor_small {l : List Tok} (s : RdS) : (rctor l s).1.args.length ≤ 32768 ∧ Ty.smalls (rctor l s).1.args := by
 refine ⟨?_, Ty.smalls_of (rargs_all (fun s => rtype_small 66 1 s) 10 [] _ (by simp))⟩
 have := rargs_length (p := rtype 66 l 1) (l := l) 10 [] (rword l 1 s).2
 simp only [List.length_nil] at this; simp only [rctor]; omega
theorem rbars_all {P : Ct → Prop} {l : List Tok} (hp : ∀ s, P (rctor l s).1) : ∀ (k : Nat) (cs : List Ct) (s : RdS), (∀ x ∈ cs, P x) → ∀ x ∈ (rbars l k cs s).1, P x
 | 0, cs, s, h => h
 | k + 1, cs, s, h => by
  simp only [rbars]
  split
  ·refine rbars_all hp k _ _ fun x hx => ?_
   rcases List.mem_append.1 hx with hx | hx
   ·exact h x hx
   ·rw [List.mem_singleton.1 hx]; exact hp _
  ·exact h
theorem rbars_length {l : List Tok} : ∀ (k : Nat) (cs : List Ct) (s : RdS), (rbars l k cs s).1.length ≤ cs.length + k
 | 0, cs, s => Nat.le_refl _
 | k + 1, cs, s => by
  simp only [rbars]
  split
  ·have := rbars_length (l := l) k (cs ++ [(rctor l (rgot l kBar s).2).1]) (rctor l (rgot l kBar s).2).2
   simp only [List.length_append, List.length_cons, List.length_nil] at this; omega
  ·simp only; omega
theorem ritem_small {l : List Tok} (hl : l.length ≤ 16384) (s : RdS) : (ritem l s).1.small := by
 have z : (default : It).small := ⟨by decide, by decide, by simp [default, instInhabitedIt], ⟨by decide, trivial⟩, by decide, ⟨by decide, trivial⟩, Gl.small_none 0⟩
 have rl : ∀ {α : Type} (p : RdS → α × RdS) (s : RdS), (rargs p l 10 [] s).1.length ≤ 32768 := fun p s => by
  have := rargs_length (p := p) (l := l) 10 [] s
  simp only [List.length_nil] at this; omega
 unfold ritem
 repeat' split
 ·simp only [ritType]
  refine ⟨rl _ _, ?_, ?_, z.types, z.ways, z.args, z.body⟩
  ·exact Nat.le_trans (rbars_length _ _ _) (by simp only [List.length_cons, List.length_nil]; omega)
  ·exact rbars_all (fun s => rctor_small s) _ _ _ (by simp only [List.mem_singleton]; rintro c rfl; exact rctor_small _)
 ·simp only [ritPred]
  exact ⟨z.vars, z.nct, z.ctors, ⟨rl _ _, Ty.smalls_of (rargs_all (fun s => rtype_small 66 1 s) 10 [] _ (by simp))⟩, z.ways, z.args, z.body⟩
 ·simp only [ritMode]
  exact ⟨z.vars, z.nct, z.ctors, z.types, rl _ _, z.args, z.body⟩
 ·simp only [ritClause]
  have ha := Tm.smalls_of (rargs_all (l := l) (fun s => rterm_small (l := l) 66 1 s) 10 [] (rword l 1 s).2 (by simp))
  split
  ·exact ⟨z.vars, z.nct, z.ctors, z.types, z.ways, ⟨rl _ _, ha⟩, rgoalW_small hl (fun s => rprim_small hl 66 1 s) _⟩
  ·exact ⟨z.vars, z.nct, z.ctors, z.types, z.ways, ⟨rl _ _, ha⟩, Gl.small_none 1⟩
theorem ritems_all {P : It → Prop} {l : List Tok} (hp : ∀ s, P (ritem l s).1) : ∀ (k : Nat) (is : List It) (s : RdS), (∀ x ∈ is, P x) → ∀ x ∈ (ritems l k is s).1, P x
 | 0, is, s, h => h
 | k + 1, is, s, h => by
  simp only [ritems]
  repeat' split
  ·exact h
  ·exact h
  ·refine ritems_all hp k _ _ fun x hx => ?_
   rcases List.mem_append.1 hx with hx | hx
   ·exact h x hx
   ·rw [List.mem_singleton.1 hx]; exact hp _
theorem ritems_length {l : List Tok} : ∀ (k : Nat) (is : List It) (s : RdS), is.length ≤ 512 → (ritems l k is s).1.length ≤ 512
 | 0, is, s, h => h
 | k + 1, is, s, h => by
  simp only [ritems]
  repeat' split
  ·exact h
  ·exact h
  ·exact ritems_length k _ _ (by simp only [List.length_append, List.length_cons, List.length_nil]; omega)
/-- The items of a text; the error's number. -/
def rtext (s : ByteArray) : List It × Int := rsource (rlex s).1 (rlex s).2
theorem rtext_srcs (s : ByteArray) : Srcs (rtext s).1 := by
 unfold rtext rsource
 simp only
 split
 ·exact ⟨by simp, by simp⟩
 ·exact ⟨Nat.le_trans (ritems_length _ _ _ (by simp)) (by omega), ritems_all (fun s => ritem_small (rlex_len _) s) _ _ _ (by simp)⟩
theorem rtext_len (s : ByteArray) : (rtext s).1.length ≤ 512 := by
 unfold rtext rsource
 simp only
 split
 ·simp
 ·exact ritems_length _ _ _ (by simp)
def rnamed (s : ByteArray) : List It × Option Ix := if (rtext s).2 ≠ 0 then ([], none) else ((rtext s).1, rresolve (rtext s).1)
theorem named_ok {eb : EbG} (H : Heap) (s : ByteArray) (K : A → Heap → Prop) (hK : K (.tup [.d (.slice ((rnamed s).1.map It.d)), .d (ixD (rnamed s).2), .d (.bool (rnamed s).2.isSome)]) H) :
  ACall Tryd.prog (seatV eb) 14 [.d (.str s)] H K := by
 refine ACall.hp_start ?_
 refine ACall.by mixed fn14 (by simp) ?_
 conv in s14 => cbv
 refine svc_start ?_
 simp -dsimp only [go_sem, gS]
 refine newK_hp (fun b3 f3 => ?_)
 simp only [off_cons, off_nil] at f3
 simp -dsimp only [go_sem, gS, f3]
 refine source_ok _ s _ ?_
 have hsrc := rtext_srcs s
 rw [show rsource (rlex s).1 (rlex s).2 = rtext s from rfl]
 unfold rnamed at hK
 generalize rtext s = x at hsrc hK ⊢
 obtain ⟨l, e⟩ := x
 simp -dsimp only [go_sem, gS, f3]
 refine gif_split (fun g1 => ?_) (fun g1 => ?_)
 ·have e0 : e ≠ 0 := by simpa using g1
  rw [if_pos e0] at hK
  simp -dsimp only [go_sem, gS, g1, f3]
  refine retW_tup [true, true, true] ?_
  simp -dsimp only [go_sem, gS, f3]
  exact retW_drop (G := H) (leH_hp0 (by simp only [hpS, eq_self, implies_true, f3])) (retW_is hK)
 ·have e0 : ¬ e ≠ 0 := by simpa using g1
  rw [if_neg e0] at hK
  simp -dsimp only [go_sem, gS, g1, f3]
  refine resolve04_ok l hsrc _ _ ?_
  simp -dsimp only [go_sem, gS, f3, ixD, Ix.d, Ix.cs]
  refine newK_hp (fun b7 f7 => ?_)
  simp only [off_cons, off_nil] at f7
  simp -dsimp only [go_sem, gS, f3, f7]
  exact retW_drop (G := H) (leH_hp0 (by simp only [hpS, eq_self, implies_true, f3, f7])) (retW_is hK)
end Go.Aug
