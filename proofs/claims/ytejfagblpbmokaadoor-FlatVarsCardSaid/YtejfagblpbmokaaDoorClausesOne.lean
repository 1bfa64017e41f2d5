/- The contracts of the reference's clauses; conditions stand in each contract. -/
import Derived.Test.YtejfagblpbmokaaDoorFlatOne
import Derived.Test.YtejfagblpbmokaaDoorAugEight
set_option linter.all false
set_option linter.unusedVariables false
set_option linter.unusedSimpArgs false
set_option linter.unusedSectionVars false

/- The reference's flat goals: names and numbers. -/
namespace Go.Aug
open Go.Proofs
set_option maxRecDepth 100000
set_option linter.unusedSimpArgs false
attribute [local irreducible] hid andK letA onSome onVar onArr arrOnly onInt onBool onTup idxA ldV ldD addO appTo fillL slA srcK nilQ retW gif sgd sguard svc sops sdops sagain aopO aLoad aStore aBin aUn aConv aLen aIndexAddr aIndex aIndexAddrS aIndexS aSlice aAppend aBuild aBuildSlice aMakeSlice aField aFieldOf aCallOp deepK deepL frzM putE newK newV growV ACall roundQ thenQ inBlockQ sret cnd szs nilC onMap onRow aLookup aMapUpdate aMakeMap
attribute [local go_sem] Int.natCast_zero
abbrev pcS (l : List ByteArray) (a : A) : Pc := ⟨9, 1, l.map .str, a⟩
abbrev pcN (l : List Nat) (a : A) : Pc := ⟨3, 1, l.map (fun (v : Nat) => .int .i64 (v : Int)), a⟩
abbrev cvar (s : NS) (a1 a2 : A) : AObj := .var [.d (.int .i64 s.next), a1, a2]
abbrev cps (s : NS) (a1 a2 : A) : List Pc := [pcS (s.names.map (·.1)) a1, pcN (s.names.map (·.2)) a2]
/-- A clause's numbering stands at block r. -/
structure CAt (H0 : Heap) (r : Nat) (s : NS) (a1 a2 : A) (R : Heap) : Prop where
 acc : AccN H0 [r] (cps s a1 a2) R
 few : s.next < 1099511627775 ∧ s.names.length < 1099511627775
def numI : Option Nat → Int
 | some v => (v : Int)
 | none => -1
theorem fresh05_ok {eb : EbG} (H : Heap) (r : Nat) (n : Nat) (a1 a2 : A) (h : H r = some (.var [.d (.int .i64 n), a1, a2])) (hn : n < 1099511627775) (K : A → Heap → Prop) (hK : K (.d (.int .i64 n)) (upd H r (.var [.d (.int .i64 ((n + 1 : Nat) : Int)), a1, a2]))) :
  ACall Tryd.prog (seatV eb) 127 [.ref r 0] H K := by
 have hw := wrapN (k := n) (by omega)
 have hw2 : IntKind.i64.wrap (((n + 1 : Nat) : Int) - 1) = (n : Int) := by rw [wrap64 (by omega) (by omega)]; omega
 refine ACall.hp_in h ?_
 refine ACall.by mixed fn127 (by simp) ?_
 conv in s127 => cbv
 refine svc_start ?_
 simp -dsimp only [go_sem, gS, hw, hw2]
 exact retW_is hK
set_option maxHeartbeats 2000000 in
theorem find05_ok {eb : EbG} {H0 R : Heap} {r : Nat} {s : NS} {a1 a2 : A} (h : CAt H0 r s a1 a2 R) (n : ByteArray) (K : A → Heap → Prop) (hK : K (.d (.int .i64 (numI (nfind s.names n)))) (hp R [(r, cvar s a1 a2)])) :
  ACall Tryd.prog (seatV eb) 124 [.ref r 0, .d (.str n)] (hp R [(r, cvar s a1 a2)]) K := by
 refine ACall.by mixed fn124 (by simp) ?_
 conv in s124 => cbv
 refine svc_start ?_
 obtain ⟨hacc, hf1, hf2⟩ := h
 rcases AccN.mid (pre := []) hacc with ⟨e1, e2⟩ | ⟨b1, v1, e1, e2, e3, e4, e5⟩
 ·simp only [List.map_eq_nil_iff] at e1
  simp only at e2
  subst e2
  rw [e1] at hK
  simp only [nfind, numI] at hK
  simp -dsimp only [go_sem, gS]
  refine svc_loop (X := Unit) (fun _ => [(0, .ref r 0), (1, .d (.str n)), (10, .nils), (11, .d (.int .i64 0)), (12, .d (.int .i64 0))]) (fun _ G => G = hp R [(r, cvar s .nils a2)]) (fun _ => 0) () _ rfl (by simp -dsimp only [go_sem, gS]) (fun _ _ h => h) ?_
  rintro _ G hG
  rw [hG]
  have q00 : decide ((0 : Int) < 0) = false := by decide
  simp -dsimp only [go_sem, gS, q00]
  exact retW_is hK
 ·simp only at e1 e2 e3 e4 e5
  subst e1
  have hne1 : eqn b1 r = false := by simpa [memK, cnd] using e2
  have hne : eqn r b1 = false := eqn_ne (eqn_false hne1).symm
  simp -dsimp only [go_sem, gS, hne, hne1, e5]
  refine svc_loop (X := Nat) (fun j => [(0, .ref r 0), (1, .d (.str n)), (10, .own b1 v1), (11, .d (.int .i64 s.names.length)), (12, .d (.int .i64 j))]) (fun j G => G = hp R [(r, cvar s (.own b1 v1) a2)] ∧ j ≤ s.names.length ∧ nfind s.names n = nfind (s.names.drop j) n) (fun j => s.names.length - j) 0 _ ⟨rfl, Nat.zero_le _, rfl⟩ (by simp -dsimp only [go_sem, gS]) (fun _ _ h => h) ?_
  rintro j G ⟨hG, hj, hs⟩
  subst hG
  simp -dsimp only [go_sem, gS]
  refine gif_split (fun q1 => ?_) (fun q1 => ?_)
  ·have q1' : j < s.names.length := by have := of_decide_eq_true q1; omega
   obtain ⟨⟨m, v⟩, hx⟩ := list_at q1'
   have hw := wrapN (k := j) (by omega)
   rw [drop_at hx] at hs
   simp only [nfind] at hs
   simp -dsimp only [go_sem, gS, q1, q1', hne, hne1, e5, hx, Option.map_some]
   refine gif_split (fun q2 => ?_) (fun q2 => ?_)
   ·have e : n = m := by simpa using (of_decide_eq_true q2).symm
    rw [if_pos e] at hs
    rw [hs] at hK
    rcases AccN.mid (pre := [pcS (s.names.map (·.1)) (.own b1 v1)]) hacc with ⟨d1, d2⟩ | ⟨b2, v2, d1, d2, d3, d4, d5⟩
    ·simp only [List.map_eq_nil_iff] at d1
     rw [d1] at hx; simp at hx
    ·simp only at d1 d2 d3 d4 d5
     subst d1
     have hnf1 : eqn b2 r = false := by simpa [memK, cnd] using d2
     have hnf : eqn r b2 = false := eqn_ne (eqn_false hnf1).symm
     simp -dsimp only [go_sem, gS, q2, hne, hne1, e5, hnf, hnf1, d5, hx, q1', Option.map_some]
     exact retW_is hK
   ·have e : ¬ n = m := by have := of_decide_eq_false q2; exact fun e => this e.symm
    rw [if_neg e] at hs
    simp -dsimp only [go_sem, gS, q2, hw]
    refine roundQ_next (j + 1) _ ⟨rfl, q1', hs⟩ (by omega) (by simp -dsimp only [go_sem, gS]) (fun _ _ h => h)
  ·rw [drop_end (by have := of_decide_eq_false q1; omega)] at hs
   simp only [nfind] at hs
   rw [hs] at hK
   simp -dsimp only [go_sem, gS, q1]
   exact retW_is hK
theorem nput_new {n : ByteArray} {v : Nat} : ∀ {m : List (ByteArray × Nat)}, nfind m n = none → nput m n v = m ++ [(n, v)]
 | [], _ => rfl
 | (a, w) :: m, h => by
  simp only [nfind] at h
  split at h
  ·cases h
  ·rename_i e; simp only [nput, List.cons_append, if_neg e, nput_new h]
def ngive (s : NS) (n : ByteArray) (v : Nat) : NS := ⟨s.next, s.names ++ [(n, v)]⟩
theorem cps_give {s : NS} {n : ByteArray} {v : Nat} {a1 a2 : A} : cps (ngive s n v) a1 a2 = [⟨9, 1, s.names.map (fun p => D.str p.1) ++ [.str n], a1⟩, ⟨3, 1, (s.names.map (·.2)).map (fun (v : Nat) => .int .i64 (v : Int)) ++ [.int .i64 (v : Int)], a2⟩] := by
 simp [ngive, Function.comp_def]
set_option maxHeartbeats 2000000 in
theorem give05_ok {eb : EbG} {H0 R : Heap} {r : Nat} {s : NS} {a1 a2 : A} (hacc : AccN H0 [r] (cps s a1 a2) R) (hf2 : s.names.length < 1099511627775) (n : ByteArray) (v : Nat) (K : A → Heap → Prop)
  (hK : ∀ a1' a2' R', AccN H0 [r] (cps (ngive s n v) a1' a2') R' → K (.tup []) (hp R' [(r, cvar (ngive s n v) a1' a2')])) :
  ACall Tryd.prog (seatV eb) 125 [.ref r 0, .d (.str n), .d (.int .i64 v)] (hp R [(r, cvar s a1 a2)]) K := by
 refine ACall.by mixed fn125 (by simp) ?_
 conv in s125 => cbv
 refine svc_start ?_
 simp -dsimp only [go_sem, gS]
 have hz : s.names.length + 1 ≤ 1099511627776 := by omega
 refine And.intro ?_ ?_
 ·refine newV_hp (fun b13 v13 f13 w13 => ?_)
  simp only [off_cons, off_nil] at f13
  have h13 := f13.2.2
  simp -dsimp only [go_sem, gS, f13]
  refine And.intro ?_ ?_
  ·refine AccN.appTo (pre := []) (p := pcS (s.names.map (·.1)) a1) (post := [pcN (s.names.map (·.2)) a2]) (ns := [.str n]) hacc (by simp only [hpS, eq_self, implies_true, f13]) (by simp only [hpS, eq_self, implies_true, f13]) (by simp only [List.length_map, List.length_append, List.length_cons, List.length_nil]; omega) (fun a1' R1 hacc1 hn1 => ?_)
   have g13 := hn1 b13 (by simp only [hpS, eq_self, implies_true, f13]) h13
   simp -dsimp only [go_sem, gS, f13, g13]
   refine newV_hp (fun b20 v20 f20 w20 => ?_)
   simp only [off_cons, off_nil] at f20
   simp -dsimp only [go_sem, gS, f13, g13, f20]
   refine AccN.appTo (pre := [⟨9, 1, s.names.map (fun p => D.str p.1) ++ [.str n], a1'⟩]) (p := pcN (s.names.map (·.2)) a2) (post := []) (ns := [.int .i64 (v : Int)]) (by simpa [Function.comp_def] using hacc1) (by simp only [hpS, eq_self, implies_true, f13, g13, f20]) (by simp only [hpS, eq_self, implies_true, f13, g13, f20]) (by simp only [List.length_map, List.length_append, List.length_cons, List.length_nil]; omega) (fun a2' R3 hacc3 hn3 => ?_)
   have k13 := hn3 b13 (by simp only [hpS, eq_self, implies_true, f13]) g13
   have k20 := hn3 b20 (by simp only [hpS, eq_self, implies_true, f20]) f20.2.2.2.2
   have o1 := AccN.one (pre := []) hacc3
   have o2 := AccN.one (pre := [⟨9, 1, s.names.map (fun p => D.str p.1) ++ [.str n], a1'⟩]) hacc3
   simp only at o1 o2
   simp -dsimp only [go_sem, gS, f13, g13, f20, k13, k20, o1, o2, List.length_cons, List.length_nil]
   refine retW_drop (G := hp R3 [(r, cvar (ngive s n v) a1' a2')]) (leH_hp (by simp only [hpS, eq_self, implies_true, f13, g13, f20, k13, k20, ngive]) (by simp only [hpS, eq_self, implies_true, f13, g13, f20, k13, k20, ngive])) (retW_is (hK a1' a2' R3 ?_))
   rw [cps_give]; exact hacc3
  ·refine newV_hp (fun b20 v20 f20 w20 => ?_)
   simp only [off_cons, off_nil] at f20
   have h20 := f20.2.2.2.2
   simp -dsimp only [go_sem, gS, f13, f20]
   refine AccN.appTo (pre := []) (p := pcS (s.names.map (·.1)) a1) (post := [pcN (s.names.map (·.2)) a2]) (ns := [.str n]) hacc (by simp only [hpS, eq_self, implies_true, f13, f20]) (by simp only [hpS, eq_self, implies_true, f13, f20]) (by simp only [List.length_map, List.length_append, List.length_cons, List.length_nil]; omega) (fun a1' R1 hacc1 hn1 => ?_)
   have g13 := hn1 b13 (by simp only [hpS, eq_self, implies_true, f13]) h13
   have g20 := hn1 b20 (by simp only [hpS, eq_self, implies_true, f20]) h20
   simp -dsimp only [go_sem, gS, f13, g13, f20, g20]
   refine AccN.appTo (pre := [⟨9, 1, s.names.map (fun p => D.str p.1) ++ [.str n], a1'⟩]) (p := pcN (s.names.map (·.2)) a2) (post := []) (ns := [.int .i64 (v : Int)]) (by simpa [Function.comp_def] using hacc1) (by simp only [hpS, eq_self, implies_true, f13, g13, f20, g20]) (by simp only [hpS, eq_self, implies_true, f13, g13, f20, g20]) (by simp only [List.length_map, List.length_append, List.length_cons, List.length_nil]; omega) (fun a2' R3 hacc3 hn3 => ?_)
   have k13 := hn3 b13 (by simp only [hpS, eq_self, implies_true, f13]) g13
   have k20 := hn3 b20 (by simp only [hpS, eq_self, implies_true, f20]) g20
   have o1 := AccN.one (pre := []) hacc3
   have o2 := AccN.one (pre := [⟨9, 1, s.names.map (fun p => D.str p.1) ++ [.str n], a1'⟩]) hacc3
   simp only at o1 o2
   simp -dsimp only [go_sem, gS, f13, g13, f20, k13, k20, o1, o2, List.length_cons, List.length_nil]
   refine retW_drop (G := hp R3 [(r, cvar (ngive s n v) a1' a2')]) (leH_hp (by simp only [hpS, eq_self, implies_true, f13, g13, f20, k13, k20, ngive]) (by simp only [hpS, eq_self, implies_true, f13, g13, f20, k13, k20, ngive])) (retW_is (hK a1' a2' R3 ?_))
   rw [cps_give]; exact hacc3
 ·refine newV_hp (fun b20 v20 f20 w20 => ?_)
  simp only [off_cons, off_nil] at f20
  have h20 := f20.2.2
  simp -dsimp only [go_sem, gS, f20]
  refine newV_hp (fun b13 v13 f13 w13 => ?_)
  simp only [off_cons, off_nil] at f13
  have h13 := f13.2.2.2.2
  simp -dsimp only [go_sem, gS, f13, f20]
  refine AccN.appTo (pre := []) (p := pcS (s.names.map (·.1)) a1) (post := [pcN (s.names.map (·.2)) a2]) (ns := [.str n]) hacc (by simp only [hpS, eq_self, implies_true, f13, f20]) (by simp only [hpS, eq_self, implies_true, f13, f20]) (by simp only [List.length_map, List.length_append, List.length_cons, List.length_nil]; omega) (fun a1' R1 hacc1 hn1 => ?_)
  have g13 := hn1 b13 (by simp only [hpS, eq_self, implies_true, f13]) h13
  have g20 := hn1 b20 (by simp only [hpS, eq_self, implies_true, f20]) h20
  simp -dsimp only [go_sem, gS, f13, g13, f20, g20]
  refine AccN.appTo (pre := [⟨9, 1, s.names.map (fun p => D.str p.1) ++ [.str n], a1'⟩]) (p := pcN (s.names.map (·.2)) a2) (post := []) (ns := [.int .i64 (v : Int)]) (by simpa [Function.comp_def] using hacc1) (by simp only [hpS, eq_self, implies_true, f13, g13, f20, g20]) (by simp only [hpS, eq_self, implies_true, f13, g13, f20, g20]) (by simp only [List.length_map, List.length_append, List.length_cons, List.length_nil]; omega) (fun a2' R3 hacc3 hn3 => ?_)
  have k13 := hn3 b13 (by simp only [hpS, eq_self, implies_true, f13]) g13
  have k20 := hn3 b20 (by simp only [hpS, eq_self, implies_true, f20]) g20
  have o1 := AccN.one (pre := []) hacc3
  have o2 := AccN.one (pre := [⟨9, 1, s.names.map (fun p => D.str p.1) ++ [.str n], a1'⟩]) hacc3
  simp only at o1 o2
  simp -dsimp only [go_sem, gS, f13, g13, f20, g20, k13, k20, o1, o2, List.length_cons, List.length_nil]
  refine retW_drop (G := hp R3 [(r, cvar (ngive s n v) a1' a2')]) (leH_hp (by simp only [hpS, eq_self, implies_true, f13, g13, f20, g20, k13, k20, ngive]) (by simp only [hpS, eq_self, implies_true, f13, g13, f20, g20, k13, k20, ngive])) (retW_is (hK a1' a2' R3 ?_))
  rw [cps_give]; exact hacc3
end Go.Aug

/- The reference's flat goals: numbers. -/
namespace Go.Aug
open Go.Proofs
set_option maxRecDepth 100000
set_option linter.unusedSimpArgs false
attribute [local irreducible] hid andK letA onSome onVar onArr arrOnly onInt onBool onTup idxA ldV ldD addO appTo fillL slA srcK nilQ retW gif sgd sguard svc sops sdops sagain aopO aLoad aStore aBin aUn aConv aLen aIndexAddr aIndex aIndexAddrS aIndexS aSlice aAppend aBuild aBuildSlice aMakeSlice aField aFieldOf aCallOp deepK deepL frzM putE newK newV growV ACall roundQ thenQ inBlockQ sret cnd szs nilC onMap onRow aLookup aMapUpdate aMakeMap
attribute [local go_sem] Int.natCast_zero
theorem nnumber_give {n : ByteArray} {s : NS} (h : n ≠ kUnder) (hf : nfind s.names n = none) : nnumber n s = (s.next, ngive ⟨s.next + 1, s.names⟩ n s.next) := by
 rw [nnumber, if_neg h, hf]; simp only [ngive, nput_new hf]
set_option maxHeartbeats 2000000 in
theorem number05_ok {eb : EbG} {H0 R : Heap} {r : Nat} {s : NS} {a1 a2 : A} (h : CAt H0 r s a1 a2 R) (n : ByteArray) (K : A → Heap → Prop)
  (hK : ∀ a1' a2' R', AccN H0 [r] (cps (nnumber n s).2 a1' a2') R' → K (.d (.int .i64 (nnumber n s).1)) (hp R' [(r, cvar (nnumber n s).2 a1' a2')])) :
  ACall Tryd.prog (seatV eb) 126 [.ref r 0, .d (.str n)] (hp R [(r, cvar s a1 a2)]) K := by
 refine ACall.by mixed fn126 (by simp) ?_
 conv in s126 => cbv
 refine svc_start ?_
 simp -dsimp only [go_sem, gS]
 refine gif_split (fun g1 => ?_) (fun g1 => ?_)
 ·have e : n = kUnder := of_decide_eq_true g1
  rw [nnumber, if_pos e] at hK
  simp -dsimp only [go_sem, gS, g1]
  refine fresh05_ok _ r s.next a1 a2 (by simp only [hpS, eq_self, implies_true, ]) h.few.1 _ ?_
  simp -dsimp only [go_sem, gS]
  exact retW_is (hK a1 a2 R h.acc)
 ·have e : n ≠ kUnder := of_decide_eq_false g1
  simp -dsimp only [go_sem, gS, g1]
  refine find05_ok h n _ ?_
  cases hf : nfind s.names n with
  | some v =>
   rw [nnumber, if_neg e, hf] at hK
   have q : decide ((v : Int) < 0) = false := by simp
   simp -dsimp only [go_sem, gS, numI, q]
   exact retW_is (hK a1 a2 R h.acc)
  | none =>
   rw [nnumber_give e hf] at hK
   have q : decide ((-1 : Int) < 0) = true := by decide
   simp -dsimp only [go_sem, gS, numI, q]
   refine fresh05_ok _ r s.next a1 a2 (by simp only [hpS, eq_self, implies_true, ]) h.few.1 _ ?_
   simp -dsimp only [go_sem, gS]
   refine give05_ok (s := ⟨s.next + 1, s.names⟩) h.acc h.few.2 n s.next _ (fun a1' a2' R' hacc' => ?_)
   simp -dsimp only [go_sem, gS]
   exact retW_is (hK a1' a2' R' hacc')
end Go.Aug

/- The reference's flat goals: the row of a number and a term. -/
namespace Go.Aug
open Go.Proofs
set_option maxRecDepth 100000
set_option linter.unusedSimpArgs false
attribute [local irreducible] hid andK letA onSome onVar onArr arrOnly onInt onBool onTup idxA ldV ldD addO appTo fillL slA srcK nilQ retW gif sgd sguard svc sops sdops sagain aopO aLoad aStore aBin aUn aConv aLen aIndexAddr aIndex aIndexAddrS aIndexS aSlice aAppend aBuild aBuildSlice aMakeSlice aField aFieldOf aCallOp deepK deepL frzM putE newK newV growV ACall roundQ thenQ inBlockQ sret cnd szs nilC onMap onRow aLookup aMapUpdate aMakeMap
attribute [local go_sem] Int.natCast_zero
theorem nput_len {n : ByteArray} {v : Nat} (m : List (ByteArray × Nat)) : (nput m n v).length ≤ m.length + 1 := by
 induction m with
 | nil => simp [nput]
 | cons p m ih =>
  obtain ⟨a, w⟩ := p
  simp only [nput]
  split
  ·simp
  ·simp only [List.length_cons]; omega
theorem nnumber_names (n : ByteArray) (s : NS) : (nnumber n s).2.names.length ≤ s.names.length + 1 := by
 unfold nnumber nfresh
 split
 ·simp
 ·split
  ·simp
  ·exact nput_len _
theorem nargs_names : ∀ (ts : List Tm) (s : NS), (nargs ts s).2.names.length ≤ s.names.length + ts.length
 | [], s => by simp [nargs]
 | .mk k n _ _ :: ts, s => by
  simp only [nargs, List.length_cons]
  split
  ·have := nnumber_names n s; have := nargs_names ts (nnumber n s).2; omega
  ·have := nargs_names ts (nfresh s).2; simp only [nfresh] at this ⊢; omega
mutual
theorem nunify_names1 (x : Nat) : ∀ (t : Tm) (s : NS), (nunify x t s).2.names.length ≤ s.names.length + t.nodes ∧ (t.kind ≠ 1 → (nunify x t s).2.names.length + 1 ≤ s.names.length + t.nodes)
 | .mk k n i ts, s => by
  have hp := (Tm.mk k n i ts).nodes_pos
  simp only [nunify]
  split
  ·rename_i h1
   refine ⟨?_, fun h => absurd h1 h⟩
   split
   ·simp only; omega
   ·split
    ·simp only; omega
    ·have := nput_len (n := n) (v := x) s.names; simp only; omega
  ·split
   ·simp only; omega
   ·have h1 := nargs_names ts s
    have h2 := nunifys_names (nargs ts s).1 ts (nargs ts s).2
    simp only [Tm.nodes]; omega
theorem nunifys_names : ∀ (vs : List Nat) (ts : List Tm) (s : NS), (nunifys vs ts s).2.names.length + ts.length ≤ s.names.length + Tm.nodess ts
 | a :: vs, .mk k n i ts :: rest, s => by
  have hp := (Tm.mk k n i ts).nodes_pos
  simp only [nunifys, List.length_cons, Tm.nodess]
  split
  ·have := nunifys_names vs rest s; omega
  ·rename_i hk
   have h1 := (nunify_names1 a (.mk k n i ts) s).2 hk
   have h2 := nunifys_names vs rest (nunify a (.mk k n i ts) s).2
   simp only
   omega
 | [], ts, s => by have := Tm.nodess_length ts; simp only [nunifys]; omega
 | a :: vs, [], s => by simp [nunifys, Tm.nodess]
end
theorem nunify_names (x : Nat) (t : Tm) (s : NS) : (nunify x t s).2.names.length ≤ s.names.length + t.nodes := (nunify_names1 x t s).1
theorem Tm.nodess_mem {t : Tm} : ∀ {ts : List Tm}, t ∈ ts → t.nodes ≤ Tm.nodess ts
 | _ :: _, .head _ => by simp only [Tm.nodess]; omega
 | _ :: _, .tail _ h => by have := Tm.nodess_mem h; simp only [Tm.nodess]; omega
set_option maxHeartbeats 8000000 in
theorem unify05_ok {eb : EbG} : ∀ (m : Nat) (t : Tm), t.nodes ≤ m → t.small → ∀ (H0 R : Heap) (r : Nat) (s : NS) (a1 a2 : A) (_ : AccN H0 [r] (cps s a1 a2) R) (x : Nat) (_ : s.next + t.nodes ≤ 1099511627774) (_ : s.names.length + t.nodes ≤ 1099511627774) (K : A → Heap → Prop)
  (_ : ∀ a a1' a2' R', AccN H0 [r] (pcF (nunify x t s).1 a :: cps (nunify x t s).2 a1' a2') R' → K a (hp R' [(r, cvar (nunify x t s).2 a1' a2')])),
  ACall Tryd.prog (seatV eb) 74 [.ref r 0, .d (.int .i64 x), .d t.d] (hp R [(r, cvar s a1 a2)]) K
 | 0, t, hm, _, _, _, _, _, _, _, _, _, _, _, _, _ => by have := t.nodes_pos; omega
 | m + 1, .mk k nm i ts, hm, hs, H0, R, r, s, a1, a2, hacc, x, hlim, hlim2, K, hK => by
  simp only [Tm.small] at hs
  simp only [Tm.nodes] at hlim hlim2 hm
  refine ACall.by mixed fn74 (by simp) ?_
  conv in s74 => cbv
  refine svc_start ?_
  simp -dsimp only [go_sem, gS, Tm.d, Tm.cs, Tm.ds_map]
  refine newK_hp (fun b5 f5 => ?_)
  simp only [off_cons, off_nil] at f5
  simp -dsimp only [go_sem, gS, f5]
  refine newV_hp (fun b15 v15 f15 w15 => ?_)
  simp only [off_cons, off_nil] at f15
  simp -dsimp only [go_sem, gS, f5, f15]
  refine gif_split (fun g2 => ?_) (fun g2 => ?_)
  ·have e2 : k = 2 := of_decide_eq_true g2
   have e1 : k ≠ 1 := by omega
   simp only [nunify, if_neg e1, if_pos e2] at hK
   simp -dsimp only [go_sem, gS, g2, f5, f15]
   refine newV_hp (fun b24 v24 f24 w24 => ?_)
   simp only [off_cons, off_nil] at f24
   simp -dsimp only [go_sem, gS, f5, f15, f24]
   refine growV_hp (b0 := b15) (by simp only [hpS, eq_self, implies_true, f5, f15, f24]) (by simp only [hpS, eq_self, implies_true, f5, f15, f24]) (fun b25 v25 f25 w25 => ?_)
   simp only [delL_cons, delL_nil, eqn_self, cnd_true, cnd_false, off_cons, off_nil, f5, f15, f24] at f25
   simp -dsimp only [go_sem, gS, f5, f15, f24, f25]
   refine retW_drop (G := hp R [(r, cvar s a1 a2), (b25, .arr 39 10 v25 [(fInt x i).d])]) (leH_hp (by simp only [hpS, eq_self, implies_true, f5, f15, f24, f25, fInt_d]) (by simp only [hpS, eq_self, implies_true, f5, f15, f24, f25, fInt_d])) (retW_is ?_)
   exact row_new2 (sz := 10) (xs := [(fInt x i).d]) hacc (by simp only [hpS, eq_self, implies_true, f25]) w25 (fun a R' h => hK a a1 a2 R' h)
  ·have e2 : k ≠ 2 := of_decide_eq_false g2
   simp -dsimp only [go_sem, gS, g2, f5, f15]
   refine gif_split (fun g1 => ?_) (fun g1 => ?_)
   ·have e1 : k = 1 := of_decide_eq_true g1
    simp only [nunify, if_pos e1] at hK
    simp -dsimp only [go_sem, gS, g1, f5, f15]
    obtain ⟨H1, R2, e, hacc2, back⟩ := accN_sub (r := r) (qs := cps s a1 a2) (ps := []) (o := cvar s a1 a2) (l := [(b5, .var [.d (.int .i64 k), .d (.str nm), .d (.int .i64 i), .d (.slice (ts.map Tm.d))]), (b15, .arr 39 10 v15 [])]) (by simpa using hacc) (by simp only [hpS, eq_self, implies_true, f5, f15]) (by simp only [hpS, eq_self, implies_true, ]) (by simp only [hpS, eq_self, implies_true, f5, f15])
    rw [e]
    refine find05_ok ⟨hacc2, by omega, by omega⟩ nm _ ?_
    rw [← e]
    simp -dsimp only [go_sem, gS, f5, f15]
    refine gif_split (fun g3 => ?_) (fun g3 => ?_)
    ·have e3 : nm = kUnder := of_decide_eq_true g3
     simp only [if_pos e3] at hK
     simp -dsimp only [go_sem, gS, g3, f5, f15]
     refine retW_drop (G := hp R [(r, cvar s a1 a2), (b15, .arr 39 10 v15 [])]) (leH_hp (by simp only [hpS, eq_self, implies_true, f5, f15]) (by simp only [hpS, eq_self, implies_true, f5, f15])) (retW_is ?_)
     exact row_new2 (sz := 10) (xs := []) hacc (by simp only [hpS, eq_self, implies_true, f15]) w15 (fun a R' h => hK a a1 a2 R' h)
    ·have e3 : nm ≠ kUnder := of_decide_eq_false g3
     simp only [if_neg e3] at hK
     cases hf : nfind s.names nm with
     | some v =>
      have q : decide ((v : Int) < 0) = false := by simp
      simp only [hf] at hK
      simp -dsimp only [go_sem, gS, g3, f5, f15, numI, q]
      refine newV_hp (fun b49 v49 f49 w49 => ?_)
      simp only [off_cons, off_nil] at f49
      simp -dsimp only [go_sem, gS, f5, f15, f49]
      refine growV_hp (b0 := b15) (by simp only [hpS, eq_self, implies_true, f5, f15, f49]) (by simp only [hpS, eq_self, implies_true, f5, f15, f49]) (fun b50 v50 f50 w50 => ?_)
      simp only [delL_cons, delL_nil, eqn_self, cnd_true, cnd_false, off_cons, off_nil, f5, f15, f49] at f50
      simp -dsimp only [go_sem, gS, f5, f15, f49, f50]
      refine retW_drop (G := hp R [(r, cvar s a1 a2), (b50, .arr 39 10 v50 [(fSame x v).d])]) (leH_hp (by simp only [hpS, eq_self, implies_true, f5, f15, f49, f50, fSame_d]) (by simp only [hpS, eq_self, implies_true, f5, f15, f49, f50, fSame_d])) (retW_is ?_)
      exact row_new2 (sz := 10) (xs := [(fSame x v).d]) hacc (by simp only [hpS, eq_self, implies_true, f50]) w50 (fun a R' h => hK a a1 a2 R' h)
     | none =>
      have q : decide ((-1 : Int) < 0) = true := by decide
      simp only [hf, nput_new hf] at hK
      simp -dsimp only [go_sem, gS, g3, f5, f15, numI, q]
      rw [e]
      refine give05_ok hacc2 (by omega) nm x _ (fun a1' a2' R3 hacc3 => ?_)
      obtain ⟨R4, hacc4, e4, hn4⟩ := back _ _ hacc3
      rw [e4]
      have g5 := hn4 b5 (by simp only [hpS, eq_self, implies_true, f5]) f5.2.2
      have g15 := hn4 b15 (by simp only [hpS, eq_self, implies_true, f15]) f15.2.2.2.2
      simp -dsimp only [go_sem, gS, f5, f15, g5, g15]
      refine retW_drop (G := hp R4 [(r, cvar (ngive s nm x) a1' a2'), (b15, .arr 39 10 v15 [])]) (leH_hp (by simp only [hpS, eq_self, implies_true, f5, f15, g5, g15]) (by simp only [hpS, eq_self, implies_true, f5, f15, g5, g15])) (retW_is ?_)
      exact row_new2 (sz := 10) (xs := []) hacc4 (by simp only [hpS, eq_self, implies_true, f15, g15]) w15 (fun a R' h => hK a a1' a2' R' h)
   ·have e1 : k ≠ 1 := of_decide_eq_false g1
    simp only [nunify, if_neg e1, if_neg e2] at hK
    simp -dsimp only [go_sem, gS, g1, f5, f15]
    refine newK_hp (fun b9 f9 => ?_)
    simp only [off_cons, off_nil] at f9
    simp -dsimp only [go_sem, gS, f5, f15, f9]
    have hnl := Tm.nodess_length ts
    have hR15 : upd R b15 (.arr 39 10 v15 []) b5 = none ∧ upd R b15 (.arr 39 10 v15 []) b9 = none := ⟨upd_eq_none.2 ⟨eqn_false f15.2.2.2.1, f5.2.2⟩, upd_eq_none.2 ⟨eqn_false f9.2.2.2.2.1, f9.2.2.2.2.2.2⟩⟩
    have hacc1 : AccN H0 [r] (cps s a1 a2 ++ [pcN [] .nils, pcF [] (.own b15 v15)]) (upd R b15 (.arr 39 10 v15 [])) :=
     AccN.rot (xs := [pcN [] .nils, pcF [] (.own b15 v15)]) ((hacc.new (E := 39) (sz := 10) (xs := []) (by simp only [hpS, eq_self, implies_true, f15]) f15.2.2.2.2 w15).nil _ _)
    refine svc_loop (X := Nat × List Nat × NS × A × A × A × Heap) (fun y => [(0, .ref r 0), (5, .ref b5 0), (7, .own b15 v15), (9, .ref b9 0), (60, .d (.slice (ts.map Tm.d))), (61, .d (.int .i64 ts.length)), (62, .d (.int .i64 y.1))])
     (fun y G => G = hp y.2.2.2.2.2.2 ((r, cvar y.2.2.1 y.2.2.2.1 y.2.2.2.2.1) :: [(b5, .var [.d (.int .i64 k), .d (.str nm), .d (.int .i64 i), .d (.slice (ts.map Tm.d))]), (b9, .var [.d (.int .i64 5), .d (.int .i64 x), .d (.int .i64 0), .d (.int .i64 0), .d (.str nm), .d (.int .i64 ts.length), .d (.str ⟨#[]⟩), .d (.int .i64 0), y.2.2.2.2.2.1, .nils])]) ∧ AccN H0 [r] (cps y.2.2.1 y.2.2.2.1 y.2.2.2.2.1 ++ [pcN y.2.1 y.2.2.2.2.2.1, pcF [] (.own b15 v15)]) y.2.2.2.2.2.2 ∧ (y.2.2.2.2.2.2 b5 = none ∧ y.2.2.2.2.2.2 b9 = none) ∧ y.2.1.length = y.1 ∧ y.1 ≤ ts.length ∧ (y.2.1 ++ (nargs (ts.drop y.1) y.2.2.1).1, (nargs (ts.drop y.1) y.2.2.1).2) = nargs ts s ∧ y.2.2.1.next ≤ s.next + y.1 ∧ y.2.2.1.names.length ≤ s.names.length + y.1)
     (fun y => ts.length - y.1) (0, [], s, a1, a2, .nils, upd R b15 (.arr 39 10 v15 [])) _ ⟨rfl, hacc1, hR15, rfl, Nat.zero_le _, by simp, Nat.le_refl _, Nat.le_refl _⟩ (by simp -dsimp only [go_sem, gS]) (by rw [hp_base (by simp only [hpS, eq_self, implies_true, f15, f9])]; exact (leH_hp (by simp only [hpS, eq_self, implies_true, f5, f15, f9, setL_cons, setL_nil]) (by simp only [hpS, eq_self, implies_true, f5, f15, f9, setL_cons, setL_nil]))) ?_
    rintro ⟨j, vs, s1, c1, c2, av, R1⟩ G ⟨hG, hacc2, f52, hvl, hj, hrun, hnx, hnn⟩
    simp only at hG hacc2 f52 hvl hj hrun hnx hnn
    subst hG
    simp -dsimp only [go_sem, gS]
    refine gif_split (fun q1 => ?_) (fun q1 => ?_)
    ·have q1' : j < ts.length := by have := of_decide_eq_true q1; omega
     obtain ⟨⟨tk, tn, ti, ta⟩, hx⟩ := list_at q1'
     have hwj := wrapN (k := j) (by omega)
     rw [drop_at hx] at hrun
     simp only [nargs] at hrun
     simp -dsimp only [go_sem, gS, q1, hx, Tm.d, Tm.cs, f5, f9, f52]
     refine newK_hp (fun b11 f11 => ?_)
     simp only [off_cons, off_nil] at f11
     simp -dsimp only [go_sem, gS, f5, f9, f52, f11]
     refine gif_split (fun q2 => ?_) (fun q2 => ?_)
     ·have e3 : tk = 1 := of_decide_eq_true q2
      simp only [if_pos e3] at hrun
      simp -dsimp only [go_sem, gS, q2, f5, f9, f52, f11]
      obtain ⟨H1, R2, e, hacc3, back⟩ := accN_sub (r := r) (qs := cps s1 c1 c2) (ps := [pcN vs av, pcF [] (.own b15 v15)]) (o := cvar s1 c1 c2) (l := [(b5, .var [.d (.int .i64 k), .d (.str nm), .d (.int .i64 i), .d (.slice (ts.map Tm.d))]), (b9, .var [.d (.int .i64 5), .d (.int .i64 x), .d (.int .i64 0), .d (.int .i64 0), .d (.str nm), .d (.int .i64 ts.length), .d (.str ⟨#[]⟩), .d (.int .i64 0), av, .nils])] ++ [(b11, .var [.d (.int .i64 tk), .d (.str tn), .d (.int .i64 ti), .d (.slice (Tm.ds ta))])]) hacc2 (by simp only [hpS, eq_self, implies_true, f5, f9, f52, f11, List.cons_append, List.nil_append]) (by simp only [hpS, eq_self, implies_true, ]) (by simp only [hpS, eq_self, implies_true, f5, f9, f11, List.cons_append, List.nil_append])
      simp only [List.cons_append, List.nil_append] at e back
      rw [e]
      refine number05_ok ⟨hacc3, by omega, by omega⟩ tn _ (fun c1' c2' R3 hacc4 => ?_)
      have hnn2 := nnumber_names tn s1
      have hnx2 := nnumber_next tn s1
      generalize nnumber tn s1 = z at hrun hacc4 hnn2 hnx2 ⊢
      obtain ⟨v, s2⟩ := z
      simp only at hrun hacc4 hnn2 hnx2
      obtain ⟨R4, hacc5, e4, hn4⟩ := back _ _ hacc4
      rw [e4]
      have g5 := hn4 b5 (by simp only [hpS, eq_self, implies_true, f5]) f52.1
      have g9 := hn4 b9 (by simp only [hpS, eq_self, implies_true, f9]) f52.2
      have g11 := hn4 b11 (by simp only [hpS, eq_self, implies_true, f11]) f11.2.2.2.2.2.2
      simp -dsimp only [go_sem, gS, f5, f9, f11, g5, g9, g11]
      refine newV_hp (fun b78 v78 f78 w78 => ?_)
      simp only [off_cons, off_nil] at f78
      simp -dsimp only [go_sem, gS, f5, f9, f11, g5, g9, g11, f78]
      refine AccN.appTo (pre := cps s2 c1' c2') (p := pcN vs av) (post := [pcF [] (.own b15 v15)]) (ns := [.int .i64 (v : Int)]) hacc5 (by simp only [hpS, eq_self, implies_true, f5, f9, f11, g5, g9, g11, f78]) (by simp only [hpS, eq_self, implies_true, ]) (by simp only [List.length_map, List.length_cons, List.length_nil]; omega) (fun av' R6 hacc6 hn6 => ?_)
      have k5 := hn6 b5 (by simp only [hpS, eq_self, implies_true, f5]) g5
      have k9 := hn6 b9 (by simp only [hpS, eq_self, implies_true, f9]) g9
      have k11 := hn6 b11 (by simp only [hpS, eq_self, implies_true, f11]) g11
      have k78 := hn6 b78 (by simp only [hpS, eq_self, implies_true, f78]) f78.2.2.2.2.2.2.2.2
      have o1 := AccN.one (pre := cps s2 c1' c2') hacc6
      simp only at o1
      simp -dsimp only [go_sem, gS, f5, f9, f11, f78, k5, k9, k11, k78, o1, List.length_cons, List.length_nil, hwj]
      have hacc7 : AccN H0 [r] (cps s2 c1' c2' ++ [pcN (vs ++ [v]) av', pcF [] (.own b15 v15)]) R6 := by
       have e : (vs ++ [v]).map (fun (v : Nat) => D.int .i64 (v : Int)) = vs.map (fun (v : Nat) => D.int .i64 (v : Int)) ++ [.int .i64 (v : Int)] := by simp
       simp only [pcN, e]; exact hacc6
      refine roundQ_next (j + 1, vs ++ [v], s2, c1', c2', av', R6) _ ⟨rfl, hacc7, ⟨k5, k9⟩, by simp [hvl], q1', by rw [← hrun]; simp, by simp only; omega, by simp only; omega⟩ (by simp only; omega) (by simp -dsimp only [go_sem, gS]) (leH_hp (by simp only [hpS, eq_self, implies_true, f5, f9, f11, f78, k5, k9, k11, k78]) (by simp only [hpS, eq_self, implies_true, f5, f9, f11, f78, k5, k9, k11, k78]))
     ·have e3 : tk ≠ 1 := of_decide_eq_false q2
      simp only [if_neg e3] at hrun
      simp -dsimp only [go_sem, gS, q2, f5, f9, f52, f11]
      refine fresh05_ok _ r s1.next c1 c2 (by simp only [hpS, eq_self, implies_true, ]) (by omega) _ ?_
      have g5 := f52.1
      have g9 := f52.2
      have g11 := f11.2.2.2.2.2.2
      have hacc5 : AccN H0 [r] (cps (nfresh s1).2 c1 c2 ++ [pcN vs av, pcF [] (.own b15 v15)]) R1 := hacc2
      simp -dsimp only [go_sem, gS, f5, f9, f11, g5, g9, g11]
      refine newV_hp (fun b78 v78 f78 w78 => ?_)
      simp only [off_cons, off_nil] at f78
      simp -dsimp only [go_sem, gS, f5, f9, f11, g5, g9, g11, f78]
      refine AccN.appTo (pre := cps (nfresh s1).2 c1 c2) (p := pcN vs av) (post := [pcF [] (.own b15 v15)]) (ns := [.int .i64 (s1.next : Int)]) hacc5 (by simp only [hpS, eq_self, implies_true, f5, f9, f11, g5, g9, g11, f78]) (by simp only [hpS, eq_self, implies_true, ]) (by simp only [List.length_map, List.length_cons, List.length_nil]; omega) (fun av' R6 hacc6 hn6 => ?_)
      have k5 := hn6 b5 (by simp only [hpS, eq_self, implies_true, f5]) g5
      have k9 := hn6 b9 (by simp only [hpS, eq_self, implies_true, f9]) g9
      have k11 := hn6 b11 (by simp only [hpS, eq_self, implies_true, f11]) g11
      have k78 := hn6 b78 (by simp only [hpS, eq_self, implies_true, f78]) f78.2.2.2.2.2.2.2.2
      have o1 := AccN.one (pre := cps (nfresh s1).2 c1 c2) hacc6
      simp only at o1
      simp -dsimp only [go_sem, gS, f5, f9, f11, f78, k5, k9, k11, k78, o1, List.length_cons, List.length_nil, hwj]
      have hacc7 : AccN H0 [r] (cps (nfresh s1).2 c1 c2 ++ [pcN (vs ++ [s1.next]) av', pcF [] (.own b15 v15)]) R6 := by
       have e : (vs ++ [s1.next]).map (fun (v : Nat) => D.int .i64 (v : Int)) = vs.map (fun (v : Nat) => D.int .i64 (v : Int)) ++ [.int .i64 (s1.next : Int)] := by simp
       simp only [pcN, e]; exact hacc6
      refine roundQ_next (j + 1, vs ++ [s1.next], (nfresh s1).2, c1, c2, av', R6) _ ⟨rfl, hacc7, ⟨k5, k9⟩, by simp [hvl], q1', by rw [← hrun]; simp [nfresh], by simp only [nfresh]; omega, by simp only [nfresh]; omega⟩ (by simp only; omega) (by simp -dsimp only [go_sem, gS]) (leH_hp (by simp only [hpS, eq_self, implies_true, f5, f9, f11, f78, k5, k9, k11, k78, nfresh]) (by simp only [hpS, eq_self, implies_true, f5, f9, f11, f78, k5, k9, k11, k78, nfresh]))
    ·have q1' : j = ts.length := by have := of_decide_eq_false q1; omega
     rw [q1', drop_end (Nat.le_refl _)] at hrun
     simp only [nargs, List.append_nil] at hrun
     rw [← hrun] at hK
     simp only at hK
     have hal := AccN.allD (pre := cps s1 c1 c2) (t := [.nils]) hacc2
     simp only at hal
     clear hacc1
     generalize A.own b15 v15 = a15 at hacc2 ⊢
     simp -dsimp only [go_sem, gS, q1, f5, f9, f52, hal]
     refine AccN.deepF (pre := cps s1 c1 c2) (p := pcN vs av) (post := [pcF [] a15]) hacc2 (by simp only [hpS, eq_self, implies_true, f5, f9, f52]) (fun H2 R2 hle2 hacc3 hav hn3 => ?_)
     have g5 := hn3 b5 (by simp only [hpS, eq_self, implies_true, f5]) f52.1
     have g9 := hn3 b9 (by simp only [hpS, eq_self, implies_true, f9]) f52.2
     simp -dsimp only [go_sem, gS, f5, f9, g5, g9]
     refine newV_hp (fun b84 v84 f84 w84 => ?_)
     simp only [off_cons, off_nil] at f84
     simp -dsimp only [go_sem, gS, f5, f9, g5, g9, f84]
     have hfc := fCtor_d (x : Int) ⟨nm, (ts.length : Int)⟩ vs
     simp only at hfc
     rw [← hfc]
     refine AccN.appTo (pre := cps s1 c1 c2) (p := pcF [] a15) (post := []) (ns := [(fCtor x ⟨nm, ts.length⟩ vs).d]) hacc3 (by simp only [hpS, eq_self, implies_true, f5, f9, g5, g9, f84]) (by simp only [hpS, eq_self, implies_true, ]) (by simp only [List.length_map, List.length_cons, List.length_nil]; omega) (fun a16 R3 hacc4 hn4 => ?_)
     have k5 := hn4 b5 (by simp only [hpS, eq_self, implies_true, f5]) g5
     have k9 := hn4 b9 (by simp only [hpS, eq_self, implies_true, f9]) g9
     have k84 := hn4 b84 (by simp only [hpS, eq_self, implies_true, f84]) f84.2.2.2.2.2.2
     simp -dsimp only [go_sem, gS, f5, f9, f84, k5, k9, k84]
     refine svc_loop (X := Nat × List Fl × NS × A × A × A × Heap) (fun y => [(0, .ref r 0), (7, y.2.2.2.2.2.1), (9, .ref b9 0), (87, .d (.slice (ts.map Tm.d))), (88, .d (.int .i64 ts.length)), (89, .d (.int .i64 y.1))])
      (fun y G => G = hp y.2.2.2.2.2.2 [(r, cvar y.2.2.1 y.2.2.2.1 y.2.2.2.2.1), (b9, .var [.d (.int .i64 5), .d (.int .i64 x), .d (.int .i64 0), .d (.int .i64 0), .d (.str nm), .d (.int .i64 ts.length), .d (.str ⟨#[]⟩), .d (.int .i64 0), av, .nils])] ∧ AccN H2 [r] (cps y.2.2.1 y.2.2.2.1 y.2.2.2.2.1 ++ [pcF y.2.1 y.2.2.2.2.2.1]) y.2.2.2.2.2.2 ∧ y.2.2.2.2.2.2 b9 = none ∧ y.1 ≤ ts.length ∧ (y.2.1 ++ (nunifys (vs.drop y.1) (ts.drop y.1) y.2.2.1).1, (nunifys (vs.drop y.1) (ts.drop y.1) y.2.2.1).2) = (fCtor x ⟨nm, ts.length⟩ vs :: (nunifys vs ts s1).1, (nunifys vs ts s1).2) ∧ y.2.2.1.next + Tm.nodess (ts.drop y.1) + y.1 ≤ s.next + Tm.nodess ts + ts.length ∧ y.2.2.1.names.length + Tm.nodess (ts.drop y.1) + y.1 ≤ s.names.length + Tm.nodess ts + ts.length ∧ y.2.1.length + Tm.nodess (ts.drop y.1) ≤ 1 + Tm.nodess ts)
      (fun y => ts.length - y.1) (0, [fCtor x ⟨nm, ts.length⟩ vs], s1, c1, c2, a16, R3) _ ⟨rfl, hacc4, k9, Nat.zero_le _, by simp, by simp only [List.drop_zero]; omega, by simp only [List.drop_zero]; omega, by simp only [List.drop_zero, List.length_cons, List.length_nil]; omega⟩ (by simp -dsimp only [go_sem, gS]) (leH_hp (by simp only [hpS, eq_self, implies_true, f5, f9, f84, k5, k9, k84]) (by simp only [hpS, eq_self, implies_true, f5, f9, f84, k5, k9, k84])) ?_
     rintro ⟨i2, out, s2, d1, d2, a, R4⟩ G ⟨hG, hacc5, h9, hi2, hrun2, hnx2, hnn2, hout⟩
     simp only at hG hacc5 h9 hi2 hrun2 hnx2 hnn2 hout
     subst hG
     simp -dsimp only [go_sem, gS]
     refine gif_split (fun q3 => ?_) (fun q3 => ?_)
     ·have q3' : i2 < ts.length := by have := of_decide_eq_true q3; omega
      obtain ⟨⟨tk, tn, ti, ta⟩, hx⟩ := list_at q3'
      obtain ⟨v, hv⟩ := list_at (show i2 < vs.length by omega)
      have hwj := wrapN (k := i2) (by omega)
      rw [drop_at hx, drop_at hv] at hrun2
      rw [drop_at hx] at hnx2 hnn2 hout
      simp only [nunifys, Tm.nodess] at hrun2 hnx2 hnn2 hout
      have hle1 := Tm.nodess_length (ts.drop (i2 + 1))
      rw [List.length_drop] at hle1
      simp -dsimp only [go_sem, gS, q3, hx, Tm.d, Tm.cs]
      refine newK_hp (fun b14 f14 => ?_)
      simp only [off_cons, off_nil] at f14
      simp -dsimp only [go_sem, gS, f9, h9, f14]
      refine gif_split (fun q4 => ?_) (fun q4 => ?_)
      ·have e4 : tk ≠ 1 := by simpa using q4
       simp only [if_neg e4] at hrun2
       rcases hav with ⟨e5, _⟩ | ⟨bv, vv, rfl, hbv, hbi⟩
       ·simp only [List.map_eq_nil_iff] at e5
        rw [e5] at hv; simp at hv
       ·have hRv := hacc5.le bv _ hbv
        simp only at hRv
        have n1 := inK_off hbi
        have n2 := eqn_some hRv f14.2.2.2.2
        simp only [offB_cons, offB_nil] at n1
        simp -dsimp only [go_sem, gS, q4, f9, h9, f14, n1, n2, hRv, hv]
        obtain ⟨H3, R5, e, hacc6, back⟩ := accN_sub (r := r) (qs := cps s2 d1 d2) (ps := [pcF out a]) (o := cvar s2 d1 d2) (l := [(b9, .var [.d (.int .i64 5), .d (.int .i64 x), .d (.int .i64 0), .d (.int .i64 0), .d (.str nm), .d (.int .i64 ts.length), .d (.str ⟨#[]⟩), .d (.int .i64 0), .own bv vv, .nils]), (b14, .var [.d (.int .i64 tk), .d (.str tn), .d (.int .i64 ti), .d (.slice (Tm.ds ta))])]) hacc5 (by simp only [hpS, eq_self, implies_true, f9, h9, f14]) (by simp only [hpS, eq_self, implies_true, ]) (by simp only [hpS, eq_self, implies_true, f9, f14])
        rw [e]
        have hsz := nunify_size v (.mk tk tn ti ta) s2
        have hsn := (nunify_names1 v (.mk tk tn ti ta) s2).2 e4
        refine unify05_ok m (.mk tk tn ti ta) (by have := Tm.nodess_mem (List.mem_of_getElem? hx); omega) (Tm.smalls_mem hs.2 _ (List.mem_of_getElem? hx)) H3 R5 r s2 d1 d2 hacc6 v (by omega) (by omega) _ (fun ar d1' d2' R6 hacc7 => ?_)
        generalize hu : nunify v (.mk tk tn ti ta) s2 = u at hrun2 hsz hsn hacc7 ⊢
        obtain ⟨rows, s3⟩ := u
        simp only at hrun2 hsz hsn hacc7
        obtain ⟨R7, hacc8, e7, hn7⟩ := back _ _ hacc7
        rw [e7]
        have g9 := hn7 b9 (by simp only [hpS, eq_self, implies_true, f9]) h9
        have g14 := hn7 b14 (by simp only [hpS, eq_self, implies_true, f14]) f14.2.2.2.2
        have hok7 : okK [r] R7 [(r, cvar s3 d1' d2'), (b9, .var [.d (.int .i64 5), .d (.int .i64 x), .d (.int .i64 0), .d (.int .i64 0), .d (.str nm), .d (.int .i64 ts.length), .d (.str ⟨#[]⟩), .d (.int .i64 0), .own bv vv, .nils]), (b14, .var [.d (.int .i64 tk), .d (.str tn), .d (.int .i64 ti), .d (.slice (Tm.ds ta))])] := by simp only [hpS, eq_self, implies_true, f9, g9, g14, f14]
        simp -dsimp only [go_sem, gS, f9, f14, g9, g14]
        rw [AccN.src (pre := []) (p := pcF rows ar) (post := cps s3 d1' d2' ++ [pcF out a]) hacc8 hok7]
        have hszs := szs_map (sz := 10) (f := Fl.d) (fun x => x.cs_length) rows
        simp -dsimp only [go_sem, gS, hszs]
        refine AccN.appTo (pre := pcF rows ar :: cps s3 d1' d2') (p := pcF out a) (post := []) hacc8 hok7 (by simp only [hpS, eq_self, implies_true, ]) (by simp only [List.length_map]; omega) (fun a4 R8 hacc9 hn9 => ?_)
        have k9 := hn9 b9 (by simp only [hpS, eq_self, implies_true, f9]) g9
        have k14 := hn9 b14 (by simp only [hpS, eq_self, implies_true, f14]) g14
        have hacc10 : AccN H2 [r] (cps s3 d1' d2' ++ [pcF (out ++ rows) a4]) R8 := by
         have := AccN.without (pre := []) (p := pcF rows ar) (post := cps s3 d1' d2' ++ [⟨39, 10, out.map Fl.d ++ rows.map Fl.d, a4⟩]) hacc9
         simp only [pcF, List.map_append]; exact this
        simp -dsimp only [go_sem, gS, f9, f14, k9, k14, hwj]
        refine roundQ_next (i2 + 1, out ++ rows, s3, d1', d2', a4, R8) _ ⟨rfl, hacc10, k9, q3', by rw [← hrun2]; simp, by simp only; omega, by simp only; omega, by simp only [List.length_append]; omega⟩ (by simp only; omega) (by simp -dsimp only [go_sem, gS]) (leH_hp (by simp only [hpS, eq_self, implies_true, f9, f14, k9, k14]) (by simp only [hpS, eq_self, implies_true, f9, f14, k9, k14]))
      ·have e4 : tk = 1 := by simpa using q4
       have hp1 := (Tm.mk tk tn ti ta).nodes_pos
       simp only [if_pos e4] at hrun2
       simp -dsimp only [go_sem, gS, q4, f9, h9, f14, hwj]
       refine roundQ_next (i2 + 1, out, s2, d1, d2, a, R4) _ ⟨rfl, hacc5, h9, q3', hrun2, by simp only; omega, by simp only; omega, by simp only; omega⟩ (by simp only; omega) (by simp -dsimp only [go_sem, gS]) (leH_hp (by simp only [hpS, eq_self, implies_true, f9, h9, f14]) (by simp only [hpS, eq_self, implies_true, f9, h9, f14]))
     ·rw [drop_end (by have := of_decide_eq_false q3; omega), drop_end (by have := of_decide_eq_false q3; omega)] at hrun2
      simp only [nunifys, List.append_nil, Prod.mk.injEq] at hrun2
      obtain ⟨r1, r2⟩ := hrun2
      rw [← r1, ← r2] at hK
      simp -dsimp only [go_sem, gS, q3]
      refine retW_drop (G := hp R4 [(r, cvar s2 d1 d2)]) (leH_hp (by simp only [hpS, eq_self, implies_true, f9, h9]) (by simp only [hpS, eq_self, implies_true, f9, h9])) (retW_is (hK a d1 d2 R4 ?_))
      exact (AccN.rot (ys := [pcF out a]) hacc5).weak hle2
end Go.Aug

/- The reference's flat goals: places, wholes. -/
namespace Go.Aug
open Go.Proofs
set_option maxRecDepth 100000
set_option linter.unusedSimpArgs false
attribute [local irreducible] hid andK letA onSome onVar onArr arrOnly onInt onBool onTup idxA ldV ldD addO appTo fillL slA srcK nilQ retW gif sgd sguard svc sops sdops sagain aopO aLoad aStore aBin aUn aConv aLen aIndexAddr aIndex aIndexAddrS aIndexS aSlice aAppend aBuild aBuildSlice aMakeSlice aField aFieldOf aCallOp deepK deepL frzM putE newK newV growV ACall roundQ thenQ inBlockQ sret cnd szs nilC onMap onRow aLookup aMapUpdate aMakeMap
attribute [local go_sem] Int.natCast_zero
theorem nplace_names (t : Tm) (s : NS) : (nplace t s).2.2.names.length ≤ s.names.length + t.nodes := by
 unfold nplace
 have hp := t.nodes_pos
 split
 ·have := nnumber_names t.name s; simp only; omega
 ·have := nunify_names s.next t (nfresh s).2; simp only [nfresh] at this ⊢; omega
set_option maxHeartbeats 2000000 in
theorem place05_ok {eb : EbG} (t : Tm) (ht : t.small) (H0 R : Heap) (r : Nat) (s : NS) (a1 a2 : A) (hacc : AccN H0 [r] (cps s a1 a2) R) (hlim : s.next + t.nodes ≤ 1099511627773) (hlim2 : s.names.length + t.nodes ≤ 1099511627773) (K : A → Heap → Prop)
  (hK : ∀ a a1' a2' R', AccN H0 [r] (pcF (nplace t s).2.1 a :: cps (nplace t s).2.2 a1' a2') R' → K (.tup [.d (.int .i64 (nplace t s).1), a]) (hp R' [(r, cvar (nplace t s).2.2 a1' a2')])) :
  ACall Tryd.prog (seatV eb) 128 [.ref r 0, .d t.d] (hp R [(r, cvar s a1 a2)]) K := by
 have hpos := t.nodes_pos
 obtain ⟨tk, tn, ti, ta⟩ := t
 refine ACall.by mixed fn128 (by simp) ?_
 conv in s128 => cbv
 refine svc_start ?_
 simp -dsimp only [go_sem, gS, Tm.d, Tm.cs]
 refine newK_hp (fun b3 f3 => ?_)
 simp only [off_cons, off_nil] at f3
 simp -dsimp only [go_sem, gS, f3]
 refine gif_split (fun g1 => ?_) (fun g1 => ?_)
 ·have e : tk = 1 := of_decide_eq_true g1
  subst e
  rw [nplace, if_pos (show (Tm.mk 1 tn ti ta).kind = 1 from rfl)] at hK
  simp only [Tm.name] at hK
  simp -dsimp only [go_sem, gS, g1, f3]
  obtain ⟨H1, R2, e, hacc3, back⟩ := accN_sub (r := r) (qs := cps s a1 a2) (ps := []) (o := cvar s a1 a2) (l := [(b3, .var [.d (.int .i64 1), .d (.str tn), .d (.int .i64 ti), .d (.slice (Tm.ds ta))])]) (by simpa using hacc) (by simp only [hpS, eq_self, implies_true, f3]) (by simp only [hpS, eq_self, implies_true, ]) (by simp only [hpS, eq_self, implies_true, f3])
  rw [e]
  refine number05_ok ⟨hacc3, by omega, by omega⟩ tn _ (fun c1 c2 R3 hacc4 => ?_)
  generalize nnumber tn s = z at hK hacc4 ⊢
  obtain ⟨v, s2⟩ := z
  simp only at hK hacc4
  obtain ⟨R4, hacc5, e4, hn4⟩ := back _ _ hacc4
  rw [e4]
  have g3 := hn4 b3 (by simp only [hpS, eq_self, implies_true, f3]) f3.2.2
  simp -dsimp only [go_sem, gS, f3, g3]
  refine retW_drop (G := hp R4 [(r, cvar s2 c1 c2)]) (leH_hp (by simp only [hpS, eq_self, implies_true, f3, g3]) (by simp only [hpS, eq_self, implies_true, f3, g3])) (retW_is (hK .nils c1 c2 R4 ?_))
  exact (show AccN H0 [r] (cps s2 c1 c2) R4 by simpa using hacc5).nil _ _
 ·have e : tk ≠ 1 := of_decide_eq_false g1
  rw [nplace, if_neg (show ¬ (Tm.mk tk tn ti ta).kind = 1 from e)] at hK
  simp only at hK
  simp -dsimp only [go_sem, gS, g1, f3]
  refine fresh05_ok _ r s.next a1 a2 (by simp only [hpS, eq_self, implies_true, ]) (by omega) _ ?_
  simp -dsimp only [go_sem, gS, f3]
  obtain ⟨H1, R2, e2, hacc3, back⟩ := accN_sub (r := r) (qs := cps (nfresh s).2 a1 a2) (ps := []) (o := cvar (nfresh s).2 a1 a2) (l := [(b3, .var [.d (.int .i64 tk), .d (.str tn), .d (.int .i64 ti), .d (.slice (Tm.ds ta))])]) (by rw [List.append_nil]; exact hacc) (by simp only [hpS, eq_self, implies_true, f3]) (by simp only [hpS, eq_self, implies_true, ]) (by simp only [hpS, eq_self, implies_true, f3])
  rw [show (.var [.d (.int .i64 ((s.next + 1 : Nat) : Int)), a1, a2] : AObj) = cvar (nfresh s).2 a1 a2 from rfl, e2]
  refine unify05_ok _ (.mk tk tn ti ta) (Nat.le_refl _) ht H1 R2 r (nfresh s).2 a1 a2 hacc3 s.next (by simp only [nfresh]; omega) (by simp only [nfresh]; omega) _ (fun ar c1 c2 R3 hacc4 => ?_)
  generalize nunify s.next (.mk tk tn ti ta) (nfresh s).2 = z at hK hacc4 ⊢
  obtain ⟨rows, s2⟩ := z
  simp only at hK hacc4
  obtain ⟨R4, hacc5, e4, hn4⟩ := back _ _ hacc4
  rw [e4]
  have g3 := hn4 b3 (by simp only [hpS, eq_self, implies_true, f3]) f3.2.2
  simp -dsimp only [go_sem, gS, f3, g3]
  refine retW_drop (G := hp R4 [(r, cvar s2 c1 c2)]) (leH_hp (by simp only [hpS, eq_self, implies_true, f3, g3]) (by simp only [hpS, eq_self, implies_true, f3, g3])) (retW_is (hK ar c1 c2 R4 ?_))
  simpa using hacc5
theorem whole05_ok {eb : EbG} (gs : List Fl) (hl : gs.length ≤ 1099511627776) (H : Heap) (K : A → Heap → Prop) (hK : K (.d (nwhole gs).d) H) :
  ACall Tryd.prog (seatV eb) 76 [.d (.slice (gs.map Fl.d))] H K := by
 refine ACall.hp_start ?_
 refine ACall.by mixed fn76 (by simp) ?_
 conv in s76 => cbv
 refine svc_start ?_
 simp -dsimp only [go_sem, gS]
 refine newK_hp (fun b2 f2 => ?_)
 simp only [off_cons, off_nil] at f2
 simp -dsimp only [go_sem, gS, f2]
 refine gif_split (fun g1 => ?_) (fun g1 => ?_)
 ·have e : gs = [] := by have := of_decide_eq_true g1; exact List.length_eq_zero_iff.1 (by omega)
  subst e
  rw [show nwhole [] = fTrue from rfl, fTrue_d] at hK
  simp -dsimp only [go_sem, gS, g1, f2]
  refine retW_deep ?_
  simp -dsimp only [go_sem, gS]
  exact retW_drop (G := H) (leH_hp0 (by simp only [hpS, eq_self, implies_true, f2])) (retW_is hK)
 ·have e0 : gs.length ≠ 0 := by have := of_decide_eq_false g1; omega
  simp -dsimp only [go_sem, gS, g1, f2]
  refine gif_split (fun g2 => ?_) (fun g2 => ?_)
  ·obtain ⟨g, rfl⟩ : ∃ g, gs = [g] := List.length_eq_one_iff.1 (by have := of_decide_eq_true g2; omega)
   obtain ⟨k, x, y, i, c, p, xs, ys⟩ := g
   simp only [nwhole, Fl.d, Fl.cs] at hK
   simp -dsimp only [go_sem, gS, g2, f2, List.map_cons, List.map_nil, List.getElem?_cons_zero, Int.toNat_zero, Fl.d, Fl.cs]
   exact retW_drop (G := H) (leH_hp0 (by simp only [hpS, eq_self, implies_true, f2])) (retW_is hK)
  ·have e1 : gs.length ≠ 1 := by have := of_decide_eq_false g2; omega
   have ew : nwhole gs = fRow 7 0 gs := by
    rcases gs with _ | ⟨a, _ | ⟨b, gs⟩⟩
    ·simp at e0
    ·simp at e1
    ·rfl
   rw [ew, fRow_d] at hK
   simp -dsimp only [go_sem, gS, g2, f2]
   refine retW_deep ?_
   simp -dsimp only [go_sem, gS]
   exact retW_drop (G := H) (leH_hp0 (by simp only [hpS, eq_self, implies_true, f2])) (retW_is hK)
end Go.Aug

/- The reference's flat goals: how many names there are. -/
namespace Go.Aug
open Go.Proofs
set_option maxRecDepth 100000
set_option linter.unusedSimpArgs false
theorem nequal_names (a b : Tm) (s : NS) : (nequal a b s).2.names.length ≤ s.names.length + a.nodes + b.nodes := by
 have ha := a.nodes_pos
 have hb := b.nodes_pos
 unfold nequal
 split
 ·split
  ·simp only; omega
  ·have h1 := nnumber_names a.name s; have h2 := nnumber_names b.name (nnumber a.name s).2; simp only; omega
 ·split
  ·have h1 := nnumber_names a.name s; have h2 := nunify_names (nnumber a.name s).1 b (nnumber a.name s).2; omega
  ·split
   ·have h1 := nnumber_names b.name s; have h2 := nunify_names (nnumber b.name s).1 a (nnumber b.name s).2; omega
   ·have h1 := nunify_names s.next a (nfresh s).2
    have h2 := nunify_names s.next b (nunify s.next a (nfresh s).2).2
    simp only [nfresh] at h1 h2 ⊢; omega
theorem nplaces_names : ∀ (ts : List Tm) (s : NS), (nplaces ts s).2.2.names.length ≤ s.names.length + Tm.nodess ts
 | [], s => by simp [nplaces, Tm.nodess]
 | t :: ts, s => by
  have h1 := nplace_names t s
  have h2 := nplaces_names ts (nplace t s).2.2
  simp only [nplaces, Tm.nodess]; omega
mutual
theorem ngoal_names : ∀ (g : Gl) (s : NS), (ngoal g s).2.names.length ≤ s.names.length + g.nodes
 | .mk k a b n xs gs, s => by
  have h1 := nequal_names a b s
  have h2 := nplaces_names xs s
  have h3 := nplace_names a s
  have h4 := ngoals_names gs s
  have h5 := nwholes_names gs s
  have h6 := nwholes_names gs (nnumber n s).2
  have h7 := nnumber_names n s
  unfold ngoal
  simp only [Gl.nodes]
  repeat' split
  all_goals first | omega | (simp only; omega)
theorem ngoals_names : ∀ (gs : List Gl) (s : NS), (ngoals gs s).2.names.length ≤ s.names.length + Gl.nodess gs
 | [], s => by simp [ngoals, Gl.nodess]
 | g :: gs, s => by
  have h1 := ngoal_names g s
  have h2 := ngoals_names gs (ngoal g s).2
  simp only [ngoals, Gl.nodess]; omega
theorem nwholes_names : ∀ (gs : List Gl) (s : NS), (nwholes gs s).2.names.length ≤ s.names.length + Gl.nodess gs
 | [], s => by simp [nwholes, Gl.nodess]
 | g :: gs, s => by
  have h1 := ngoal_names g s
  have h2 := nwholes_names gs (ngoal g s).2
  simp only [nwholes, Gl.nodess]; omega
end
/-- A fresh row of the frame is one of ours. -/
theorem row_in {H R : Heap} {r b3 b : Nat} {o o3 : AObj} {qs : List Pc} {E : TypeId} {sz : Nat} {v : Value} (h : AccN H [r] qs R) (ho : off R [(r, o), (b3, o3)] b) (hv : v.ownBlock = some b) :
  ∃ R1, hp R [(r, o), (b3, o3), (b, .arr E sz v [])] = hp R1 [(r, o), (b3, o3)] ∧ AccN H [r] (qs ++ [⟨E, sz, [], .own b v⟩]) R1 ∧ (R b3 = none → R1 b3 = none) := by
 have hin := off_in ho
 have hne : b3 ≠ b := eqn_false ho.2.2.2.1
 refine ⟨upd R b (.arr E sz v []), by rw [hp_base hin, setL_off ho]; rfl, AccN.rot (xs := [_]) (h.new ?_ (off_base ho) hv), fun hn => upd_eq_none.2 ⟨hne, hn⟩⟩
 have := ho.1
 simp only [memK, cnd, this]; rfl
end Go.Aug

/- The reference's flat goals: a goal. -/
namespace Go.Aug
open Go.Proofs
set_option maxRecDepth 100000
set_option linter.unusedSimpArgs false
attribute [local irreducible] hid andK letA onSome onVar onArr arrOnly onInt onBool onTup idxA ldV ldD addO appTo fillL slA srcK nilQ retW gif sgd sguard svc sops sdops sagain aopO aLoad aStore aBin aUn aConv aLen aIndexAddr aIndex aIndexAddrS aIndexS aSlice aAppend aBuild aBuildSlice aMakeSlice aField aFieldOf aCallOp deepK deepL frzM putE newK newV growV ACall roundQ thenQ inBlockQ sret cnd szs nilC onMap onRow aLookup aMapUpdate aMakeMap
attribute [local go_sem] Int.natCast_zero
theorem Gl.nodess_mem {t : Gl} : ∀ {ts : List Gl}, t ∈ ts → t.nodes ≤ Gl.nodess ts
 | _ :: _, .head _ => by simp only [Gl.nodess]; omega
 | _ :: _, .tail _ h => by have := Gl.nodess_mem h; simp only [Gl.nodess]; omega
set_option maxHeartbeats 16000000 in
theorem goal05_ok {eb : EbG} : ∀ (m : Nat) (g : Gl), g.nodes ≤ m → g.small → ∀ (H0 R : Heap) (r : Nat) (s : NS) (a1 a2 : A) (_ : AccN H0 [r] (cps s a1 a2) R) (_ : s.next + g.nodes ≤ 1099511627772) (_ : s.names.length + g.nodes ≤ 1099511627772) (K : A → Heap → Prop)
  (_ : ∀ a a1' a2' R', AccN H0 [r] (pcF (ngoal g s).1 a :: cps (ngoal g s).2 a1' a2') R' → K a (hp R' [(r, cvar (ngoal g s).2 a1' a2')])),
  ACall Tryd.prog (seatV eb) 75 [.ref r 0, .d g.d] (hp R [(r, cvar s a1 a2)]) K
 | 0, g, hm, _, _, _, _, _, _, _, _, _, _, _, _ => by have := g.nodes_pos; omega
 | m + 1, .mk k (.mk k1 n1 i1 xs1) (.mk k2 n2 i2 xs2) n xs gs, hm, hs, H0, R, r, s, a1, a2, hacc, hlim, hlim2, K, hK => by
  simp only [Gl.small] at hs
  obtain ⟨hsa, hsb, hxl, hsx, hgl, hsg⟩ := hs
  simp only [Gl.nodes] at hlim hlim2 hm
  have hpa := (Tm.mk k1 n1 i1 xs1).nodes_pos
  have hpb := (Tm.mk k2 n2 i2 xs2).nodes_pos
  refine ACall.by mixed fn75 (by simp) ?_
  conv in s75 => cbv
  refine svc_start ?_
  simp -dsimp only [go_sem, gS, Gl.d, Gl.cs, Tm.cs, List.cons_append, List.nil_append, Gl.ds_map]
  refine newK_hp (fun b3 f3 => ?_)
  simp only [off_cons, off_nil] at f3
  simp -dsimp only [go_sem, gS, f3]
  refine newV_hp (fun b23 v23 f23 w23 => ?_)
  simp only [off_cons, off_nil] at f23
  obtain ⟨R1, e1, hacc1, hb3⟩ := row_in (H := H0) (E := 39) (sz := 10) hacc (show off R [(r, cvar s a1 a2), (b3, .var [.d (.int .i64 k), .d (.int .i64 k1), .d (.str n1), .d (.int .i64 i1), .d (.slice (Tm.ds xs1)), .d (.int .i64 k2), .d (.str n2), .d (.int .i64 i2), .d (.slice (Tm.ds xs2)), .d (.str n), .d (.slice (xs.map Tm.d)), .d (.slice (gs.map Gl.d))])] b23 from by simp only [hpS, eq_self, implies_true, f23]) w23
  simp -dsimp only [go_sem, gS, f3, f23]
  rw [e1]
  have h3 := hb3 f3.2.2
  clear e1
  generalize A.own b23 v23 = a0 at hacc1 ⊢
  have hacc0 : AccN H0 [r] (cps s a1 a2 ++ [pcF [] a0]) R1 := hacc1
  refine gif_split (fun g1 => ?_) (fun g1 => ?_)
  ·have e : k = 2 := of_decide_eq_true g1
   have hg : ngoal (.mk k (.mk k1 n1 i1 xs1) (.mk k2 n2 i2 xs2) n xs gs) s = ([fRow 2 0 []], s) := by rw [e]; simp [ngoal]
   rw [hg] at hK
   simp -dsimp only [go_sem, gS, g1, f3, h3]
   have hd := fRow_d 2 0 []
   simp only [List.map_nil] at hd
   refine newV_hp (fun b30 v30 f30 w30 => ?_)
   simp only [off_cons, off_nil] at f30
   simp -dsimp only [go_sem, gS, f3, h3, f30]
   rw [← hd]
   refine AccN.appTo (pre := cps s a1 a2) (p := pcF [] a0) (post := []) (ns := [(fRow 2 0 []).d]) hacc0 (by simp only [hpS, eq_self, implies_true, f3, h3, f30]) (by simp only [hpS, eq_self, implies_true, ]) (by simp only [List.length_map, List.length_cons, List.length_nil, List.length_append]; omega) (fun a' R2 hacc2 nhacc2 => ?_)

   have k3 := nhacc2 b3 (by simp only [hpS, eq_self, implies_true, f3]) h3
   have k30 := nhacc2 b30 (by simp only [hpS, eq_self, implies_true, f30]) f30.2.2.2.2
   simp -dsimp only [go_sem, gS, f3, f30, k3, k30]
   refine retW_drop (G := hp R2 [(r, cvar s a1 a2)]) (leH_hp (by simp only [hpS, eq_self, implies_true, f3, f30, k3, k30]) (by simp only [hpS, eq_self, implies_true, f3, f30, k3, k30])) (retW_is (hK a' a1 a2 R2 ?_))
   exact AccN.rot (ys := [pcF [fRow 2 0 []] a']) hacc2
  simp -dsimp only [go_sem, gS, g1, f3, h3]
  refine gif_split (fun g2 => ?_) (fun g2 => ?_)
  ·have e : k = 3 := of_decide_eq_true g2
   have hg : ngoal (.mk k (.mk k1 n1 i1 xs1) (.mk k2 n2 i2 xs2) n xs gs) s = nequal (.mk k1 n1 i1 xs1) (.mk k2 n2 i2 xs2) s := by rw [e]; simp [ngoal]
   rw [hg] at hK
   simp -dsimp only [go_sem, gS, g2, f3, h3]
   refine gif_split (fun v1 => ?_) (fun v1 => ?_)
   ·have e1 : k1 = 1 := of_decide_eq_true v1
    simp -dsimp only [go_sem, gS, v1, f3, h3]
    refine gif_split (fun v2 => ?_) (fun v2 => ?_)
    ·have e2 : k2 = 1 := of_decide_eq_true v2
     simp -dsimp only [go_sem, gS, v2, f3, h3]
     refine gif_split (fun w1 => ?_) (fun w1 => ?_)
     ·have u1 : ¬ n1 = kUnder := by simpa [kUnder] using w1
      simp -dsimp only [go_sem, gS, w1, f3, h3]
      refine gif_split (fun w2 => ?_) (fun w2 => ?_)
      ·have u2 : ¬ n2 = kUnder := by simpa [kUnder] using w2
       simp -dsimp only [go_sem, gS, w2, f3, h3]
       obtain ⟨HH1, RR1, eq1, hs1, back1⟩ := accN_sub (r := r) (qs := cps s a1 a2) (ps := [pcF [] a0]) (o := cvar s a1 a2) (l := [(b3, .var [.d (.int .i64 k), .d (.int .i64 k1), .d (.str n1), .d (.int .i64 i1), .d (.slice (Tm.ds xs1)), .d (.int .i64 k2), .d (.str n2), .d (.int .i64 i2), .d (.slice (Tm.ds xs2)), .d (.str n), .d (.slice (xs.map Tm.d)), .d (.slice (gs.map Gl.d))])]) hacc0 (by simp only [hpS, eq_self, implies_true, f3, h3]) (by simp only [hpS, eq_self, implies_true, ]) (by simp only [hpS, eq_self, implies_true, f3, h3])
       rw [eq1]
       refine number05_ok ⟨hs1, by omega, by omega⟩ n1 _ (fun c1 c2 RA1 hac1 => ?_)
       have nn1 := nnumber_names n1 s
       have nx1 := nnumber_next n1 s
       have q1 : nnumber n1 s = ((nnumber n1 s).1, (nnumber n1 s).2) := rfl
       generalize (nnumber n1 s).1 = v1 at q1 hac1 ⊢
       generalize (nnumber n1 s).2 = s1 at q1 hac1 nn1 nx1 ⊢
       obtain ⟨RB1, hbc1, eb1, hn1⟩ := back1 _ _ hac1
       rw [eb1]
       have b31 := hn1 b3 (by simp only [hpS, eq_self, implies_true, f3]) h3
       simp -dsimp only [go_sem, gS, f3, b31]
       obtain ⟨HH2, RR2, eq2, hs2, back2⟩ := accN_sub (r := r) (qs := cps s1 c1 c2) (ps := [pcF [] a0]) (o := cvar s1 c1 c2) (l := [(b3, .var [.d (.int .i64 k), .d (.int .i64 k1), .d (.str n1), .d (.int .i64 i1), .d (.slice (Tm.ds xs1)), .d (.int .i64 k2), .d (.str n2), .d (.int .i64 i2), .d (.slice (Tm.ds xs2)), .d (.str n), .d (.slice (xs.map Tm.d)), .d (.slice (gs.map Gl.d))])]) (by simpa using hbc1) (by simp only [hpS, eq_self, implies_true, f3, b31]) (by simp only [hpS, eq_self, implies_true, ]) (by simp only [hpS, eq_self, implies_true, f3, b31])
       rw [eq2]
       refine number05_ok ⟨hs2, by omega, by omega⟩ n2 _ (fun d1 d2 RA2 hac2 => ?_)
       have nn2 := nnumber_names n2 s1
       have nx2 := nnumber_next n2 s1
       have q2 : nnumber n2 s1 = ((nnumber n2 s1).1, (nnumber n2 s1).2) := rfl
       generalize (nnumber n2 s1).1 = v2 at q2 hac2 ⊢
       generalize (nnumber n2 s1).2 = s2 at q2 hac2 nn2 nx2 ⊢
       obtain ⟨RB2, hbc2, eb2, hn2⟩ := back2 _ _ hac2
       rw [eb2]
       have b32 := hn2 b3 (by simp only [hpS, eq_self, implies_true, f3]) b31
       simp -dsimp only [go_sem, gS, f3, b32]
       have hd := fSame_d (v1 : Int) (v2 : Int)
       refine newV_hp (fun b70 v70 f70 w70 => ?_)
       simp only [off_cons, off_nil] at f70
       simp -dsimp only [go_sem, gS, f3, b32, f70]
       rw [← hd]
       refine AccN.appTo (pre := cps s2 d1 d2) (p := pcF [] a0) (post := []) (ns := [(fSame (v1 : Int) (v2 : Int)).d]) (by simpa using hbc2) (by simp only [hpS, eq_self, implies_true, f3, b32, f70]) (by simp only [hpS, eq_self, implies_true, ]) (by simp only [List.length_map, List.length_cons, List.length_nil, List.length_append]; omega) (fun a' R2 hacc2 nhacc2 => ?_)
       have k3 := nhacc2 b3 (by simp only [hpS, eq_self, implies_true, f3]) b32
       have k70 := nhacc2 b70 (by simp only [hpS, eq_self, implies_true, f70]) f70.2.2.2.2
       simp -dsimp only [go_sem, gS, f3, f70, k3, k70]
       rw [show nequal (.mk k1 n1 i1 xs1) (.mk k2 n2 i2 xs2) s = ([fSame v1 v2], s2) by simp [nequal, Tm.kind, Tm.name, e1, e2, u1, u2, q1, q2]] at hK
       refine retW_drop (G := hp R2 [(r, cvar s2 d1 d2)]) (leH_hp (by simp only [hpS, eq_self, implies_true, f3, f70, k3, k70]) (by simp only [hpS, eq_self, implies_true, f3, f70, k3, k70])) (retW_is (hK a' d1 d2 R2 ?_))
       exact AccN.rot (ys := [pcF [fSame v1 v2] a']) hacc2
      ·have u2 : n2 = kUnder := by simpa [kUnder] using w2
       rw [show nequal (.mk k1 n1 i1 xs1) (.mk k2 n2 i2 xs2) s = ([], s) by simp [nequal, Tm.kind, Tm.name, e1, e2, u2]] at hK
       simp -dsimp only [go_sem, gS, w2, f3, h3]
       refine retW_drop (G := hp R1 [(r, cvar s a1 a2)]) (leH_hp (by simp only [hpS, eq_self, implies_true, f3, h3]) (by simp only [hpS, eq_self, implies_true, f3, h3])) (retW_is (hK a0 a1 a2 R1 ?_))
       exact AccN.rot (ys := [pcF [] a0]) hacc0
     ·have u1 : n1 = kUnder := by simpa [kUnder] using w1
      rw [show nequal (.mk k1 n1 i1 xs1) (.mk k2 n2 i2 xs2) s = ([], s) by simp [nequal, Tm.kind, Tm.name, e1, e2, u1]] at hK
      simp -dsimp only [go_sem, gS, w1, f3, h3]
      refine retW_drop (G := hp R1 [(r, cvar s a1 a2)]) (leH_hp (by simp only [hpS, eq_self, implies_true, f3, h3]) (by simp only [hpS, eq_self, implies_true, f3, h3])) (retW_is (hK a0 a1 a2 R1 ?_))
      exact AccN.rot (ys := [pcF [] a0]) hacc0
    ·have e2 : k2 ≠ 1 := of_decide_eq_false v2
     simp -dsimp only [go_sem, gS, v1, v2, f3, h3]
     obtain ⟨HH1, RR1, eq1, hs1, back1⟩ := accN_sub (r := r) (qs := cps s a1 a2) (ps := [pcF [] a0]) (o := cvar s a1 a2) (l := [(b3, .var [.d (.int .i64 k), .d (.int .i64 k1), .d (.str n1), .d (.int .i64 i1), .d (.slice (Tm.ds xs1)), .d (.int .i64 k2), .d (.str n2), .d (.int .i64 i2), .d (.slice (Tm.ds xs2)), .d (.str n), .d (.slice (xs.map Tm.d)), .d (.slice (gs.map Gl.d))])]) hacc0 (by simp only [hpS, eq_self, implies_true, f3, h3]) (by simp only [hpS, eq_self, implies_true, ]) (by simp only [hpS, eq_self, implies_true, f3, h3])
     rw [eq1]
     refine number05_ok ⟨hs1, by omega, by omega⟩ n1 _ (fun c1 c2 RA1 hac1 => ?_)
     have nn1 := nnumber_names n1 s
     have nx1 := nnumber_next n1 s
     have q1 : nnumber n1 s = ((nnumber n1 s).1, (nnumber n1 s).2) := rfl
     generalize (nnumber n1 s).1 = v1 at q1 hac1 ⊢
     generalize (nnumber n1 s).2 = s1 at q1 hac1 nn1 nx1 ⊢
     obtain ⟨RB1, hbc1, eb1, hn1⟩ := back1 _ _ hac1
     rw [eb1]
     have b31 := hn1 b3 (by simp only [hpS, eq_self, implies_true, f3]) h3
     simp -dsimp only [go_sem, gS, f3, b31]
     obtain ⟨HH2, RR2, eq2, hs2, back2⟩ := accN_sub (r := r) (qs := cps s1 c1 c2) (ps := [pcF [] a0]) (o := cvar s1 c1 c2) (l := [(b3, .var [.d (.int .i64 k), .d (.int .i64 k1), .d (.str n1), .d (.int .i64 i1), .d (.slice (Tm.ds xs1)), .d (.int .i64 k2), .d (.str n2), .d (.int .i64 i2), .d (.slice (Tm.ds xs2)), .d (.str n), .d (.slice (xs.map Tm.d)), .d (.slice (gs.map Gl.d))])]) (by simpa using hbc1) (by simp only [hpS, eq_self, implies_true, f3, b31]) (by simp only [hpS, eq_self, implies_true, ]) (by simp only [hpS, eq_self, implies_true, f3, b31])
     rw [eq2]
     have hz2 := nunify_size v1 (.mk k2 n2 i2 xs2) s1
     have hy2 := nunify_names v1 (.mk k2 n2 i2 xs2) s1
     refine unify05_ok _ (.mk k2 n2 i2 xs2) (Nat.le_refl _) hsb HH2 RR2 r s1 c1 c2 hs2 v1 (by omega) (by omega) _ (fun ar2 d1 d2 RA2 hac2 => ?_)
     have u2 : nunify v1 (.mk k2 n2 i2 xs2) s1 = ((nunify v1 (.mk k2 n2 i2 xs2) s1).1, (nunify v1 (.mk k2 n2 i2 xs2) s1).2) := rfl
     generalize (nunify v1 (.mk k2 n2 i2 xs2) s1).1 = rw2 at u2 hz2 hac2 ⊢
     generalize (nunify v1 (.mk k2 n2 i2 xs2) s1).2 = s2 at u2 hz2 hy2 hac2 ⊢
     obtain ⟨RB2, hbc2, eb2, hn2⟩ := back2 _ _ hac2
     rw [eb2]
     have b32 := hn2 b3 (by simp only [hpS, eq_self, implies_true, f3]) b31
     simp -dsimp only [go_sem, gS, f3, b32]
     rw [show nequal (.mk k1 n1 i1 xs1) (.mk k2 n2 i2 xs2) s = (rw2, s2) by rw [← u2]; simp [nequal, Tm.kind, Tm.name, e1, e2, q1]] at hK
     refine retW_drop (G := hp RB2 [(r, cvar s2 d1 d2)]) (leH_hp (by simp only [hpS, eq_self, implies_true, f3, b32]) (by simp only [hpS, eq_self, implies_true, f3, b32])) (retW_is (hK ar2 d1 d2 RB2 ?_))
     exact (by simpa using AccN.without (pre := pcF rw2 ar2 :: cps s2 d1 d2) (p := pcF [] a0) (post := []) hbc2)
   ·have e1 : k1 ≠ 1 := of_decide_eq_false v1
    simp -dsimp only [go_sem, gS, v1, f3, h3]
    refine gif_split (fun v2 => ?_) (fun v2 => ?_)
    ·have e2 : k2 = 1 := of_decide_eq_true v2
     simp -dsimp only [go_sem, gS, v2, f3, h3]
     obtain ⟨HH1, RR1, eq1, hs1, back1⟩ := accN_sub (r := r) (qs := cps s a1 a2) (ps := [pcF [] a0]) (o := cvar s a1 a2) (l := [(b3, .var [.d (.int .i64 k), .d (.int .i64 k1), .d (.str n1), .d (.int .i64 i1), .d (.slice (Tm.ds xs1)), .d (.int .i64 k2), .d (.str n2), .d (.int .i64 i2), .d (.slice (Tm.ds xs2)), .d (.str n), .d (.slice (xs.map Tm.d)), .d (.slice (gs.map Gl.d))])]) hacc0 (by simp only [hpS, eq_self, implies_true, f3, h3]) (by simp only [hpS, eq_self, implies_true, ]) (by simp only [hpS, eq_self, implies_true, f3, h3])
     rw [eq1]
     refine number05_ok ⟨hs1, by omega, by omega⟩ n2 _ (fun c1 c2 RA1 hac1 => ?_)
     have nn1 := nnumber_names n2 s
     have nx1 := nnumber_next n2 s
     have q1 : nnumber n2 s = ((nnumber n2 s).1, (nnumber n2 s).2) := rfl
     generalize (nnumber n2 s).1 = v1 at q1 hac1 ⊢
     generalize (nnumber n2 s).2 = s1 at q1 hac1 nn1 nx1 ⊢
     obtain ⟨RB1, hbc1, eb1, hn1⟩ := back1 _ _ hac1
     rw [eb1]
     have b31 := hn1 b3 (by simp only [hpS, eq_self, implies_true, f3]) h3
     simp -dsimp only [go_sem, gS, f3, b31]
     obtain ⟨HH2, RR2, eq2, hs2, back2⟩ := accN_sub (r := r) (qs := cps s1 c1 c2) (ps := [pcF [] a0]) (o := cvar s1 c1 c2) (l := [(b3, .var [.d (.int .i64 k), .d (.int .i64 k1), .d (.str n1), .d (.int .i64 i1), .d (.slice (Tm.ds xs1)), .d (.int .i64 k2), .d (.str n2), .d (.int .i64 i2), .d (.slice (Tm.ds xs2)), .d (.str n), .d (.slice (xs.map Tm.d)), .d (.slice (gs.map Gl.d))])]) (by simpa using hbc1) (by simp only [hpS, eq_self, implies_true, f3, b31]) (by simp only [hpS, eq_self, implies_true, ]) (by simp only [hpS, eq_self, implies_true, f3, b31])
     rw [eq2]
     have hz2 := nunify_size v1 (.mk k1 n1 i1 xs1) s1
     have hy2 := nunify_names v1 (.mk k1 n1 i1 xs1) s1
     refine unify05_ok _ (.mk k1 n1 i1 xs1) (Nat.le_refl _) hsa HH2 RR2 r s1 c1 c2 hs2 v1 (by omega) (by omega) _ (fun ar2 d1 d2 RA2 hac2 => ?_)
     have u2 : nunify v1 (.mk k1 n1 i1 xs1) s1 = ((nunify v1 (.mk k1 n1 i1 xs1) s1).1, (nunify v1 (.mk k1 n1 i1 xs1) s1).2) := rfl
     generalize (nunify v1 (.mk k1 n1 i1 xs1) s1).1 = rw2 at u2 hz2 hac2 ⊢
     generalize (nunify v1 (.mk k1 n1 i1 xs1) s1).2 = s2 at u2 hz2 hy2 hac2 ⊢
     obtain ⟨RB2, hbc2, eb2, hn2⟩ := back2 _ _ hac2
     rw [eb2]
     have b32 := hn2 b3 (by simp only [hpS, eq_self, implies_true, f3]) b31
     simp -dsimp only [go_sem, gS, f3, b32]
     rw [show nequal (.mk k1 n1 i1 xs1) (.mk k2 n2 i2 xs2) s = (rw2, s2) by rw [← u2]; simp [nequal, Tm.kind, Tm.name, e1, e2, q1]] at hK
     refine retW_drop (G := hp RB2 [(r, cvar s2 d1 d2)]) (leH_hp (by simp only [hpS, eq_self, implies_true, f3, b32]) (by simp only [hpS, eq_self, implies_true, f3, b32])) (retW_is (hK ar2 d1 d2 RB2 ?_))
     exact (by simpa using AccN.without (pre := pcF rw2 ar2 :: cps s2 d1 d2) (p := pcF [] a0) (post := []) hbc2)
    ·have e2 : k2 ≠ 1 := of_decide_eq_false v2
     simp -dsimp only [go_sem, gS, v2, f3, h3]
     refine fresh05_ok _ r s.next a1 a2 (by simp only [hpS, eq_self, implies_true, ]) (by omega) _ ?_
     simp -dsimp only [go_sem, gS, f3, h3]
     rw [show (.var [.d (.int .i64 ((s.next + 1 : Nat) : Int)), a1, a2] : AObj) = cvar (nfresh s).2 a1 a2 from rfl]
     have hn0 : (nfresh s).2.next = s.next + 1 := rfl
     have hm0 : (nfresh s).2.names.length = s.names.length := rfl
     have qf : nfresh s = (s.next, (nfresh s).2) := rfl
     have hacc00 : AccN H0 [r] (cps (nfresh s).2 a1 a2 ++ [pcF [] a0]) R1 := hacc0
     generalize (nfresh s).2 = s0 at hn0 hm0 qf hacc00 ⊢
     obtain ⟨HH1, RR1, eq1, hs1, back1⟩ := accN_sub (r := r) (qs := cps s0 a1 a2) (ps := [pcF [] a0]) (o := cvar s0 a1 a2) (l := [(b3, .var [.d (.int .i64 k), .d (.int .i64 k1), .d (.str n1), .d (.int .i64 i1), .d (.slice (Tm.ds xs1)), .d (.int .i64 k2), .d (.str n2), .d (.int .i64 i2), .d (.slice (Tm.ds xs2)), .d (.str n), .d (.slice (xs.map Tm.d)), .d (.slice (gs.map Gl.d))])]) hacc00 (by simp only [hpS, eq_self, implies_true, f3, h3]) (by simp only [hpS, eq_self, implies_true, ]) (by simp only [hpS, eq_self, implies_true, f3, h3])
     rw [eq1]
     have hz1 := nunify_size s.next (.mk k1 n1 i1 xs1) s0
     have hy1 := nunify_names s.next (.mk k1 n1 i1 xs1) s0
     refine unify05_ok _ (.mk k1 n1 i1 xs1) (Nat.le_refl _) hsa HH1 RR1 r s0 a1 a2 hs1 s.next (by omega) (by omega) _ (fun ar1 c1 c2 RA1 hac1 => ?_)
     have u1 : nunify s.next (.mk k1 n1 i1 xs1) s0 = ((nunify s.next (.mk k1 n1 i1 xs1) s0).1, (nunify s.next (.mk k1 n1 i1 xs1) s0).2) := rfl
     generalize (nunify s.next (.mk k1 n1 i1 xs1) s0).1 = rw1 at u1 hz1 hac1 ⊢
     generalize (nunify s.next (.mk k1 n1 i1 xs1) s0).2 = s1 at u1 hz1 hy1 hac1 ⊢
     obtain ⟨RB1, hbc1, eb1, hn1⟩ := back1 _ _ hac1
     rw [eb1]
     have b31 := hn1 b3 (by simp only [hpS, eq_self, implies_true, f3]) h3
     simp -dsimp only [go_sem, gS, f3, b31]
     have hok1 : okK [r] RB1 [(r, cvar s1 c1 c2), (b3, .var [.d (.int .i64 k), .d (.int .i64 k1), .d (.str n1), .d (.int .i64 i1), .d (.slice (Tm.ds xs1)), .d (.int .i64 k2), .d (.str n2), .d (.int .i64 i2), .d (.slice (Tm.ds xs2)), .d (.str n), .d (.slice (xs.map Tm.d)), .d (.slice (gs.map Gl.d))])] := by simp only [hpS, eq_self, implies_true, f3, b31]
     rw [AccN.src (pre := []) (p := pcF rw1 ar1) (post := cps s1 c1 c2 ++ [pcF ([] : List Fl) a0]) hbc1 hok1]
     have hszs1 := szs_map (sz := 10) (f := Fl.d) (fun x => x.cs_length) rw1
     simp -dsimp only [go_sem, gS, hszs1]
     refine AccN.appTo (pre := pcF rw1 ar1 :: cps s1 c1 c2) (p := pcF ([] : List Fl) a0) (post := []) hbc1 hok1 (by simp only [hpS, eq_self, implies_true, ]) (by simp only [List.length_map, List.length_nil, List.length_append, List.nil_append]; omega) (fun aa1 RC1 hd1 hm1 => ?_)
     have c31 := hm1 b3 (by simp only [hpS, eq_self, implies_true, f3]) b31
     have hx1 : AccN H0 [r] (cps s1 c1 c2 ++ [pcF (([] : List Fl) ++ rw1) aa1]) RC1 := by
      have := AccN.without (pre := []) (p := pcF rw1 ar1) (post := cps s1 c1 c2 ++ [⟨39, 10, ([] : List Fl).map Fl.d ++ rw1.map Fl.d, aa1⟩]) hd1
      simp only [pcF, List.map_append]; exact this
     simp -dsimp only [go_sem, gS, f3, c31]
     obtain ⟨HH2, RR2, eq2, hs2, back2⟩ := accN_sub (r := r) (qs := cps s1 c1 c2) (ps := [pcF ([] ++ rw1) aa1]) (o := cvar s1 c1 c2) (l := [(b3, .var [.d (.int .i64 k), .d (.int .i64 k1), .d (.str n1), .d (.int .i64 i1), .d (.slice (Tm.ds xs1)), .d (.int .i64 k2), .d (.str n2), .d (.int .i64 i2), .d (.slice (Tm.ds xs2)), .d (.str n), .d (.slice (xs.map Tm.d)), .d (.slice (gs.map Gl.d))])]) hx1 (by simp only [hpS, eq_self, implies_true, f3, c31]) (by simp only [hpS, eq_self, implies_true, ]) (by simp only [hpS, eq_self, implies_true, f3, c31])
     rw [eq2]
     have hz2 := nunify_size s.next (.mk k2 n2 i2 xs2) s1
     have hy2 := nunify_names s.next (.mk k2 n2 i2 xs2) s1
     refine unify05_ok _ (.mk k2 n2 i2 xs2) (Nat.le_refl _) hsb HH2 RR2 r s1 c1 c2 hs2 s.next (by omega) (by omega) _ (fun ar2 d1 d2 RA2 hac2 => ?_)
     have u2 : nunify s.next (.mk k2 n2 i2 xs2) s1 = ((nunify s.next (.mk k2 n2 i2 xs2) s1).1, (nunify s.next (.mk k2 n2 i2 xs2) s1).2) := rfl
     generalize (nunify s.next (.mk k2 n2 i2 xs2) s1).1 = rw2 at u2 hz2 hac2 ⊢
     generalize (nunify s.next (.mk k2 n2 i2 xs2) s1).2 = s2 at u2 hz2 hy2 hac2 ⊢
     obtain ⟨RB2, hbc2, eb2, hn2⟩ := back2 _ _ hac2
     rw [eb2]
     have b32 := hn2 b3 (by simp only [hpS, eq_self, implies_true, f3]) c31
     simp -dsimp only [go_sem, gS, f3, b32]
     have hok2 : okK [r] RB2 [(r, cvar s2 d1 d2), (b3, .var [.d (.int .i64 k), .d (.int .i64 k1), .d (.str n1), .d (.int .i64 i1), .d (.slice (Tm.ds xs1)), .d (.int .i64 k2), .d (.str n2), .d (.int .i64 i2), .d (.slice (Tm.ds xs2)), .d (.str n), .d (.slice (xs.map Tm.d)), .d (.slice (gs.map Gl.d))])] := by simp only [hpS, eq_self, implies_true, f3, b32]
     rw [AccN.src (pre := []) (p := pcF rw2 ar2) (post := cps s2 d1 d2 ++ [pcF ([] ++ rw1) aa1]) hbc2 hok2]
     have hszs2 := szs_map (sz := 10) (f := Fl.d) (fun x => x.cs_length) rw2
     simp -dsimp only [go_sem, gS, hszs2]
     refine AccN.appTo (pre := pcF rw2 ar2 :: cps s2 d1 d2) (p := pcF ([] ++ rw1) aa1) (post := []) hbc2 hok2 (by simp only [hpS, eq_self, implies_true, ]) (by simp only [List.length_map, List.length_nil, List.length_append, List.nil_append]; omega) (fun aa2 RC2 hd2 hm2 => ?_)
     have c32 := hm2 b3 (by simp only [hpS, eq_self, implies_true, f3]) b32
     have hx2 : AccN H0 [r] (cps s2 d1 d2 ++ [pcF (([] ++ rw1) ++ rw2) aa2]) RC2 := by
      have := AccN.without (pre := []) (p := pcF rw2 ar2) (post := cps s2 d1 d2 ++ [⟨39, 10, ([] ++ rw1).map Fl.d ++ rw2.map Fl.d, aa2⟩]) hd2
      simp only [pcF, List.map_append]; exact this
     simp -dsimp only [go_sem, gS, f3, c32]
     rw [show nequal (.mk k1 n1 i1 xs1) (.mk k2 n2 i2 xs2) s = ([] ++ rw1 ++ rw2, s2) by simp [nequal, Tm.kind, e1, e2, qf, u1, u2]] at hK
     refine retW_drop (G := hp RC2 [(r, cvar s2 d1 d2)]) (leH_hp (by simp only [hpS, eq_self, implies_true, f3, c32]) (by simp only [hpS, eq_self, implies_true, f3, c32])) (retW_is (hK aa2 d1 d2 RC2 ?_))
     exact AccN.rot (ys := [pcF ([] ++ rw1 ++ rw2) aa2]) hx2
  simp -dsimp only [go_sem, gS, g2, f3, h3]
  refine gif_split (fun g3 => ?_) (fun g3 => ?_)
  ·have e : k = 4 := of_decide_eq_true g3
   have hg : ngoal (.mk k (.mk k1 n1 i1 xs1) (.mk k2 n2 i2 xs2) n xs gs) s = ((nplaces xs s).2.1 ++ [fCall ⟨n, xs.length⟩ (nplaces xs s).1], (nplaces xs s).2.2) := by rw [e]; simp [ngoal]
   rw [hg] at hK
   simp -dsimp only [go_sem, gS, g3, f3, h3]
   refine newK_hp (fun b11 f11 => ?_)
   simp only [off_cons, off_nil] at f11
   simp -dsimp only [go_sem, gS, f3, h3, f11]
   have hacc4 : AccN H0 [r] (cps s a1 a2 ++ [pcN [] .nils, pcF [] a0]) R1 := AccN.rot (xs := [pcN [] .nils, pcF [] a0]) ((AccN.rot (ys := [pcF [] a0]) hacc0).nil _ _)
   refine svc_loop (X := Nat × List Nat × List Fl × NS × A × A × A × A × Heap) (fun y => [(0, .ref r 0), (5, y.2.2.2.2.2.2.2.1), (11, .ref b11 0), (119, .d (.slice (xs.map Tm.d))), (120, .d (.int .i64 xs.length)), (121, .d (.int .i64 y.1))])
    (fun y G => G = hp y.2.2.2.2.2.2.2.2 [(r, cvar y.2.2.2.1 y.2.2.2.2.1 y.2.2.2.2.2.1), (b11, .var [.d (.int .i64 6), .d (.int .i64 0), .d (.int .i64 0), .d (.int .i64 0), .d (.str ⟨#[]⟩), .d (.int .i64 0), .d (.str n), .d (.int .i64 xs.length), y.2.2.2.2.2.2.1, .nils])] ∧ AccN H0 [r] (cps y.2.2.2.1 y.2.2.2.2.1 y.2.2.2.2.2.1 ++ [pcN y.2.1 y.2.2.2.2.2.2.1, pcF y.2.2.1 y.2.2.2.2.2.2.2.1]) y.2.2.2.2.2.2.2.2 ∧ y.2.2.2.2.2.2.2.2 b11 = none ∧ y.2.1.length = y.1 ∧ y.1 ≤ xs.length ∧ (y.2.1 ++ (nplaces (xs.drop y.1) y.2.2.2.1).1, y.2.2.1 ++ (nplaces (xs.drop y.1) y.2.2.2.1).2.1, (nplaces (xs.drop y.1) y.2.2.2.1).2.2) = nplaces xs s ∧ y.2.2.2.1.next + Tm.nodess (xs.drop y.1) ≤ s.next + Tm.nodess xs ∧ y.2.2.2.1.names.length + Tm.nodess (xs.drop y.1) ≤ s.names.length + Tm.nodess xs ∧ y.2.2.1.length + Tm.nodess (xs.drop y.1) ≤ Tm.nodess xs)
    (fun y => xs.length - y.1) (0, [], [], s, a1, a2, .nils, a0, R1) _ ⟨rfl, hacc4, f11.2.2.2.2, rfl, Nat.zero_le _, by simp, by simp, by simp, by simp⟩ (by simp -dsimp only [go_sem, gS]) (leH_hp (by simp only [hpS, eq_self, implies_true, f3, h3, f11]) (by simp only [hpS, eq_self, implies_true, f3, h3, f11])) ?_
   clear f3 h3 hb3 hacc4 hacc1 hacc0
   rintro ⟨j, vs, ot, s1, c1, c2, av, a, R4⟩ G' ⟨hG, hac, h11, hvl, hj, hrun, hnx, hnn, hout⟩
   simp only at hG hac h11 hvl hj hrun hnx hnn hout
   subst hG
   have hxn := Tm.nodess_length xs
   simp -dsimp only [go_sem, gS]
   refine gif_split (fun q1 => ?_) (fun q1 => ?_)
   ·have q1' : j < xs.length := by have := of_decide_eq_true q1; omega
    obtain ⟨⟨tk, tn, ti, ta⟩, hx⟩ := list_at q1'
    have hwj := wrapN (k := j) (by omega)
    rw [drop_at hx] at hrun hnx hnn hout
    simp only [nplaces, Tm.nodess] at hrun hnx hnn hout
    simp -dsimp only [go_sem, gS, q1, hx, Tm.d, Tm.cs, f11, h11]
    refine newK_hp (fun b13 f13 => ?_)
    simp only [off_cons, off_nil] at f13
    simp -dsimp only [go_sem, gS, f11, h11, f13]
    obtain ⟨HH, RR, eq, hs1, back⟩ := accN_sub (r := r) (qs := cps s1 c1 c2) (ps := [pcN vs av, pcF ot a]) (o := cvar s1 c1 c2) (l := [(b11, .var [.d (.int .i64 6), .d (.int .i64 0), .d (.int .i64 0), .d (.int .i64 0), .d (.str ⟨#[]⟩), .d (.int .i64 0), .d (.str n), .d (.int .i64 xs.length), av, .nils]), (b13, .var [.d (.int .i64 tk), .d (.str tn), .d (.int .i64 ti), .d (.slice (Tm.ds ta))])]) hac (by simp only [hpS, eq_self, implies_true, f11, h11, f13]) (by simp only [hpS, eq_self, implies_true, ]) (by simp only [hpS, eq_self, implies_true, f11, f13])
    rw [eq]
    have hz := nplace_size (.mk tk tn ti ta) s1
    have hy := nplace_names (.mk tk tn ti ta) s1
    refine place05_ok (.mk tk tn ti ta) (Tm.smalls_mem hsx _ (List.mem_of_getElem? hx)) HH RR r s1 c1 c2 hs1 (by omega) (by omega) _ (fun ar d1 d2 RA hac2 => ?_)
    generalize (nplace (.mk tk tn ti ta) s1).1 = v at hrun hac2 ⊢
    generalize (nplace (.mk tk tn ti ta) s1).2.1 = rw1 at hrun hac2 hz ⊢
    generalize (nplace (.mk tk tn ti ta) s1).2.2 = s2 at hrun hac2 hz hy ⊢
    obtain ⟨RB, hbc, ebb, hnb⟩ := back _ _ hac2
    rw [ebb]
    have k11 := hnb b11 (by simp only [hpS, eq_self, implies_true, f11]) h11
    have k13 := hnb b13 (by simp only [hpS, eq_self, implies_true, f13]) f13.2.2.2.2
    have hok : okK [r] RB [(r, cvar s2 d1 d2), (b11, .var [.d (.int .i64 6), .d (.int .i64 0), .d (.int .i64 0), .d (.int .i64 0), .d (.str ⟨#[]⟩), .d (.int .i64 0), .d (.str n), .d (.int .i64 xs.length), av, .nils]), (b13, .var [.d (.int .i64 tk), .d (.str tn), .d (.int .i64 ti), .d (.slice (Tm.ds ta))])] := by simp only [hpS, eq_self, implies_true, f11, k11, k13, f13]
    simp -dsimp only [go_sem, gS, f11, f13, k11, k13]
    rw [AccN.src (pre := []) (p := pcF rw1 ar) (post := cps s2 d1 d2 ++ [pcN vs av, pcF ot a]) hbc hok]
    have hszs := szs_map (sz := 10) (f := Fl.d) (fun x => x.cs_length) rw1
    simp -dsimp only [go_sem, gS, hszs]
    refine AccN.appTo (pre := pcF rw1 ar :: (cps s2 d1 d2 ++ [pcN vs av])) (p := pcF ot a) (post := []) hbc hok (by simp only [hpS, eq_self, implies_true, ]) (by simp only [List.length_map]; omega) (fun a4 R8 hac3 hn3 => ?_)
    have m11 := hn3 b11 (by simp only [hpS, eq_self, implies_true, f11]) k11
    have m13 := hn3 b13 (by simp only [hpS, eq_self, implies_true, f13]) k13
    have hac4 : AccN H0 [r] (cps s2 d1 d2 ++ [pcN vs av, pcF (ot ++ rw1) a4]) R8 := by
     have := AccN.without (pre := []) (p := pcF rw1 ar) (post := cps s2 d1 d2 ++ [pcN vs av, ⟨39, 10, ot.map Fl.d ++ rw1.map Fl.d, a4⟩]) hac3
     simp only [pcF, List.map_append]; exact this
    simp -dsimp only [go_sem, gS, f11, f13, m11, m13]
    refine newV_hp (fun b137 v137 f137 w137 => ?_)
    simp only [off_cons, off_nil] at f137
    simp -dsimp only [go_sem, gS, f11, f13, m11, m13, f137]
    refine AccN.appTo (pre := cps s2 d1 d2) (p := pcN vs av) (post := [pcF (ot ++ rw1) a4]) (ns := [.int .i64 (v : Int)]) hac4 (by simp only [hpS, eq_self, implies_true, f11, f13, m11, m13, f137]) (by simp only [hpS, eq_self, implies_true, ]) (by simp only [List.length_map, List.length_cons, List.length_nil]; omega) (fun av' R9 hac5 hn5 => ?_)
    have o11 := hn5 b11 (by simp only [hpS, eq_self, implies_true, f11]) m11
    have o13 := hn5 b13 (by simp only [hpS, eq_self, implies_true, f13]) m13
    have o137 := hn5 b137 (by simp only [hpS, eq_self, implies_true, f137]) f137.2.2.2.2.2.2
    have oa := AccN.one (pre := cps s2 d1 d2) hac5
    simp only at oa
    simp -dsimp only [go_sem, gS, f11, f13, f137, o11, o13, o137, oa, List.length_cons, List.length_nil, hwj]
    have hac6 : AccN H0 [r] (cps s2 d1 d2 ++ [pcN (vs ++ [v]) av', pcF (ot ++ rw1) a4]) R9 := by
     have e : (vs ++ [v]).map (fun (v : Nat) => D.int .i64 (v : Int)) = vs.map (fun (v : Nat) => D.int .i64 (v : Int)) ++ [.int .i64 (v : Int)] := by simp
     simp only [pcN, e]; exact hac5
    refine roundQ_next (j + 1, vs ++ [v], ot ++ rw1, s2, d1, d2, av', a4, R9) _ ⟨rfl, hac6, o11, by simp [hvl], q1', by rw [← hrun]; simp, by simp only; omega, by simp only; omega, by simp only [List.length_append]; omega⟩ (by simp only; omega) (by simp -dsimp only [go_sem, gS]) (leH_hp (by simp only [hpS, eq_self, implies_true, f11, f13, f137, o11, o13, o137]) (by simp only [hpS, eq_self, implies_true, f11, f13, f137, o11, o13, o137]))
   ·have q1' : j = xs.length := by have := of_decide_eq_false q1; omega
    rw [q1', drop_end (Nat.le_refl _)] at hrun
    simp only [nplaces, List.append_nil] at hrun
    rw [← hrun] at hK
    simp only at hK
    have hal := AccN.allD (pre := cps s1 c1 c2) (t := [.nils]) hac
    simp only at hal
    simp -dsimp only [go_sem, gS, q1, f11, h11, hal]
    refine AccN.deepF (pre := cps s1 c1 c2) (p := pcN vs av) (post := [pcF ot a]) hac (by simp only [hpS, eq_self, implies_true, f11, h11]) (fun H2 R2 hle2 hac2 hav hn2 => ?_)
    have k11 := hn2 b11 (by simp only [hpS, eq_self, implies_true, f11]) h11
    simp -dsimp only [go_sem, gS, f11, k11]
    refine newV_hp (fun b143 v143 f143 w143 => ?_)
    simp only [off_cons, off_nil] at f143
    simp -dsimp only [go_sem, gS, f11, k11, f143]
    have hd := fCall_d ⟨n, (xs.length : Int)⟩ vs
    simp only at hd
    rw [← hd]
    refine AccN.appTo (pre := cps s1 c1 c2) (p := pcF ot a) (post := []) (ns := [(fCall ⟨n, xs.length⟩ vs).d]) hac2 (by simp only [hpS, eq_self, implies_true, f11, k11, f143]) (by simp only [hpS, eq_self, implies_true, ]) (by simp only [List.length_map, List.length_cons, List.length_nil]; omega) (fun a4 R8 hac3 hn3 => ?_)
    have m11 := hn3 b11 (by simp only [hpS, eq_self, implies_true, f11]) k11
    have m143 := hn3 b143 (by simp only [hpS, eq_self, implies_true, f143]) f143.2.2.2.2
    simp -dsimp only [go_sem, gS, f11, f143, m11, m143]
    refine retW_drop (G := hp R8 [(r, cvar s1 c1 c2)]) (leH_hp (by simp only [hpS, eq_self, implies_true, f11, f143, m11, m143]) (by simp only [hpS, eq_self, implies_true, f11, f143, m11, m143])) (retW_is (hK a4 c1 c2 R8 ?_))
    have hac4 : AccN H2 [r] (cps s1 c1 c2 ++ [pcF (ot ++ [fCall ⟨n, xs.length⟩ vs]) a4]) R8 := by
     simp only [pcF, List.map_append, List.map_cons, List.map_nil]; exact hac3
    exact (AccN.rot (ys := [pcF (ot ++ [fCall ⟨n, xs.length⟩ vs]) a4]) hac4).weak hle2
  simp -dsimp only [go_sem, gS, g3, f3, h3]
  refine gif_split (fun g4 => ?_) (fun g4 => ?_)
  ·have e : k = 8 := of_decide_eq_true g4
   have hg : ngoal (.mk k (.mk k1 n1 i1 xs1) (.mk k2 n2 i2 xs2) n xs gs) s = ((nplace (.mk k1 n1 i1 xs1) s).2.1 ++ [fRow 10 (nplace (.mk k1 n1 i1 xs1) s).1 []], (nplace (.mk k1 n1 i1 xs1) s).2.2) := by rw [e]; simp [ngoal]
   rw [hg] at hK
   simp -dsimp only [go_sem, gS, g4, f3, h3]
   obtain ⟨HH1, RR1, eq1, hs1, back1⟩ := accN_sub (r := r) (qs := cps s a1 a2) (ps := [pcF [] a0]) (o := cvar s a1 a2) (l := [(b3, .var [.d (.int .i64 k), .d (.int .i64 k1), .d (.str n1), .d (.int .i64 i1), .d (.slice (Tm.ds xs1)), .d (.int .i64 k2), .d (.str n2), .d (.int .i64 i2), .d (.slice (Tm.ds xs2)), .d (.str n), .d (.slice (xs.map Tm.d)), .d (.slice (gs.map Gl.d))])]) hacc0 (by simp only [hpS, eq_self, implies_true, f3, h3]) (by simp only [hpS, eq_self, implies_true, ]) (by simp only [hpS, eq_self, implies_true, f3, h3])
   rw [eq1]
   have hz := nplace_size (.mk k1 n1 i1 xs1) s
   have hy := nplace_names (.mk k1 n1 i1 xs1) s
   refine place05_ok (.mk k1 n1 i1 xs1) hsa HH1 RR1 r s a1 a2 hs1 (by omega) (by omega) _ (fun ar1 d1 d2 RA hac2 => ?_)
   generalize (nplace (.mk k1 n1 i1 xs1) s).1 = v at hK hac2 ⊢
   generalize (nplace (.mk k1 n1 i1 xs1) s).2.1 = rw1 at hK hac2 hz ⊢
   generalize (nplace (.mk k1 n1 i1 xs1) s).2.2 = s1 at hK hac2 hz hy ⊢
   obtain ⟨RB1, hbc1, ebb, hnb⟩ := back1 _ _ hac2
   rw [ebb]
   have b31 := hnb b3 (by simp only [hpS, eq_self, implies_true, f3]) h3
   simp -dsimp only [go_sem, gS, f3, b31]
   have hok1 : okK [r] RB1 [(r, cvar s1 d1 d2), (b3, .var [.d (.int .i64 k), .d (.int .i64 k1), .d (.str n1), .d (.int .i64 i1), .d (.slice (Tm.ds xs1)), .d (.int .i64 k2), .d (.str n2), .d (.int .i64 i2), .d (.slice (Tm.ds xs2)), .d (.str n), .d (.slice (xs.map Tm.d)), .d (.slice (gs.map Gl.d))])] := by simp only [hpS, eq_self, implies_true, f3, b31]
   rw [AccN.src (pre := []) (p := pcF rw1 ar1) (post := cps s1 d1 d2 ++ [pcF ([] : List Fl) a0]) hbc1 hok1]
   have hszs1 := szs_map (sz := 10) (f := Fl.d) (fun x => x.cs_length) rw1
   simp -dsimp only [go_sem, gS, hszs1]
   refine AccN.appTo (pre := pcF rw1 ar1 :: cps s1 d1 d2) (p := pcF ([] : List Fl) a0) (post := []) hbc1 hok1 (by simp only [hpS, eq_self, implies_true, ]) (by simp only [List.length_map, List.length_nil, List.length_append, List.nil_append]; omega) (fun aa1 RC1 hd1 hm1 => ?_)
   have c31 := hm1 b3 (by simp only [hpS, eq_self, implies_true, f3]) b31
   have hx1 : AccN H0 [r] (cps s1 d1 d2 ++ [pcF (([] : List Fl) ++ rw1) aa1]) RC1 := by
    have := AccN.without (pre := []) (p := pcF rw1 ar1) (post := cps s1 d1 d2 ++ [⟨39, 10, ([] : List Fl).map Fl.d ++ rw1.map Fl.d, aa1⟩]) hd1
    simp only [pcF, List.map_append]; exact this
   simp -dsimp only [go_sem, gS, f3, c31]
   have hd := fRow_d 10 (v : Int) []
   simp only [List.map_nil] at hd
   refine newV_hp (fun b159 v159 f159 w159 => ?_)
   simp only [off_cons, off_nil] at f159
   simp -dsimp only [go_sem, gS, f3, c31, f159]
   rw [← hd]
   refine AccN.appTo (pre := cps s1 d1 d2) (p := pcF ([] ++ rw1) aa1) (post := []) (ns := [(fRow 10 (v : Int) []).d]) hx1 (by simp only [hpS, eq_self, implies_true, f3, c31, f159]) (by simp only [hpS, eq_self, implies_true, ]) (by simp only [List.length_map, List.length_cons, List.length_nil, List.length_append, List.nil_append]; omega) (fun a' R2 hacc2 nhacc2 => ?_)
   have k3 := nhacc2 b3 (by simp only [hpS, eq_self, implies_true, f3]) c31
   have k159 := nhacc2 b159 (by simp only [hpS, eq_self, implies_true, f159]) f159.2.2.2.2
   simp -dsimp only [go_sem, gS, f3, f159, k3, k159]
   have hac4 : AccN H0 [r] (cps s1 d1 d2 ++ [pcF (rw1 ++ [fRow 10 (v : Int) []]) a']) R2 := by
    simp only [pcF, List.map_append, List.map_cons, List.map_nil]; exact hacc2
   refine retW_drop (G := hp R2 [(r, cvar s1 d1 d2)]) (leH_hp (by simp only [hpS, eq_self, implies_true, f3, f159, k3, k159]) (by simp only [hpS, eq_self, implies_true, f3, f159, k3, k159])) (retW_is (hK a' d1 d2 R2 ?_))
   exact AccN.rot (ys := [pcF (rw1 ++ [fRow 10 (v : Int) []]) a']) hac4
  simp -dsimp only [go_sem, gS, g4, f3, h3]
  refine gif_split (fun g5 => ?_) (fun g5 => ?_)
  ·have e : k = 5 := of_decide_eq_true g5
   have hg : ngoal (.mk k (.mk k1 n1 i1 xs1) (.mk k2 n2 i2 xs2) n xs gs) s = ngoals gs s := by rw [e]; simp [ngoal]
   rw [hg] at hK
   simp -dsimp only [go_sem, gS, g5, f3, h3]
   refine svc_loop (X := Nat × List Fl × NS × A × A × A × Heap) (fun y => [(0, .ref r 0), (5, y.2.2.2.2.2.1), (164, .d (.slice (gs.map Gl.d))), (165, .d (.int .i64 gs.length)), (166, .d (.int .i64 y.1))])
    (fun y G => G = hp y.2.2.2.2.2.2 [(r, cvar y.2.2.1 y.2.2.2.1 y.2.2.2.2.1)] ∧ AccN H0 [r] (cps y.2.2.1 y.2.2.2.1 y.2.2.2.2.1 ++ [pcF y.2.1 y.2.2.2.2.2.1]) y.2.2.2.2.2.2 ∧ y.1 ≤ gs.length ∧ (y.2.1 ++ (ngoals (gs.drop y.1) y.2.2.1).1, (ngoals (gs.drop y.1) y.2.2.1).2) = ngoals gs s ∧ y.2.2.1.next + Gl.nodess (gs.drop y.1) ≤ s.next + Gl.nodess gs ∧ y.2.2.1.names.length + Gl.nodess (gs.drop y.1) ≤ s.names.length + Gl.nodess gs ∧ y.2.1.length + Gl.nodess (gs.drop y.1) ≤ Gl.nodess gs)
    (fun y => gs.length - y.1) (0, [], s, a1, a2, a0, R1) _ ⟨rfl, hacc0, Nat.zero_le _, by simp, by simp, by simp, by simp⟩ (by simp -dsimp only [go_sem, gS]) (leH_hp (by simp only [hpS, eq_self, implies_true, f3, h3]) (by simp only [hpS, eq_self, implies_true, f3, h3])) ?_
   clear f3 h3 hb3 hacc1 hacc0
   rintro ⟨j, ot, s1, c1, c2, a, R4⟩ G' ⟨hG, hac, hj, hrun, hnx, hnn, hout⟩
   simp only at hG hac hj hrun hnx hnn hout
   subst hG
   have hgn := Gl.nodess_length gs
   simp -dsimp only [go_sem, gS]
   refine gif_split (fun q1 => ?_) (fun q1 => ?_)
   ·have q1' : j < gs.length := by have := of_decide_eq_true q1; omega
    obtain ⟨⟨gk, ⟨g1, m1, j1, y1⟩, ⟨g2, m2, j2, y2⟩, gn, gxs, ggs⟩, hx⟩ := list_at q1'
    have hwj := wrapN (k := j) (by omega)
    have hgm := Gl.nodess_mem (List.mem_of_getElem? hx)
    rw [drop_at hx] at hrun hnx hnn hout
    simp only [ngoals, Gl.nodess] at hrun hnx hnn hout
    simp -dsimp only [go_sem, gS, q1, hx, Gl.d, Gl.cs, Tm.cs, List.cons_append, List.nil_append]
    refine newK_hp (fun b19 f19 => ?_)
    simp only [off_cons, off_nil] at f19
    simp -dsimp only [go_sem, gS, f19]
    obtain ⟨HH, RR, eq, hs1, back⟩ := accN_sub (r := r) (qs := cps s1 c1 c2) (ps := [pcF ot a]) (o := cvar s1 c1 c2) (l := [(b19, .var [.d (.int .i64 gk), .d (.int .i64 g1), .d (.str m1), .d (.int .i64 j1), .d (.slice (Tm.ds y1)), .d (.int .i64 g2), .d (.str m2), .d (.int .i64 j2), .d (.slice (Tm.ds y2)), .d (.str gn), .d (.slice (gxs.map Tm.d)), .d (.slice (Gl.ds ggs))])]) hac (by simp only [hpS, eq_self, implies_true, f19]) (by simp only [hpS, eq_self, implies_true, ]) (by simp only [hpS, eq_self, implies_true, f19])
    rw [eq]
    have hz := ngoal_size (.mk gk (.mk g1 m1 j1 y1) (.mk g2 m2 j2 y2) gn gxs ggs) s1
    have hy := ngoal_names (.mk gk (.mk g1 m1 j1 y1) (.mk g2 m2 j2 y2) gn gxs ggs) s1
    refine goal05_ok m (.mk gk (.mk g1 m1 j1 y1) (.mk g2 m2 j2 y2) gn gxs ggs) (by omega) (Gl.smalls_mem hsg _ (List.mem_of_getElem? hx)) HH RR r s1 c1 c2 hs1 (by omega) (by omega) _ (fun ar d1 d2 RA hac2 => ?_)
    generalize (ngoal (.mk gk (.mk g1 m1 j1 y1) (.mk g2 m2 j2 y2) gn gxs ggs) s1).1 = rw1 at hrun hac2 hz ⊢
    generalize (ngoal (.mk gk (.mk g1 m1 j1 y1) (.mk g2 m2 j2 y2) gn gxs ggs) s1).2 = s2 at hrun hac2 hz hy ⊢
    obtain ⟨RB, hbc, ebb, hnb⟩ := back _ _ hac2
    rw [ebb]
    have k19 := hnb b19 (by simp only [hpS, eq_self, implies_true, f19]) f19.2.2
    have hok : okK [r] RB [(r, cvar s2 d1 d2), (b19, .var [.d (.int .i64 gk), .d (.int .i64 g1), .d (.str m1), .d (.int .i64 j1), .d (.slice (Tm.ds y1)), .d (.int .i64 g2), .d (.str m2), .d (.int .i64 j2), .d (.slice (Tm.ds y2)), .d (.str gn), .d (.slice (gxs.map Tm.d)), .d (.slice (Gl.ds ggs))])] := by simp only [hpS, eq_self, implies_true, f19, k19]
    simp -dsimp only [go_sem, gS, f19, k19]
    rw [AccN.src (pre := []) (p := pcF rw1 ar) (post := cps s2 d1 d2 ++ [pcF ot a]) hbc hok]
    have hszs := szs_map (sz := 10) (f := Fl.d) (fun x => x.cs_length) rw1
    simp -dsimp only [go_sem, gS, hszs]
    refine AccN.appTo (pre := pcF rw1 ar :: cps s2 d1 d2) (p := pcF ot a) (post := []) hbc hok (by simp only [hpS, eq_self, implies_true, ]) (by simp only [List.length_map]; omega) (fun a4 R8 hac3 hn3 => ?_)
    have m19 := hn3 b19 (by simp only [hpS, eq_self, implies_true, f19]) k19
    have hac4 : AccN H0 [r] (cps s2 d1 d2 ++ [pcF (ot ++ rw1) a4]) R8 := by
     have := AccN.without (pre := []) (p := pcF rw1 ar) (post := cps s2 d1 d2 ++ [⟨39, 10, ot.map Fl.d ++ rw1.map Fl.d, a4⟩]) hac3
     simp only [pcF, List.map_append]; exact this
    simp -dsimp only [go_sem, gS, f19, m19, hwj]
    refine roundQ_next (j + 1, ot ++ rw1, s2, d1, d2, a4, R8) _ ⟨rfl, hac4, q1', by rw [← hrun]; simp, by simp only; omega, by simp only; omega, by simp only [List.length_append]; omega⟩ (by simp only; omega) (by simp -dsimp only [go_sem, gS]) (leH_hp (by simp only [hpS, eq_self, implies_true, f19, m19]) (by simp only [hpS, eq_self, implies_true, f19, m19]))
   ·rw [drop_end (by have := of_decide_eq_false q1; omega)] at hrun
    simp only [ngoals, List.append_nil] at hrun
    rw [← hrun] at hK
    simp only at hK
    simp -dsimp only [go_sem, gS, q1]
    exact retW_is (hK a c1 c2 R4 (AccN.rot (ys := [pcF ot a]) hac))
  simp -dsimp only [go_sem, gS, g5, f3, h3]
  refine gif_split (fun g6 => ?_) (fun g6 => ?_)
  ·have e : k = 6 := of_decide_eq_true g6
   have hg : ngoal (.mk k (.mk k1 n1 i1 xs1) (.mk k2 n2 i2 xs2) n xs gs) s = ([fRow 8 0 (nwholes gs s).1], (nwholes gs s).2) := by rw [e]; simp [ngoal]
   rw [hg] at hK
   simp -dsimp only [go_sem, gS, g6, f3, h3]
   have e7 : decide (k = 7) = false := by rw [e]; rfl
   have e9 : decide (k = 9) = false := by rw [e]; rfl
   refine newK_hp (fun b20 f20 => ?_)
   simp only [off_cons, off_nil] at f20
   simp -dsimp only [go_sem, gS, f3, h3, f20, e7, e9]
   have h20 := f20.2.2.2.2
   have hac0 : AccN H0 [r] (cps s a1 a2 ++ [pcF [] .nils, pcF [] a0]) R1 := AccN.rot (xs := [pcF [] .nils, pcF [] a0]) ((AccN.rot (ys := [pcF [] a0]) hacc0).nil _ _)
   refine svc_loop (X := Nat × List Fl × NS × A × A × A × Heap) (fun y => [(0, .ref r 0), (5, a0), (20, .ref b20 0), (195, .d (.slice (gs.map Gl.d))), (196, .d (.int .i64 gs.length)), (197, .d (.int .i64 y.1))])
    (fun y G => G = hp y.2.2.2.2.2.2 [(r, cvar y.2.2.1 y.2.2.2.1 y.2.2.2.2.1), (b20, .var [.d (.int .i64 8), .d (.int .i64 0), .d (.int .i64 0), .d (.int .i64 0), .d (.str ⟨#[]⟩), .d (.int .i64 0), .d (.str ⟨#[]⟩), .d (.int .i64 0), .nils, y.2.2.2.2.2.1])] ∧ AccN H0 [r] (cps y.2.2.1 y.2.2.2.1 y.2.2.2.2.1 ++ [pcF y.2.1 y.2.2.2.2.2.1, pcF [] a0]) y.2.2.2.2.2.2 ∧ y.2.2.2.2.2.2 b20 = none ∧ y.1 ≤ gs.length ∧ (y.2.1 ++ (nwholes (gs.drop y.1) y.2.2.1).1, (nwholes (gs.drop y.1) y.2.2.1).2) = nwholes gs s ∧ y.2.2.1.next + Gl.nodess (gs.drop y.1) ≤ s.next + Gl.nodess gs ∧ y.2.2.1.names.length + Gl.nodess (gs.drop y.1) ≤ s.names.length + Gl.nodess gs ∧ y.2.1.length = y.1)
    (fun y => gs.length - y.1) (0, [], s, a1, a2, .nils, R1) _ ⟨rfl, hac0, h20, Nat.zero_le _, by simp, by simp, by simp, rfl⟩ (by simp -dsimp only [go_sem, gS]) (leH_hp (by simp only [hpS, eq_self, implies_true, f3, h3, f20, h20]) (by simp only [hpS, eq_self, implies_true, f3, h3, f20, h20])) ?_
   clear hb3 hacc1 hacc0 hac0
   rintro ⟨j, ot, s5, c1, c2, av, R4⟩ G' ⟨hG, hac, h20, hj, hrun, hnx, hnn, hout⟩
   simp only at hG hac h20 hj hrun hnx hnn hout
   subst hG
   have hgn := Gl.nodess_length gs
   simp -dsimp only [go_sem, gS]
   refine gif_split (fun q1 => ?_) (fun q1 => ?_)
   ·have q1' : j < gs.length := by have := of_decide_eq_true q1; omega
    obtain ⟨⟨gk, ⟨g1, m1, j1, y1⟩, ⟨g2, m2, j2, y2⟩, gn, gxs, ggs⟩, hx⟩ := list_at q1'
    have hwj := wrapN (k := j) (by omega)
    have hgm := Gl.nodess_mem (List.mem_of_getElem? hx)
    rw [drop_at hx] at hrun hnx hnn
    simp only [nwholes, Gl.nodess] at hrun hnx hnn
    simp -dsimp only [go_sem, gS, q1, hx, Gl.d, Gl.cs, Tm.cs, List.cons_append, List.nil_append, f20, h20]
    refine newK_hp (fun b22 f22 => ?_)
    simp only [off_cons, off_nil] at f22
    simp -dsimp only [go_sem, gS, f20, h20, f22]
    obtain ⟨HH, RR, eq, hs5, back⟩ := accN_sub (r := r) (qs := cps s5 c1 c2) (ps := [pcF ot av, pcF [] a0]) (o := cvar s5 c1 c2) (l := [(b20, .var [.d (.int .i64 8), .d (.int .i64 0), .d (.int .i64 0), .d (.int .i64 0), .d (.str ⟨#[]⟩), .d (.int .i64 0), .d (.str ⟨#[]⟩), .d (.int .i64 0), .nils, av]), (b22, .var [.d (.int .i64 gk), .d (.int .i64 g1), .d (.str m1), .d (.int .i64 j1), .d (.slice (Tm.ds y1)), .d (.int .i64 g2), .d (.str m2), .d (.int .i64 j2), .d (.slice (Tm.ds y2)), .d (.str gn), .d (.slice (gxs.map Tm.d)), .d (.slice (Gl.ds ggs))])]) hac (by simp only [hpS, eq_self, implies_true, f20, h20, f22]) (by simp only [hpS, eq_self, implies_true, ]) (by simp only [hpS, eq_self, implies_true, f20, f22])
    rw [eq]
    have hz := ngoal_size (.mk gk (.mk g1 m1 j1 y1) (.mk g2 m2 j2 y2) gn gxs ggs) s5
    have hy := ngoal_names (.mk gk (.mk g1 m1 j1 y1) (.mk g2 m2 j2 y2) gn gxs ggs) s5
    refine goal05_ok m (.mk gk (.mk g1 m1 j1 y1) (.mk g2 m2 j2 y2) gn gxs ggs) (by omega) (Gl.smalls_mem hsg _ (List.mem_of_getElem? hx)) HH RR r s5 c1 c2 hs5 (by omega) (by omega) _ (fun ar d1 d2 RA hac2 => ?_)
    generalize (ngoal (.mk gk (.mk g1 m1 j1 y1) (.mk g2 m2 j2 y2) gn gxs ggs) s5).1 = rw1 at hrun hac2 hz ⊢
    generalize (ngoal (.mk gk (.mk g1 m1 j1 y1) (.mk g2 m2 j2 y2) gn gxs ggs) s5).2 = s6 at hrun hac2 hz hy ⊢
    obtain ⟨RB, hbc, ebb, hnb⟩ := back _ _ hac2
    rw [ebb]
    have k20 := hnb b20 (by simp only [hpS, eq_self, implies_true, f20]) h20
    have k22 := hnb b22 (by simp only [hpS, eq_self, implies_true, f22]) f22.2.2.2.2
    have hok : okK [r] RB [(r, cvar s6 d1 d2), (b20, .var [.d (.int .i64 8), .d (.int .i64 0), .d (.int .i64 0), .d (.int .i64 0), .d (.str ⟨#[]⟩), .d (.int .i64 0), .d (.str ⟨#[]⟩), .d (.int .i64 0), .nils, av]), (b22, .var [.d (.int .i64 gk), .d (.int .i64 g1), .d (.str m1), .d (.int .i64 j1), .d (.slice (Tm.ds y1)), .d (.int .i64 g2), .d (.str m2), .d (.int .i64 j2), .d (.slice (Tm.ds y2)), .d (.str gn), .d (.slice (gxs.map Tm.d)), .d (.slice (Gl.ds ggs))])] := by simp only [hpS, eq_self, implies_true, f20, f22, k20, k22]
    simp -dsimp only [go_sem, gS, f20, f22, k20, k22]
    refine ACall.frz [true] ?_
    simp only [frzM]
    refine AccN.deep (pre := []) (p := pcF rw1 ar) (post := cps s6 d1 d2 ++ [pcF ot av, pcF [] a0]) hbc hok (fun R5 hac3 hn3 => ?_)
    have m20 := hn3 b20 k20
    have m22 := hn3 b22 k22
    refine whole05_ok rw1 (by omega) _ _ ?_
    generalize hnw : nwhole rw1 = w at hrun ⊢
    obtain ⟨wk, wx, wy, wi, ⟨wcn, wca⟩, ⟨wpn, wpa⟩, wxs, wgs⟩ := w
    simp -dsimp only [go_sem, gS, f20, f22, m20, m22, Fl.d, Fl.cs]
    refine newV_hp (fun b207 v207 f207 w207 => ?_)
    simp only [off_cons, off_nil] at f207
    simp -dsimp only [go_sem, gS, f20, f22, m20, m22, f207]
    refine AccN.appTo (pre := cps s6 d1 d2) (p := pcF ot av) (post := [pcF [] a0]) (ns := [(Fl.mk wk wx wy wi ⟨wcn, wca⟩ ⟨wpn, wpa⟩ wxs wgs).d]) hac3 (by simp only [hpS, eq_self, implies_true, f20, f22, m20, m22, f207]) (by simp only [hpS, eq_self, implies_true, ]) (by simp only [List.length_map, List.length_cons, List.length_nil]; omega) (fun av' R6 hac4 hn4 => ?_)
    have o20 := hn4 b20 (by simp only [hpS, eq_self, implies_true, f20]) m20
    have o22 := hn4 b22 (by simp only [hpS, eq_self, implies_true, f22]) m22
    have o207 := hn4 b207 (by simp only [hpS, eq_self, implies_true, f207]) f207.2.2.2.2.2.2
    have oa := AccN.one (pre := cps s6 d1 d2) hac4
    simp only at oa
    simp -dsimp only [go_sem, gS, f20, f22, f207, o20, o22, o207, oa, List.length_cons, List.length_nil, hwj]
    have hac5 : AccN H0 [r] (cps s6 d1 d2 ++ [pcF (ot ++ [Fl.mk wk wx wy wi ⟨wcn, wca⟩ ⟨wpn, wpa⟩ wxs wgs]) av', pcF [] a0]) R6 := by
     simp only [pcF, List.map_append, List.map_cons, List.map_nil]; exact hac4
    refine roundQ_next (j + 1, ot ++ [Fl.mk wk wx wy wi ⟨wcn, wca⟩ ⟨wpn, wpa⟩ wxs wgs], s6, d1, d2, av', R6) _ ⟨rfl, hac5, o20, q1', by rw [← hrun]; simp, by simp only; omega, by simp only; omega, by simp [hout]⟩ (by simp only; omega) (by simp -dsimp only [go_sem, gS]) (leH_hp (by simp only [hpS, eq_self, implies_true, f20, f22, f207, o20, o22, o207]) (by simp only [hpS, eq_self, implies_true, f20, f22, f207, o20, o22, o207]))
   ·rw [drop_end (by have := of_decide_eq_false q1; omega)] at hrun
    simp only [nwholes, List.append_nil] at hrun
    rw [← hrun] at hK
    simp only at hK
    have hal := AccN.allD (pre := cps s5 c1 c2) (t := []) hac
    simp only at hal
    simp -dsimp only [go_sem, gS, q1, f20, h20, hal]
    refine AccN.deep (pre := cps s5 c1 c2) (p := pcF ot av) (post := [pcF [] a0]) hac (by simp only [hpS, eq_self, implies_true, f20, h20]) (fun R5 hac3 hn3 => ?_)
    have k20 := hn3 b20 h20
    simp -dsimp only [go_sem, gS, f20, k20]
    refine newV_hp (fun b213 v213 f213 w213 => ?_)
    simp only [off_cons, off_nil] at f213
    simp -dsimp only [go_sem, gS, f20, k20, f213]
    have hd := fRow_d 8 0 ot
    rw [← hd]
    refine AccN.appTo (pre := cps s5 c1 c2) (p := pcF [] a0) (post := []) (ns := [(fRow 8 0 ot).d]) hac3 (by simp only [hpS, eq_self, implies_true, f20, k20, f213]) (by simp only [hpS, eq_self, implies_true, ]) (by simp only [List.length_map, List.length_cons, List.length_nil]; omega) (fun a4 R8 hac4 hn4 => ?_)
    have m20 := hn4 b20 (by simp only [hpS, eq_self, implies_true, f20]) k20
    have m213 := hn4 b213 (by simp only [hpS, eq_self, implies_true, f213]) f213.2.2.2.2
    simp -dsimp only [go_sem, gS, f20, f213, m20, m213]
    refine retW_drop (G := hp R8 [(r, cvar s5 c1 c2)]) (leH_hp (by simp only [hpS, eq_self, implies_true, f20, f213, m20, m213]) (by simp only [hpS, eq_self, implies_true, f20, f213, m20, m213])) (retW_is (hK a4 c1 c2 R8 ?_))
    exact AccN.rot (ys := [pcF [fRow 8 0 ot] a4]) hac4
  simp -dsimp only [go_sem, gS, g6, f3, h3]
  refine gif_split (fun g7 => ?_) (fun g7 => ?_)
  ·have e : k = 7 := of_decide_eq_true g7
   have hg : ngoal (.mk k (.mk k1 n1 i1 xs1) (.mk k2 n2 i2 xs2) n xs gs) s = ([fRow 9 0 (nwholes gs s).1], (nwholes gs s).2) := by rw [e]; simp [ngoal]
   rw [hg] at hK
   simp -dsimp only [go_sem, gS, g7, f3, h3]
   have e7 : decide (k = 7) = true := by rw [e]; rfl
   have e9 : decide (k = 9) = false := by rw [e]; rfl
   refine newK_hp (fun b20 f20 => ?_)
   simp only [off_cons, off_nil] at f20
   simp -dsimp only [go_sem, gS, f3, h3, f20, e7, e9]
   have h20 := f20.2.2.2.2
   have hac0 : AccN H0 [r] (cps s a1 a2 ++ [pcF [] .nils, pcF [] a0]) R1 := AccN.rot (xs := [pcF [] .nils, pcF [] a0]) ((AccN.rot (ys := [pcF [] a0]) hacc0).nil _ _)
   refine svc_loop (X := Nat × List Fl × NS × A × A × A × Heap) (fun y => [(0, .ref r 0), (5, a0), (20, .ref b20 0), (195, .d (.slice (gs.map Gl.d))), (196, .d (.int .i64 gs.length)), (197, .d (.int .i64 y.1))])
    (fun y G => G = hp y.2.2.2.2.2.2 [(r, cvar y.2.2.1 y.2.2.2.1 y.2.2.2.2.1), (b20, .var [.d (.int .i64 9), .d (.int .i64 0), .d (.int .i64 0), .d (.int .i64 0), .d (.str ⟨#[]⟩), .d (.int .i64 0), .d (.str ⟨#[]⟩), .d (.int .i64 0), .nils, y.2.2.2.2.2.1])] ∧ AccN H0 [r] (cps y.2.2.1 y.2.2.2.1 y.2.2.2.2.1 ++ [pcF y.2.1 y.2.2.2.2.2.1, pcF [] a0]) y.2.2.2.2.2.2 ∧ y.2.2.2.2.2.2 b20 = none ∧ y.1 ≤ gs.length ∧ (y.2.1 ++ (nwholes (gs.drop y.1) y.2.2.1).1, (nwholes (gs.drop y.1) y.2.2.1).2) = nwholes gs s ∧ y.2.2.1.next + Gl.nodess (gs.drop y.1) ≤ s.next + Gl.nodess gs ∧ y.2.2.1.names.length + Gl.nodess (gs.drop y.1) ≤ s.names.length + Gl.nodess gs ∧ y.2.1.length = y.1)
    (fun y => gs.length - y.1) (0, [], s, a1, a2, .nils, R1) _ ⟨rfl, hac0, h20, Nat.zero_le _, by simp, by simp, by simp, rfl⟩ (by simp -dsimp only [go_sem, gS]) (leH_hp (by simp only [hpS, eq_self, implies_true, f3, h3, f20, h20]) (by simp only [hpS, eq_self, implies_true, f3, h3, f20, h20])) ?_
   clear hb3 hacc1 hacc0 hac0
   rintro ⟨j, ot, s5, c1, c2, av, R4⟩ G' ⟨hG, hac, h20, hj, hrun, hnx, hnn, hout⟩
   simp only at hG hac h20 hj hrun hnx hnn hout
   subst hG
   have hgn := Gl.nodess_length gs
   simp -dsimp only [go_sem, gS]
   refine gif_split (fun q1 => ?_) (fun q1 => ?_)
   ·have q1' : j < gs.length := by have := of_decide_eq_true q1; omega
    obtain ⟨⟨gk, ⟨g1, m1, j1, y1⟩, ⟨g2, m2, j2, y2⟩, gn, gxs, ggs⟩, hx⟩ := list_at q1'
    have hwj := wrapN (k := j) (by omega)
    have hgm := Gl.nodess_mem (List.mem_of_getElem? hx)
    rw [drop_at hx] at hrun hnx hnn
    simp only [nwholes, Gl.nodess] at hrun hnx hnn
    simp -dsimp only [go_sem, gS, q1, hx, Gl.d, Gl.cs, Tm.cs, List.cons_append, List.nil_append, f20, h20]
    refine newK_hp (fun b22 f22 => ?_)
    simp only [off_cons, off_nil] at f22
    simp -dsimp only [go_sem, gS, f20, h20, f22]
    obtain ⟨HH, RR, eq, hs5, back⟩ := accN_sub (r := r) (qs := cps s5 c1 c2) (ps := [pcF ot av, pcF [] a0]) (o := cvar s5 c1 c2) (l := [(b20, .var [.d (.int .i64 9), .d (.int .i64 0), .d (.int .i64 0), .d (.int .i64 0), .d (.str ⟨#[]⟩), .d (.int .i64 0), .d (.str ⟨#[]⟩), .d (.int .i64 0), .nils, av]), (b22, .var [.d (.int .i64 gk), .d (.int .i64 g1), .d (.str m1), .d (.int .i64 j1), .d (.slice (Tm.ds y1)), .d (.int .i64 g2), .d (.str m2), .d (.int .i64 j2), .d (.slice (Tm.ds y2)), .d (.str gn), .d (.slice (gxs.map Tm.d)), .d (.slice (Gl.ds ggs))])]) hac (by simp only [hpS, eq_self, implies_true, f20, h20, f22]) (by simp only [hpS, eq_self, implies_true, ]) (by simp only [hpS, eq_self, implies_true, f20, f22])
    rw [eq]
    have hz := ngoal_size (.mk gk (.mk g1 m1 j1 y1) (.mk g2 m2 j2 y2) gn gxs ggs) s5
    have hy := ngoal_names (.mk gk (.mk g1 m1 j1 y1) (.mk g2 m2 j2 y2) gn gxs ggs) s5
    refine goal05_ok m (.mk gk (.mk g1 m1 j1 y1) (.mk g2 m2 j2 y2) gn gxs ggs) (by omega) (Gl.smalls_mem hsg _ (List.mem_of_getElem? hx)) HH RR r s5 c1 c2 hs5 (by omega) (by omega) _ (fun ar d1 d2 RA hac2 => ?_)
    generalize (ngoal (.mk gk (.mk g1 m1 j1 y1) (.mk g2 m2 j2 y2) gn gxs ggs) s5).1 = rw1 at hrun hac2 hz ⊢
    generalize (ngoal (.mk gk (.mk g1 m1 j1 y1) (.mk g2 m2 j2 y2) gn gxs ggs) s5).2 = s6 at hrun hac2 hz hy ⊢
    obtain ⟨RB, hbc, ebb, hnb⟩ := back _ _ hac2
    rw [ebb]
    have k20 := hnb b20 (by simp only [hpS, eq_self, implies_true, f20]) h20
    have k22 := hnb b22 (by simp only [hpS, eq_self, implies_true, f22]) f22.2.2.2.2
    have hok : okK [r] RB [(r, cvar s6 d1 d2), (b20, .var [.d (.int .i64 9), .d (.int .i64 0), .d (.int .i64 0), .d (.int .i64 0), .d (.str ⟨#[]⟩), .d (.int .i64 0), .d (.str ⟨#[]⟩), .d (.int .i64 0), .nils, av]), (b22, .var [.d (.int .i64 gk), .d (.int .i64 g1), .d (.str m1), .d (.int .i64 j1), .d (.slice (Tm.ds y1)), .d (.int .i64 g2), .d (.str m2), .d (.int .i64 j2), .d (.slice (Tm.ds y2)), .d (.str gn), .d (.slice (gxs.map Tm.d)), .d (.slice (Gl.ds ggs))])] := by simp only [hpS, eq_self, implies_true, f20, f22, k20, k22]
    simp -dsimp only [go_sem, gS, f20, f22, k20, k22]
    refine ACall.frz [true] ?_
    simp only [frzM]
    refine AccN.deep (pre := []) (p := pcF rw1 ar) (post := cps s6 d1 d2 ++ [pcF ot av, pcF [] a0]) hbc hok (fun R5 hac3 hn3 => ?_)
    have m20 := hn3 b20 k20
    have m22 := hn3 b22 k22
    refine whole05_ok rw1 (by omega) _ _ ?_
    generalize hnw : nwhole rw1 = w at hrun ⊢
    obtain ⟨wk, wx, wy, wi, ⟨wcn, wca⟩, ⟨wpn, wpa⟩, wxs, wgs⟩ := w
    simp -dsimp only [go_sem, gS, f20, f22, m20, m22, Fl.d, Fl.cs]
    refine newV_hp (fun b207 v207 f207 w207 => ?_)
    simp only [off_cons, off_nil] at f207
    simp -dsimp only [go_sem, gS, f20, f22, m20, m22, f207]
    refine AccN.appTo (pre := cps s6 d1 d2) (p := pcF ot av) (post := [pcF [] a0]) (ns := [(Fl.mk wk wx wy wi ⟨wcn, wca⟩ ⟨wpn, wpa⟩ wxs wgs).d]) hac3 (by simp only [hpS, eq_self, implies_true, f20, f22, m20, m22, f207]) (by simp only [hpS, eq_self, implies_true, ]) (by simp only [List.length_map, List.length_cons, List.length_nil]; omega) (fun av' R6 hac4 hn4 => ?_)
    have o20 := hn4 b20 (by simp only [hpS, eq_self, implies_true, f20]) m20
    have o22 := hn4 b22 (by simp only [hpS, eq_self, implies_true, f22]) m22
    have o207 := hn4 b207 (by simp only [hpS, eq_self, implies_true, f207]) f207.2.2.2.2.2.2
    have oa := AccN.one (pre := cps s6 d1 d2) hac4
    simp only at oa
    simp -dsimp only [go_sem, gS, f20, f22, f207, o20, o22, o207, oa, List.length_cons, List.length_nil, hwj]
    have hac5 : AccN H0 [r] (cps s6 d1 d2 ++ [pcF (ot ++ [Fl.mk wk wx wy wi ⟨wcn, wca⟩ ⟨wpn, wpa⟩ wxs wgs]) av', pcF [] a0]) R6 := by
     simp only [pcF, List.map_append, List.map_cons, List.map_nil]; exact hac4
    refine roundQ_next (j + 1, ot ++ [Fl.mk wk wx wy wi ⟨wcn, wca⟩ ⟨wpn, wpa⟩ wxs wgs], s6, d1, d2, av', R6) _ ⟨rfl, hac5, o20, q1', by rw [← hrun]; simp, by simp only; omega, by simp only; omega, by simp [hout]⟩ (by simp only; omega) (by simp -dsimp only [go_sem, gS]) (leH_hp (by simp only [hpS, eq_self, implies_true, f20, f22, f207, o20, o22, o207]) (by simp only [hpS, eq_self, implies_true, f20, f22, f207, o20, o22, o207]))
   ·rw [drop_end (by have := of_decide_eq_false q1; omega)] at hrun
    simp only [nwholes, List.append_nil] at hrun
    rw [← hrun] at hK
    simp only at hK
    have hal := AccN.allD (pre := cps s5 c1 c2) (t := []) hac
    simp only at hal
    simp -dsimp only [go_sem, gS, q1, f20, h20, hal]
    refine AccN.deep (pre := cps s5 c1 c2) (p := pcF ot av) (post := [pcF [] a0]) hac (by simp only [hpS, eq_self, implies_true, f20, h20]) (fun R5 hac3 hn3 => ?_)
    have k20 := hn3 b20 h20
    simp -dsimp only [go_sem, gS, f20, k20]
    refine newV_hp (fun b213 v213 f213 w213 => ?_)
    simp only [off_cons, off_nil] at f213
    simp -dsimp only [go_sem, gS, f20, k20, f213]
    have hd := fRow_d 9 0 ot
    rw [← hd]
    refine AccN.appTo (pre := cps s5 c1 c2) (p := pcF [] a0) (post := []) (ns := [(fRow 9 0 ot).d]) hac3 (by simp only [hpS, eq_self, implies_true, f20, k20, f213]) (by simp only [hpS, eq_self, implies_true, ]) (by simp only [List.length_map, List.length_cons, List.length_nil]; omega) (fun a4 R8 hac4 hn4 => ?_)
    have m20 := hn4 b20 (by simp only [hpS, eq_self, implies_true, f20]) k20
    have m213 := hn4 b213 (by simp only [hpS, eq_self, implies_true, f213]) f213.2.2.2.2
    simp -dsimp only [go_sem, gS, f20, f213, m20, m213]
    refine retW_drop (G := hp R8 [(r, cvar s5 c1 c2)]) (leH_hp (by simp only [hpS, eq_self, implies_true, f20, f213, m20, m213]) (by simp only [hpS, eq_self, implies_true, f20, f213, m20, m213])) (retW_is (hK a4 c1 c2 R8 ?_))
    exact AccN.rot (ys := [pcF [fRow 9 0 ot] a4]) hac4
  simp -dsimp only [go_sem, gS, g7, f3, h3]
  refine gif_split (fun g8 => ?_) (fun g8 => ?_)
  ·have e : k = 9 := of_decide_eq_true g8
   have hg : ngoal (.mk k (.mk k1 n1 i1 xs1) (.mk k2 n2 i2 xs2) n xs gs) s = ([fRow 11 (nnumber n s).1 (nwholes gs (nnumber n s).2).1], (nwholes gs (nnumber n s).2).2) := by rw [e]; simp [ngoal]
   rw [hg] at hK
   have e7 : decide (k = 7) = false := by rw [e]; rfl
   have e9 : decide (k = 9) = true := by rw [e]; rfl
   simp -dsimp only [go_sem, gS, g8, f3, h3]
   refine newK_hp (fun b20 f20 => ?_)
   simp only [off_cons, off_nil] at f20
   simp -dsimp only [go_sem, gS, f3, h3, f20, e7, e9]
   obtain ⟨HH1, RR1, eq1, hs1, back1⟩ := accN_sub (r := r) (qs := cps s a1 a2) (ps := [pcF [] a0]) (o := cvar s a1 a2) (l := [(b3, .var [.d (.int .i64 k), .d (.int .i64 k1), .d (.str n1), .d (.int .i64 i1), .d (.slice (Tm.ds xs1)), .d (.int .i64 k2), .d (.str n2), .d (.int .i64 i2), .d (.slice (Tm.ds xs2)), .d (.str n), .d (.slice (xs.map Tm.d)), .d (.slice (gs.map Gl.d))]), (b20, .var [.d (.int .i64 11), .d (.int .i64 0), .d (.int .i64 0), .d (.int .i64 0), .d (.str ⟨#[]⟩), .d (.int .i64 0), .d (.str ⟨#[]⟩), .d (.int .i64 0), .nils, .nils])]) hacc0 (by simp only [hpS, eq_self, implies_true, f3, h3, f20]) (by simp only [hpS, eq_self, implies_true, ]) (by simp only [hpS, eq_self, implies_true, f3, h3, f20])
   rw [eq1]
   refine number05_ok ⟨hs1, by omega, by omega⟩ n _ (fun c1 c2 RA1 hac1 => ?_)
   have nn1 := nnumber_names n s
   have nx1 := nnumber_next n s
   have q1 : nnumber n s = ((nnumber n s).1, (nnumber n s).2) := rfl
   generalize (nnumber n s).1 = v1 at q1 hac1 ⊢
   generalize (nnumber n s).2 = s1 at q1 hac1 nn1 nx1 ⊢
   obtain ⟨RB1, hbc1, eb1, hn1⟩ := back1 _ _ hac1
   rw [eb1]
   have b31 := hn1 b3 (by simp only [hpS, eq_self, implies_true, f3]) h3
   have h20 := hn1 b20 (by simp only [hpS, eq_self, implies_true, f20]) f20.2.2.2.2
   simp -dsimp only [go_sem, gS, f3, b31, f20, h20]
   rw [q1] at hK
   simp only at hK
   have hac0 : AccN H0 [r] (cps s1 c1 c2 ++ [pcF [] .nils, pcF [] a0]) RB1 := AccN.rot (xs := [pcF [] .nils, pcF [] a0]) ((AccN.rot (ys := [pcF [] a0]) (show AccN H0 [r] (cps s1 c1 c2 ++ [pcF [] a0]) RB1 from hbc1)).nil _ _)
   refine svc_loop (X := Nat × List Fl × NS × A × A × A × Heap) (fun y => [(0, .ref r 0), (5, a0), (20, .ref b20 0), (195, .d (.slice (gs.map Gl.d))), (196, .d (.int .i64 gs.length)), (197, .d (.int .i64 y.1))])
    (fun y G => G = hp y.2.2.2.2.2.2 [(r, cvar y.2.2.1 y.2.2.2.1 y.2.2.2.2.1), (b20, .var [.d (.int .i64 11), .d (.int .i64 v1), .d (.int .i64 0), .d (.int .i64 0), .d (.str ⟨#[]⟩), .d (.int .i64 0), .d (.str ⟨#[]⟩), .d (.int .i64 0), .nils, y.2.2.2.2.2.1])] ∧ AccN H0 [r] (cps y.2.2.1 y.2.2.2.1 y.2.2.2.2.1 ++ [pcF y.2.1 y.2.2.2.2.2.1, pcF [] a0]) y.2.2.2.2.2.2 ∧ y.2.2.2.2.2.2 b20 = none ∧ y.1 ≤ gs.length ∧ (y.2.1 ++ (nwholes (gs.drop y.1) y.2.2.1).1, (nwholes (gs.drop y.1) y.2.2.1).2) = nwholes gs s1 ∧ y.2.2.1.next + Gl.nodess (gs.drop y.1) ≤ s1.next + Gl.nodess gs ∧ y.2.2.1.names.length + Gl.nodess (gs.drop y.1) ≤ s1.names.length + Gl.nodess gs ∧ y.2.1.length = y.1)
    (fun y => gs.length - y.1) (0, [], s1, c1, c2, .nils, RB1) _ ⟨rfl, hac0, h20, Nat.zero_le _, by simp, by simp, by simp, rfl⟩ (by simp -dsimp only [go_sem, gS]) (leH_hp (by simp only [hpS, eq_self, implies_true, f3, b31, f20, h20]) (by simp only [hpS, eq_self, implies_true, f3, b31, f20, h20])) ?_
   clear hb3 hacc1 hacc0 hac0
   rintro ⟨j, ot, s5, c1, c2, av, R4⟩ G' ⟨hG, hac, h20, hj, hrun, hnx, hnn, hout⟩
   simp only at hG hac h20 hj hrun hnx hnn hout
   subst hG
   have hgn := Gl.nodess_length gs
   simp -dsimp only [go_sem, gS]
   refine gif_split (fun q1 => ?_) (fun q1 => ?_)
   ·have q1' : j < gs.length := by have := of_decide_eq_true q1; omega
    obtain ⟨⟨gk, ⟨g1, m1, j1, y1⟩, ⟨g2, m2, j2, y2⟩, gn, gxs, ggs⟩, hx⟩ := list_at q1'
    have hwj := wrapN (k := j) (by omega)
    have hgm := Gl.nodess_mem (List.mem_of_getElem? hx)
    rw [drop_at hx] at hrun hnx hnn
    simp only [nwholes, Gl.nodess] at hrun hnx hnn
    simp -dsimp only [go_sem, gS, q1, hx, Gl.d, Gl.cs, Tm.cs, List.cons_append, List.nil_append, f20, h20]
    refine newK_hp (fun b22 f22 => ?_)
    simp only [off_cons, off_nil] at f22
    simp -dsimp only [go_sem, gS, f20, h20, f22]
    obtain ⟨HH, RR, eq, hs5, back⟩ := accN_sub (r := r) (qs := cps s5 c1 c2) (ps := [pcF ot av, pcF [] a0]) (o := cvar s5 c1 c2) (l := [(b20, .var [.d (.int .i64 11), .d (.int .i64 v1), .d (.int .i64 0), .d (.int .i64 0), .d (.str ⟨#[]⟩), .d (.int .i64 0), .d (.str ⟨#[]⟩), .d (.int .i64 0), .nils, av]), (b22, .var [.d (.int .i64 gk), .d (.int .i64 g1), .d (.str m1), .d (.int .i64 j1), .d (.slice (Tm.ds y1)), .d (.int .i64 g2), .d (.str m2), .d (.int .i64 j2), .d (.slice (Tm.ds y2)), .d (.str gn), .d (.slice (gxs.map Tm.d)), .d (.slice (Gl.ds ggs))])]) hac (by simp only [hpS, eq_self, implies_true, f20, h20, f22]) (by simp only [hpS, eq_self, implies_true, ]) (by simp only [hpS, eq_self, implies_true, f20, f22])
    rw [eq]
    have hz := ngoal_size (.mk gk (.mk g1 m1 j1 y1) (.mk g2 m2 j2 y2) gn gxs ggs) s5
    have hy := ngoal_names (.mk gk (.mk g1 m1 j1 y1) (.mk g2 m2 j2 y2) gn gxs ggs) s5
    refine goal05_ok m (.mk gk (.mk g1 m1 j1 y1) (.mk g2 m2 j2 y2) gn gxs ggs) (by omega) (Gl.smalls_mem hsg _ (List.mem_of_getElem? hx)) HH RR r s5 c1 c2 hs5 (by omega) (by omega) _ (fun ar d1 d2 RA hac2 => ?_)
    generalize (ngoal (.mk gk (.mk g1 m1 j1 y1) (.mk g2 m2 j2 y2) gn gxs ggs) s5).1 = rw1 at hrun hac2 hz ⊢
    generalize (ngoal (.mk gk (.mk g1 m1 j1 y1) (.mk g2 m2 j2 y2) gn gxs ggs) s5).2 = s6 at hrun hac2 hz hy ⊢
    obtain ⟨RB, hbc, ebb, hnb⟩ := back _ _ hac2
    rw [ebb]
    have k20 := hnb b20 (by simp only [hpS, eq_self, implies_true, f20]) h20
    have k22 := hnb b22 (by simp only [hpS, eq_self, implies_true, f22]) f22.2.2.2.2
    have hok : okK [r] RB [(r, cvar s6 d1 d2), (b20, .var [.d (.int .i64 11), .d (.int .i64 v1), .d (.int .i64 0), .d (.int .i64 0), .d (.str ⟨#[]⟩), .d (.int .i64 0), .d (.str ⟨#[]⟩), .d (.int .i64 0), .nils, av]), (b22, .var [.d (.int .i64 gk), .d (.int .i64 g1), .d (.str m1), .d (.int .i64 j1), .d (.slice (Tm.ds y1)), .d (.int .i64 g2), .d (.str m2), .d (.int .i64 j2), .d (.slice (Tm.ds y2)), .d (.str gn), .d (.slice (gxs.map Tm.d)), .d (.slice (Gl.ds ggs))])] := by simp only [hpS, eq_self, implies_true, f20, f22, k20, k22]
    simp -dsimp only [go_sem, gS, f20, f22, k20, k22]
    refine ACall.frz [true] ?_
    simp only [frzM]
    refine AccN.deep (pre := []) (p := pcF rw1 ar) (post := cps s6 d1 d2 ++ [pcF ot av, pcF [] a0]) hbc hok (fun R5 hac3 hn3 => ?_)
    have m20 := hn3 b20 k20
    have m22 := hn3 b22 k22
    refine whole05_ok rw1 (by omega) _ _ ?_
    generalize hnw : nwhole rw1 = w at hrun ⊢
    obtain ⟨wk, wx, wy, wi, ⟨wcn, wca⟩, ⟨wpn, wpa⟩, wxs, wgs⟩ := w
    simp -dsimp only [go_sem, gS, f20, f22, m20, m22, Fl.d, Fl.cs]
    refine newV_hp (fun b207 v207 f207 w207 => ?_)
    simp only [off_cons, off_nil] at f207
    simp -dsimp only [go_sem, gS, f20, f22, m20, m22, f207]
    refine AccN.appTo (pre := cps s6 d1 d2) (p := pcF ot av) (post := [pcF [] a0]) (ns := [(Fl.mk wk wx wy wi ⟨wcn, wca⟩ ⟨wpn, wpa⟩ wxs wgs).d]) hac3 (by simp only [hpS, eq_self, implies_true, f20, f22, m20, m22, f207]) (by simp only [hpS, eq_self, implies_true, ]) (by simp only [List.length_map, List.length_cons, List.length_nil]; omega) (fun av' R6 hac4 hn4 => ?_)
    have o20 := hn4 b20 (by simp only [hpS, eq_self, implies_true, f20]) m20
    have o22 := hn4 b22 (by simp only [hpS, eq_self, implies_true, f22]) m22
    have o207 := hn4 b207 (by simp only [hpS, eq_self, implies_true, f207]) f207.2.2.2.2.2.2
    have oa := AccN.one (pre := cps s6 d1 d2) hac4
    simp only at oa
    simp -dsimp only [go_sem, gS, f20, f22, f207, o20, o22, o207, oa, List.length_cons, List.length_nil, hwj]
    have hac5 : AccN H0 [r] (cps s6 d1 d2 ++ [pcF (ot ++ [Fl.mk wk wx wy wi ⟨wcn, wca⟩ ⟨wpn, wpa⟩ wxs wgs]) av', pcF [] a0]) R6 := by
     simp only [pcF, List.map_append, List.map_cons, List.map_nil]; exact hac4
    refine roundQ_next (j + 1, ot ++ [Fl.mk wk wx wy wi ⟨wcn, wca⟩ ⟨wpn, wpa⟩ wxs wgs], s6, d1, d2, av', R6) _ ⟨rfl, hac5, o20, q1', by rw [← hrun]; simp, by simp only; omega, by simp only; omega, by simp [hout]⟩ (by simp only; omega) (by simp -dsimp only [go_sem, gS]) (leH_hp (by simp only [hpS, eq_self, implies_true, f20, f22, f207, o20, o22, o207]) (by simp only [hpS, eq_self, implies_true, f20, f22, f207, o20, o22, o207]))
   ·rw [drop_end (by have := of_decide_eq_false q1; omega)] at hrun
    simp only [nwholes, List.append_nil] at hrun
    rw [← hrun] at hK
    simp only at hK
    have hal := AccN.allD (pre := cps s5 c1 c2) (t := []) hac
    simp only at hal
    simp -dsimp only [go_sem, gS, q1, f20, h20, hal]
    refine AccN.deep (pre := cps s5 c1 c2) (p := pcF ot av) (post := [pcF [] a0]) hac (by simp only [hpS, eq_self, implies_true, f20, h20]) (fun R5 hac3 hn3 => ?_)
    have k20 := hn3 b20 h20
    simp -dsimp only [go_sem, gS, f20, k20]
    refine newV_hp (fun b213 v213 f213 w213 => ?_)
    simp only [off_cons, off_nil] at f213
    simp -dsimp only [go_sem, gS, f20, k20, f213]
    have hd := fRow_d 11 v1 ot
    rw [← hd]
    refine AccN.appTo (pre := cps s5 c1 c2) (p := pcF [] a0) (post := []) (ns := [(fRow 11 v1 ot).d]) hac3 (by simp only [hpS, eq_self, implies_true, f20, k20, f213]) (by simp only [hpS, eq_self, implies_true, ]) (by simp only [List.length_map, List.length_cons, List.length_nil]; omega) (fun a4 R8 hac4 hn4 => ?_)
    have m20 := hn4 b20 (by simp only [hpS, eq_self, implies_true, f20]) k20
    have m213 := hn4 b213 (by simp only [hpS, eq_self, implies_true, f213]) f213.2.2.2.2
    simp -dsimp only [go_sem, gS, f20, f213, m20, m213]
    refine retW_drop (G := hp R8 [(r, cvar s5 c1 c2)]) (leH_hp (by simp only [hpS, eq_self, implies_true, f20, f213, m20, m213]) (by simp only [hpS, eq_self, implies_true, f20, f213, m20, m213])) (retW_is (hK a4 c1 c2 R8 ?_))
    exact AccN.rot (ys := [pcF [fRow 11 v1 ot] a4]) hac4
  ·have e2 : k ≠ 2 := of_decide_eq_false g1
   have hg : ngoal (.mk k (.mk k1 n1 i1 xs1) (.mk k2 n2 i2 xs2) n xs gs) s = ([], s) := by
    simp only [ngoal]
    rw [if_neg (of_decide_eq_false g1), if_neg (of_decide_eq_false g2), if_neg (of_decide_eq_false g3), if_neg (of_decide_eq_false g4), if_neg (of_decide_eq_false g5), if_neg (of_decide_eq_false g6), if_neg (of_decide_eq_false g7), if_neg (of_decide_eq_false g8)]
   rw [hg] at hK
   simp -dsimp only [go_sem, gS, g8, f3, h3]
   refine retW_drop (G := hp R1 [(r, cvar s a1 a2)]) (leH_hp (by simp only [hpS, eq_self, implies_true, f3, h3]) (by simp only [hpS, eq_self, implies_true, f3, h3])) (retW_is (hK a0 a1 a2 R1 ?_))
   exact AccN.rot (ys := [pcF [] a0]) hacc0
   
end Go.Aug

/- The reference's flat goals: Flatten. -/
namespace Go.Aug
open Go.Proofs
set_option maxRecDepth 100000
set_option linter.unusedSimpArgs false
attribute [local irreducible] hid andK letA onSome onVar onArr arrOnly onInt onBool onTup idxA ldV ldD addO appTo fillL slA srcK nilQ retW gif sgd sguard svc sops sdops sagain aopO aLoad aStore aBin aUn aConv aLen aIndexAddr aIndex aIndexAddrS aIndexS aSlice aAppend aBuild aBuildSlice aMakeSlice aField aFieldOf aCallOp deepK deepL frzM putE newK newV growV ACall roundQ thenQ inBlockQ sret cnd szs nilC onMap onRow aLookup aMapUpdate aMakeMap
attribute [local go_sem] Int.natCast_zero
set_option maxHeartbeats 2000000 in
theorem pred05_ok {eb : EbG} (x : Ix) (hl : x.preds.length ≤ 1048576) (q : Ky) (H : Heap) (K : A → Heap → Prop) (hK : K (.tup [.d ((pfind x.preds q).getD kyP0).d, .d (.bool (pfind x.preds q).isSome)]) H) :
  ACall Tryd.prog (seatV eb) 33 [.d x.d, .d q.d] H K := by
 obtain ⟨ts, cs, l⟩ := x
 obtain ⟨qn, qa⟩ := q
 simp only at hl hK
 refine ACall.hp_start ?_
 refine ACall.by mixed fn33 (by simp) ?_
 conv in s33 => cbv
 refine svc_start ?_
 simp -dsimp only [go_sem, gS, Ix.d, Ix.cs, Ky.d, Ky.cs]
 refine newK_hp (fun b2 f2 => ?_)
 simp only [off_cons, off_nil] at f2
 simp -dsimp only [go_sem, gS, f2]
 refine newK_hp (fun b3 f3 => ?_)
 simp only [off_cons, off_nil] at f3
 simp -dsimp only [go_sem, gS, f2, f3]
 refine newK_hp (fun b4 f4 => ?_)
 simp only [off_cons, off_nil] at f4
 simp -dsimp only [go_sem, gS, f2, f3, f4]
 refine svc_loop (X := Nat) (fun j => [(3, .ref b3 0), (4, .ref b4 0), (9, .d (.slice (l.map Pr.d))), (10, .d (.int .i64 l.length)), (11, .d (.int .i64 j))])
  (fun j G => G = hp H [(b3, .var [.d (.str qn), .d (.int .i64 qa)]), (b4, .var [.d (.str ⟨#[]⟩), .d (.int .i64 0), .nils, .nils, .nils])] ∧ j ≤ l.length ∧ pfind l ⟨qn, qa⟩ = pfind (l.drop j) ⟨qn, qa⟩) (fun j => l.length - j) 0 _ ⟨rfl, Nat.zero_le _, rfl⟩ (by simp -dsimp only [go_sem, gS]) (leH_hp (by simp only [hpS, eq_self, implies_true, f2, f3, f4]) (by simp only [hpS, eq_self, implies_true, f2, f3, f4])) ?_
 rintro j G ⟨hG, hj, hs⟩
 subst hG
 simp -dsimp only [go_sem, gS]
 refine gif_split (fun q1 => ?_) (fun q1 => ?_)
 ·have q1' : j < l.length := by have := of_decide_eq_true q1; omega
  obtain ⟨⟨⟨kn, ka⟩, pts, pms, pcs⟩, hx⟩ := list_at q1'
  have hw := wrapN (k := j) (by omega)
  rw [drop_at hx] at hs
  simp -dsimp only [go_sem, gS, q1, hx, f3, f4, Pr.d, Pr.cs]
  refine newK_hp (fun b7 f7 => ?_)
  simp only [off_cons, off_nil] at f7
  simp -dsimp only [go_sem, gS, f3, f4, f7]
  refine gif_split (fun q2 => ?_) (fun q2 => ?_)
  ·have hb : Ky.eqb ⟨kn, ka⟩ ⟨qn, qa⟩ = true := by simpa [Ky.eqb] using q2
   simp only [pfind, List.find?_cons, hb] at hs
   simp only [pfind, hs, Option.getD_some, Option.isSome_some, Pr.d, Pr.cs] at hK
   simp -dsimp only [go_sem, gS, q2, f3, f4, f7]
   refine retW_tup [true, true] ?_
   simp -dsimp only [go_sem, gS, frzM]
   exact retW_drop (G := H) (leH_hp0 (by simp only [hpS, eq_self, implies_true, f3, f4, f7])) (retW_is hK)
  ·have hb : Ky.eqb ⟨kn, ka⟩ ⟨qn, qa⟩ = false := by simpa [Ky.eqb] using q2
   simp only [pfind, List.find?_cons, hb] at hs
   simp -dsimp only [go_sem, gS, q2, f3, f4, f7, hw]
   refine roundQ_next (j + 1) _ ⟨rfl, q1', by simp only [pfind]; exact hs⟩ (by omega) (by simp -dsimp only [go_sem, gS]) (leH_hp (by simp only [hpS, eq_self, implies_true, f3, f4, f7]) (by simp only [hpS, eq_self, implies_true, f3, f4, f7]))
 ·rw [drop_end (by have := of_decide_eq_false q1; omega)] at hs
  simp only [pfind, List.find?_nil] at hs
  simp only [pfind, hs, Option.getD_none, Option.isSome_none, kyP0, Pr.d, Pr.cs, List.map_nil] at hK
  simp -dsimp only [go_sem, gS, q1, f3, f4]
  refine retW_tup [true, true] ?_
  simp -dsimp only [go_sem, gS, frzM]
  exact retW_drop (G := H) (leH_hp0 (by simp only [hpS, eq_self, implies_true, f3, f4])) (retW_is hK)
def errN (n : Nat) : Int := if n = 0 then 0 else if n = 1 then 9 else 4
set_option maxHeartbeats 16000000 in
theorem flatten05_ok {eb : EbG} (l : List It) (hl : Srcs l) (x : Ix) (hx : x.preds.length ≤ 1048576) (q : Ky) (hqq : ∀ p, pfind x.preds q = some p → 0 ≤ q.ar ∧ q.ar ≤ 1048576)
  (hcl : ∀ p, pfind x.preds q = some p → p.clauses.length ≤ 1048576 ∧ (∀ c ∈ p.clauses, 0 ≤ c ∧ c < l.length) ∧ sumNodes (atIts l p.clauses) ≤ 549755813888) (H : Heap) (K : A → Heap → Prop)
  (hK : K (.tup [.d (nflat l x q).2.d, .d (.int .i64 (errN (nflat l x q).1))]) H) :
  ACall Tryd.prog (seatV eb) 29 [.d (.slice (l.map It.d)), .d x.d, .d q.d] H K := by
 obtain ⟨xts, xcs, ps⟩ := x
 simp only at hx hcl hqq
 refine ACall.hp_start ?_
 refine ACall.by mixed fn29 (by simp) ?_
 conv in s29 => cbv
 refine svc_start ?_
 simp -dsimp only [go_sem, gS, Ix.d, Ix.cs, Ky.d, Ky.cs]
 refine newK_hp (fun b4 f4 => ?_)
 simp only [off_cons, off_nil] at f4
 simp -dsimp only [go_sem, gS, f4]
 refine newK_hp (fun b5 f5 => ?_)
 simp only [off_cons, off_nil] at f5
 simp -dsimp only [go_sem, gS, f4, f5]
 refine newK_hp (fun b6 f6 => ?_)
 simp only [off_cons, off_nil] at f6
 simp -dsimp only [go_sem, gS, f4, f5, f6]
 refine pred05_ok ⟨xts, xcs, ps⟩ hx q _ _ ?_
 simp only
 cases hpf : pfind ps q with
 | none =>
  simp only [Option.getD_none, Option.isSome_none]
  simp -dsimp only [go_sem, gS, f4, f5, f6, kyP0, Pr.d, Pr.cs, List.map_nil, List.cons_append, List.nil_append]
  refine newK_hp (fun b8 f8 => ?_)
  simp only [off_cons, off_nil] at f8
  simp -dsimp only [go_sem, gS, f4, f5, f6, f8]
  have hn : nflat l ⟨xts, xcs, ps⟩ q = (1, fp0) := by simp only [nflat, hpf]
  rw [hn] at hK
  refine retW_tup [true, true] ?_
  simp -dsimp only [go_sem, gS, frzM]
  exact retW_drop (G := H) (leH_hp0 (by simp only [hpS, eq_self, implies_true, f4, f5, f6, f8])) (retW_is hK)
 | some p =>
  obtain ⟨hcn, hcr, hsn⟩ := hcl p hpf
  obtain ⟨hq, hqa⟩ := hqq p hpf
  obtain ⟨⟨pkn, pka⟩, pts, pms, pcs⟩ := p
  simp only [Option.getD_some, Option.isSome_some]
  simp only at hcn hcr hsn
  simp -dsimp only [go_sem, gS, f4, f5, f6, Pr.d, Pr.cs, List.cons_append, List.nil_append]
  refine newK_hp (fun b8 f8 => ?_)
  simp only [off_cons, off_nil] at f8
  simp -dsimp only [go_sem, gS, f4, f5, f6, f8]
  refine builtin04_ok _ q _ ?_
  simp -dsimp only [go_sem, gS, f4, f5, f6, f8]
  refine gif_split (fun g1 => ?_) (fun g1 => ?_)
  ·simp -dsimp only [go_sem, gS, g1, f4, f5, f6, f8]
   have hn : nflat l ⟨xts, xcs, ps⟩ q = (1, fp0) := by simp only [nflat, hpf]; exact if_pos g1
   rw [hn] at hK
   refine retW_tup [true, true] ?_
   simp -dsimp only [go_sem, gS, frzM]
   exact retW_drop (G := H) (leH_hp0 (by simp only [hpS, eq_self, implies_true, f4, f5, f6, f8])) (retW_is hK)
  ·obtain ⟨ar, har⟩ := Int.eq_ofNat_of_zero_le hq
   have hn : nflat l ⟨xts, xcs, ps⟩ q = if 200 < (nclauses (atIts l pcs) ar).2 then (2, fp0) else (0, ⟨q, (nclauses (atIts l pcs) ar).2, nbody (nclauses (atIts l pcs) ar).1⟩) := by
    simp only [nflat, hpf, har, Int.toNat_natCast]; exact if_neg (by rw [g1]; exact Bool.false_ne_true)
   rw [hn] at hK
   simp only [har]
   have hal : (atIts l pcs).length = pcs.length := by simp [atIts]
   simp -dsimp only [go_sem, gS, g1, f4, f5, f6, f8]
   refine newV_hp (fun b34 v34 f34 w34 => ?_)
   simp only [off_cons, off_nil] at f34
   simp -dsimp only [go_sem, gS, f4, f5, f6, f8, f34]
   have hacc0 : AccN H [] [pcF [] (.own b34 v34)] (upd H b34 (.arr 39 10 v34 [])) := (AccN.none H []).new (by simp only [hpS, eq_self, implies_true, ]) f34.2.2.2.2.2.2.2.2 w34
   have h0 : upd H b34 (.arr 39 10 v34 []) b5 = none ∧ upd H b34 (.arr 39 10 v34 []) b6 = none := ⟨upd_eq_none.2 ⟨eqn_false f34.2.2.2.1, f5.2.2⟩, upd_eq_none.2 ⟨eqn_false f34.2.2.2.2.2.1, f6.2.2.2.2⟩⟩
   refine svc_loop (X := Nat × List Fl × Nat × A × Heap) (fun y => [(0, .d (.slice (l.map It.d))), (5, .ref b5 0), (6, .ref b6 0), (10, .d (.int .i64 y.2.2.1)), (11, y.2.2.2.1), (36, .d (.slice (pcs.map (.int .i64)))), (37, .d (.int .i64 pcs.length)), (38, .d (.int .i64 y.1))])
    (fun y G => G = hp y.2.2.2.2 [(b5, .var [.d (.str q.name), .d (.int .i64 ar)]), (b6, .var [.d (.str ⟨#[]⟩), .d (.int .i64 0), .d (.int .i64 0), .d (.int .i64 0), .d (.int .i64 0), .d (.int .i64 0), .d (.int .i64 0), .d (.str ⟨#[]⟩), .d (.int .i64 0), .d (.str ⟨#[]⟩), .d (.int .i64 0), .nils, .nils])] ∧ AccN H [] [pcF y.2.1 y.2.2.2.1] y.2.2.2.2 ∧ (y.2.2.2.2 b5 = none ∧ y.2.2.2.2 b6 = none) ∧ y.1 ≤ pcs.length ∧ (y.2.1 ++ (nclauses ((atIts l pcs).drop y.1) y.2.2.1).1, (nclauses ((atIts l pcs).drop y.1) y.2.2.1).2) = nclauses (atIts l pcs) ar ∧ y.2.2.1 + sumNodes ((atIts l pcs).drop y.1) ≤ ar + sumNodes (atIts l pcs) ∧ y.2.1.length = y.1)
    (fun y => pcs.length - y.1) (0, [], ar, .own b34 v34, upd H b34 (.arr 39 10 v34 [])) _ ⟨rfl, hacc0, h0, Nat.zero_le _, by simp, by simp, rfl⟩ (by simp -dsimp only [go_sem, gS]) (by rw [hp_base (by simp only [hpS, eq_self, implies_true, f34])]; exact (leH_hp (by simp only [hpS, eq_self, implies_true, f4, f5, f6, f8, f34, setL_cons, setL_nil]) (by simp only [hpS, eq_self, implies_true, f4, f5, f6, f8, f34, setL_cons, setL_nil]))) ?_
   clear hacc0 h0
   rintro ⟨j, out, nx, a, R⟩ G ⟨hG, hacc, ⟨f51, f61⟩, hj, hrun, hnx, hout⟩
   simp only at hG hacc f51 f61 hj hrun hnx hout
   subst hG
   simp -dsimp only [go_sem, gS]
   refine gif_split (fun q1 => ?_) (fun q1 => ?_)
   ·have q1' : j < pcs.length := by have := of_decide_eq_true q1; omega
    obtain ⟨c, hx⟩ := list_at q1'
    have hcx := hcr c (List.mem_of_getElem? hx)
    obtain ⟨ci, rfl⟩ := Int.eq_ofNat_of_zero_le hcx.1
    obtain ⟨it, hit⟩ := list_at (show ci < l.length by omega)
    have hitx : (atIts l pcs)[j]? = some it := by simp [atIts, hx, List.getD, hit]
    have hwj := wrapN (k := j) (by omega)
    rw [drop_at hitx] at hrun hnx
    simp only [nclauses, sumNodes] at hrun hnx
    obtain ⟨x1, x2, x3, x4, x5, x6, x7, x8, x9, x10, x11, x12, hbody, hd⟩ := it.opn
    have hgd : it.body.d = .agg [x1, x2, x3, x4, x5, x6, x7, x8, x9, x10, x11, x12] := by rw [Gl.d, hbody]
    have hit2 := hl.small it (List.mem_of_getElem? hit)
    obtain ⟨hav, hat⟩ := hit2.args
    have hnod := It.nodes.eq_def it
    simp -dsimp only [go_sem, gS, q1, hx, hit, hd, f5, f6, f51, f61]
    refine newK_hp (fun b14 f14 => ?_)
    simp only [off_cons, off_nil] at f14
    simp -dsimp only [go_sem, gS, f5, f6, f51, f61, f14]
    refine newV_hp (fun b45 v45 f45 w45 => ?_)
    simp only [off_cons, off_nil] at f45
    simp -dsimp only [go_sem, gS, f5, f6, f51, f61, f14, f45, hit, hd]
    have hne45 := f45
    have hacc1 : AccN H [] (cps ⟨nx, []⟩ .nils .nils ++ [pcF [] (.own b45 v45), pcF out a]) (upd R b45 (.arr 39 10 v45 [])) :=
     ((hacc.new (E := 39) (sz := 10) (xs := []) (by simp only [hpS, eq_self, implies_true, f45]) f45.2.2.2.2.2.2 w45).nil 3 1).nil 9 1
    have h1 : upd R b45 (.arr 39 10 v45 []) b5 = none ∧ upd R b45 (.arr 39 10 v45 []) b6 = none ∧ upd R b45 (.arr 39 10 v45 []) b14 = none := ⟨upd_eq_none.2 ⟨eqn_false f45.2.1, f51⟩, upd_eq_none.2 ⟨eqn_false f45.2.2.2.1, f61⟩, upd_eq_none.2 ⟨eqn_false f45.2.2.2.2.2.1, f14.2.2.2.2⟩⟩
    refine svc_loop (X := Nat × List Fl × NS × A × A × A × Heap) (fun y => [(0, .d (.slice (l.map It.d))), (5, .ref b5 0), (6, .ref b6 0), (11, a), (13, .d (.int .i64 ci)), (14, .ref b14 0), (15, y.2.2.2.2.2.1), (36, .d (.slice (pcs.map (.int .i64)))), (37, .d (.int .i64 pcs.length)), (38, .d (.int .i64 j)), (50, .d (.slice (it.args.map Tm.d))), (51, .d (.int .i64 it.args.length)), (52, .d (.int .i64 y.1))])
     (fun y G => G = hp y.2.2.2.2.2.2 [(b14, cvar y.2.2.1 y.2.2.2.1 y.2.2.2.2.1), (b5, .var [.d (.str q.name), .d (.int .i64 ar)]), (b6, .var [.d (.str ⟨#[]⟩), .d (.int .i64 0), .d (.int .i64 0), .d (.int .i64 0), .d (.int .i64 0), .d (.int .i64 0), .d (.int .i64 0), .d (.str ⟨#[]⟩), .d (.int .i64 0), .d (.str ⟨#[]⟩), .d (.int .i64 0), .nils, .nils])] ∧ AccN H [] (cps y.2.2.1 y.2.2.2.1 y.2.2.2.2.1 ++ [pcF y.2.1 y.2.2.2.2.2.1, pcF out a]) y.2.2.2.2.2.2 ∧ (y.2.2.2.2.2.2 b5 = none ∧ y.2.2.2.2.2.2 b6 = none ∧ y.2.2.2.2.2.2 b14 = none) ∧ y.1 ≤ it.args.length ∧ (y.2.1 ++ (nheads y.1 (it.args.drop y.1) y.2.2.1).1, (nheads y.1 (it.args.drop y.1) y.2.2.1).2) = nheads 0 it.args ⟨nx, []⟩ ∧ y.2.2.1.next + Tm.nodess (it.args.drop y.1) ≤ nx + Tm.nodess it.args ∧ y.2.2.1.names.length + Tm.nodess (it.args.drop y.1) ≤ Tm.nodess it.args ∧ y.2.1.length + Tm.nodess (it.args.drop y.1) ≤ Tm.nodess it.args)
     (fun y => it.args.length - y.1) (0, [], ⟨nx, []⟩, .nils, .nils, .own b45 v45, upd R b45 (.arr 39 10 v45 [])) _ ⟨rfl, hacc1, h1, Nat.zero_le _, by simp, by simp, by simp, by simp⟩ (by simp -dsimp only [go_sem, gS]) (by rw [hp_base (by simp only [hpS, eq_self, implies_true, f45, f14])]; exact (leH_hp (by simp only [hpS, eq_self, implies_true, f5, f6, f51, f61, f14, f45, setL_cons, setL_nil]) (by simp only [hpS, eq_self, implies_true, f5, f6, f51, f61, f14, f45, setL_cons, setL_nil]))) ?_
    clear hacc1 h1
    rintro ⟨k, rows, s1, c1, c2, a2, R2⟩ G ⟨hG, hacc2, ⟨g5, g6, g14⟩, hk, hrun2, hnx2, hnn2, hout2⟩
    simp only at hG hacc2 g5 g6 g14 hk hrun2 hnx2 hnn2 hout2
    subst hG
    simp -dsimp only [go_sem, gS]
    refine gif_split (fun q2 => ?_) (fun q2 => ?_)
    ·have q2' : k < it.args.length := by have := of_decide_eq_true q2; omega
     obtain ⟨⟨tk, tn, ti, ta⟩, hx2⟩ := list_at q2'
     have hwk := wrapN (k := k) (by omega)
     rw [drop_at hx2] at hrun2 hnx2 hnn2 hout2
     simp only [nheads, Tm.nodess] at hrun2 hnx2 hnn2 hout2
     simp -dsimp only [go_sem, gS, q2, hx2, Tm.d, Tm.cs, f5, f6, f14, g5, g6, g14]
     refine newK_hp (fun b17 f17 => ?_)
     simp only [off_cons, off_nil] at f17
     simp -dsimp only [go_sem, gS, f5, f6, f14, g5, g6, g14, f17]
     obtain ⟨HH, RR, eq, hs1, back⟩ := accN_sub (r := b14) (qs := cps s1 c1 c2) (ps := [pcF rows a2, pcF out a]) (o := cvar s1 c1 c2) (l := [(b5, .var [.d (.str q.name), .d (.int .i64 ar)]), (b6, .var [.d (.str ⟨#[]⟩), .d (.int .i64 0), .d (.int .i64 0), .d (.int .i64 0), .d (.int .i64 0), .d (.int .i64 0), .d (.int .i64 0), .d (.str ⟨#[]⟩), .d (.int .i64 0), .d (.str ⟨#[]⟩), .d (.int .i64 0), .nils, .nils]), (b17, .var [.d (.int .i64 tk), .d (.str tn), .d (.int .i64 ti), .d (.slice (Tm.ds ta))])]) hacc2 (by simp only [hpS, eq_self, implies_true, f5, f6, f14, g5, g6, g14, f17]) (by simp only [hpS, eq_self, implies_true, ]) (by simp only [hpS, eq_self, implies_true, f5, f6, f14, f17])
     rw [eq]
     have hz := nunify_size k (.mk tk tn ti ta) s1
     have hy := nunify_names k (.mk tk tn ti ta) s1
     refine unify05_ok _ (.mk tk tn ti ta) (Nat.le_refl _) (Tm.smalls_mem hat _ (List.mem_of_getElem? hx2)) HH RR b14 s1 c1 c2 hs1 k (by omega) (by omega) _ (fun ar1 d1 d2 RA hac2 => ?_)
     generalize (nunify k (.mk tk tn ti ta) s1).1 = rw1 at hrun2 hac2 hz ⊢
     generalize (nunify k (.mk tk tn ti ta) s1).2 = s2 at hrun2 hac2 hz hy ⊢
     obtain ⟨RB, hbc, ebb, hnb⟩ := back _ _ hac2
     rw [ebb]
     have k5 := hnb b5 (by simp only [hpS, eq_self, implies_true, f5, f6, f14]) g5
     have k6 := hnb b6 (by simp only [hpS, eq_self, implies_true, f5, f6, f14]) g6
     have k17 := hnb b17 (by simp only [hpS, eq_self, implies_true, f17]) f17.2.2.2.2.2.2
     have k14 := hnb b14 (by simp only [hpS, eq_self, implies_true, f5, f6, f14]) g14
     have hok : okK [] RB [(b14, cvar s2 d1 d2), (b5, .var [.d (.str q.name), .d (.int .i64 ar)]), (b6, .var [.d (.str ⟨#[]⟩), .d (.int .i64 0), .d (.int .i64 0), .d (.int .i64 0), .d (.int .i64 0), .d (.int .i64 0), .d (.int .i64 0), .d (.str ⟨#[]⟩), .d (.int .i64 0), .d (.str ⟨#[]⟩), .d (.int .i64 0), .nils, .nils]), (b17, .var [.d (.int .i64 tk), .d (.str tn), .d (.int .i64 ti), .d (.slice (Tm.ds ta))])] := by simp only [hpS, eq_self, implies_true, f5, f6, f14, k5, k6, k14, k17, f17]
     simp -dsimp only [go_sem, gS, f5, f6, f14, f17, k5, k6, k14, k17]
     rw [AccN.src (pre := []) (p := pcF rw1 ar1) (post := cps s2 d1 d2 ++ [pcF rows a2, pcF out a]) hbc hok]
     have hszs := szs_map (sz := 10) (f := Fl.d) (fun x => x.cs_length) rw1
     simp -dsimp only [go_sem, gS, hszs]
     refine AccN.appTo (pre := pcF rw1 ar1 :: cps s2 d1 d2) (p := pcF rows a2) (post := [pcF out a]) hbc hok (by simp only [hpS, eq_self, implies_true, ]) (by simp only [List.length_map]; omega) (fun a4 R4 hac3 hn3 => ?_)
     have m5 := hn3 b5 (by simp only [hpS, eq_self, implies_true, f5, f6, f14]) k5
     have m6 := hn3 b6 (by simp only [hpS, eq_self, implies_true, f5, f6, f14]) k6
     have m14 := hn3 b14 (by simp only [hpS, eq_self, implies_true, f5, f6, f14]) k14
     have m17 := hn3 b17 (by simp only [hpS, eq_self, implies_true, f17]) k17
     have hac4 : AccN H [] (cps s2 d1 d2 ++ [pcF (rows ++ rw1) a4, pcF out a]) R4 := by
      have := AccN.without (pre := []) (p := pcF rw1 ar1) (post := cps s2 d1 d2 ++ [⟨39, 10, rows.map Fl.d ++ rw1.map Fl.d, a4⟩, pcF out a]) hac3
      simp only [pcF, List.map_append]; exact this
     simp -dsimp only [go_sem, gS, f5, f6, f14, f17, m5, m6, m14, m17, hwk]
     refine roundQ_next (k + 1, rows ++ rw1, s2, d1, d2, a4, R4) _ ⟨rfl, hac4, ⟨m5, m6, m14⟩, q2', by rw [← hrun2]; simp, by simp only; omega, by simp only; omega, by simp only [List.length_append]; omega⟩ (by simp only; omega) (by simp -dsimp only [go_sem, gS]) (leH_hp (by simp only [hpS, eq_self, implies_true, f5, f6, f14, f17, m5, m6, m14, m17]) (by simp only [hpS, eq_self, implies_true, f5, f6, f14, f17, m5, m6, m14, m17]))
    ·rw [drop_end (by have := of_decide_eq_false q2; omega)] at hrun2 hnx2 hnn2 hout2
     simp only [nheads, Tm.nodess, List.append_nil] at hrun2 hnx2 hnn2 hout2
     have hz := ngoal_size it.body s1
     have hy := ngoal_names it.body s1
     have hcl2 : nclause it nx = (nwhole (rows ++ (ngoal it.body s1).1), (ngoal it.body s1).2.next) := by simp only [nclause, ← hrun2]
     rw [hcl2] at hrun
     have hcn2 := nclause_next it nx
     rw [hcl2] at hcn2
     simp only at hrun hcn2
     simp -dsimp only [go_sem, gS, q2, f5, f6, f14, g5, g6, g14, hit, hd]
     rw [← hgd]
     obtain ⟨HH, RR, eq, hs1, back⟩ := accN_sub (r := b14) (qs := cps s1 c1 c2) (ps := [pcF rows a2, pcF out a]) (o := cvar s1 c1 c2) (l := [(b5, .var [.d (.str q.name), .d (.int .i64 ar)]), (b6, .var [.d (.str ⟨#[]⟩), .d (.int .i64 0), .d (.int .i64 0), .d (.int .i64 0), .d (.int .i64 0), .d (.int .i64 0), .d (.int .i64 0), .d (.str ⟨#[]⟩), .d (.int .i64 0), .d (.str ⟨#[]⟩), .d (.int .i64 0), .nils, .nils])]) hacc2 (by simp only [hpS, eq_self, implies_true, f5, f6, f14, g5, g6, g14]) (by simp only [hpS, eq_self, implies_true, ]) (by simp only [hpS, eq_self, implies_true, f5, f6, f14])
     rw [eq]
     refine goal05_ok _ it.body (Nat.le_refl _) hit2.body HH RR b14 s1 c1 c2 hs1 (by omega) (by omega) _ (fun ar1 d1 d2 RA hac2 => ?_)
     generalize (ngoal it.body s1).1 = rw1 at hrun hac2 hz hcn2 ⊢
     generalize (ngoal it.body s1).2 = s2 at hrun hac2 hz hy hcn2 ⊢
     obtain ⟨RB, hbc, ebb, hnb⟩ := back _ _ hac2
     rw [ebb]
     have k5 := hnb b5 (by simp only [hpS, eq_self, implies_true, f5, f6, f14]) g5
     have k6 := hnb b6 (by simp only [hpS, eq_self, implies_true, f5, f6, f14]) g6
     have k14 := hnb b14 (by simp only [hpS, eq_self, implies_true, f5, f6, f14]) g14
     have hok : okK [] RB [(b14, cvar s2 d1 d2), (b5, .var [.d (.str q.name), .d (.int .i64 ar)]), (b6, .var [.d (.str ⟨#[]⟩), .d (.int .i64 0), .d (.int .i64 0), .d (.int .i64 0), .d (.int .i64 0), .d (.int .i64 0), .d (.int .i64 0), .d (.str ⟨#[]⟩), .d (.int .i64 0), .d (.str ⟨#[]⟩), .d (.int .i64 0), .nils, .nils])] := by simp only [hpS, eq_self, implies_true, f5, f6, f14, k5, k6, k14]
     simp -dsimp only [go_sem, gS, f5, f6, f14, k5, k6, k14]
     rw [AccN.src (pre := []) (p := pcF rw1 ar1) (post := cps s2 d1 d2 ++ [pcF rows a2, pcF out a]) hbc hok]
     have hszs := szs_map (sz := 10) (f := Fl.d) (fun x => x.cs_length) rw1
     simp -dsimp only [go_sem, gS, hszs]
     refine AccN.appTo (pre := pcF rw1 ar1 :: cps s2 d1 d2) (p := pcF rows a2) (post := [pcF out a]) hbc hok (by simp only [hpS, eq_self, implies_true, ]) (by simp only [List.length_map]; omega) (fun a4 R4 hac3 hn3 => ?_)
     have m5 := hn3 b5 (by simp only [hpS, eq_self, implies_true, f5, f6, f14]) k5
     have m6 := hn3 b6 (by simp only [hpS, eq_self, implies_true, f5, f6, f14]) k6
     have m14 := hn3 b14 (by simp only [hpS, eq_self, implies_true, f5, f6, f14]) k14
     have hac4 : AccN H [] (cps s2 d1 d2 ++ [pcF (rows ++ rw1) a4, pcF out a]) R4 := by
      have := AccN.without (pre := []) (p := pcF rw1 ar1) (post := cps s2 d1 d2 ++ [⟨39, 10, rows.map Fl.d ++ rw1.map Fl.d, a4⟩, pcF out a]) hac3
      simp only [pcF, List.map_append]; exact this
     simp -dsimp only [go_sem, gS, f5, f6, f14, m5, m6, m14]
     have hok4 : okK [] R4 [(b14, cvar s2 d1 d2), (b5, .var [.d (.str q.name), .d (.int .i64 ar)]), (b6, .var [.d (.str ⟨#[]⟩), .d (.int .i64 0), .d (.int .i64 0), .d (.int .i64 0), .d (.int .i64 0), .d (.int .i64 0), .d (.int .i64 0), .d (.str ⟨#[]⟩), .d (.int .i64 0), .d (.str ⟨#[]⟩), .d (.int .i64 0), .nils, .nils])] := by simp only [hpS, eq_self, implies_true, f5, f6, f14, m5, m6, m14]
     refine ACall.frz [true] ?_
     simp only [frzM]
     refine AccN.deep (pre := cps s2 d1 d2) (p := pcF (rows ++ rw1) a4) (post := [pcF out a]) hac4 hok4 (fun R6 hac6 hn6 => ?_)
     have o5 := hn6 b5 m5
     have o6 := hn6 b6 m6
     have o14 := hn6 b14 m14
     refine whole05_ok (rows ++ rw1) (by simp only [List.length_append]; omega) _ _ ?_
     generalize hnw : nwhole (rows ++ rw1) = w at hrun ⊢
     obtain ⟨wk, wx, wy, wi, ⟨wcn, wca⟩, ⟨wpn, wpa⟩, wxs, wgs⟩ := w
     simp -dsimp only [go_sem, gS, f5, f6, f14, o5, o6, o14, Fl.d, Fl.cs]
     refine newV_hp (fun b76 v76 f76 w76 => ?_)
     simp only [off_cons, off_nil] at f76
     simp -dsimp only [go_sem, gS, f5, f6, f14, o5, o6, o14, f76]
     refine AccN.appTo (pre := cps s2 d1 d2) (p := pcF out a) (post := []) (ns := [(Fl.mk wk wx wy wi ⟨wcn, wca⟩ ⟨wpn, wpa⟩ wxs wgs).d]) hac6 (by simp only [hpS, eq_self, implies_true, f5, f6, f14, o5, o6, o14, f76]) (by simp only [hpS, eq_self, implies_true, ]) (by simp only [List.length_map, List.length_cons, List.length_nil]; omega) (fun a7 R7 hac7 hn7 => ?_)
     have p5 := hn7 b5 (by simp only [hpS, eq_self, implies_true, f5, f6, f14]) o5
     have p6 := hn7 b6 (by simp only [hpS, eq_self, implies_true, f5, f6, f14]) o6
     have p14 := hn7 b14 (by simp only [hpS, eq_self, implies_true, f5, f6, f14]) o14
     have p76 := hn7 b76 (by simp only [hpS, eq_self, implies_true, f76]) f76.2.2.2.2.2.2
     have hac8 : AccN H [] [pcF (out ++ [Fl.mk wk wx wy wi ⟨wcn, wca⟩ ⟨wpn, wpa⟩ wxs wgs]) a7] R7 := by
      have := AccN.without (pre := []) (p := pcS (s2.names.map (·.1)) d1) (AccN.without (pre := [pcS (s2.names.map (·.1)) d1]) (p := pcN (s2.names.map (·.2)) d2) hac7)
      simp only [pcF, List.map_append, List.map_cons, List.map_nil]; exact this
     simp -dsimp only [go_sem, gS, f5, f6, f14, f76, p5, p6, p14, p76, hwj]
     refine roundQ_next (j + 1, out ++ [Fl.mk wk wx wy wi ⟨wcn, wca⟩ ⟨wpn, wpa⟩ wxs wgs], s2.next, a7, R7) _ ⟨rfl, hac8, ⟨p5, p6⟩, q1', by rw [← hrun]; simp, by simp only; omega, by simp [hout]⟩ (by simp only; omega) (by simp -dsimp only [go_sem, gS]) (leH_hp (by simp only [hpS, eq_self, implies_true, f5, f6, f14, f76, p5, p6, p14, p76]) (by simp only [hpS, eq_self, implies_true, f5, f6, f14, f76, p5, p6, p14, p76]))
   ·rw [drop_end (by have := of_decide_eq_false q1; omega)] at hrun hnx
    simp only [nclauses, sumNodes, List.append_nil] at hrun hnx
    rw [← hrun] at hK
    simp only at hK
    simp -dsimp only [go_sem, gS, q1, f5, f6, f51, f61]
    refine gif_split (fun q2 => ?_) (fun q2 => ?_)
    ·have e2 : 200 < nx := by have := of_decide_eq_true q2; omega
     rw [if_pos e2] at hK
     simp -dsimp only [go_sem, gS, q2, f5, f6, f51, f61]
     refine retW_tup [true, true] ?_
     simp -dsimp only [go_sem, gS, frzM]
     exact retW_drop (G := H) (leH_hp02 hacc.le (by simp only [hpS, eq_self, implies_true, f5, f6, f51, f61])) (retW_is hK)
    ·have e2 : ¬ 200 < nx := by have := of_decide_eq_false q2; omega
     rw [if_neg e2] at hK
     have hol : out.length ≤ 1048576 := by omega
     simp -dsimp only [go_sem, gS, q2, f5, f6, f51, f61]
     refine newK_hp (fun b18 f18 => ?_)
     simp only [off_cons, off_nil] at f18
     have h18 := f18.2.2.2.2
     have h18H := hacc.le.free h18
     have hok : okK [] R [(b5, .var [.d (.str q.name), .d (.int .i64 ar)]), (b6, .var [.d (.str ⟨#[]⟩), .d (.int .i64 0), .d (.int .i64 0), .d (.int .i64 0), .d (.int .i64 0), .d (.int .i64 0), .d (.int .i64 0), .d (.str ⟨#[]⟩), .d (.int .i64 0), .d (.str ⟨#[]⟩), .d (.int .i64 0), .nils, .nils]), (b18, .var [.d (.str q.name), .d (.int .i64 ar), .d (.int .i64 nx), .d (.int .i64 0), .d (.int .i64 0), .d (.int .i64 0), .d (.int .i64 0), .d (.str ⟨#[]⟩), .d (.int .i64 0), .d (.str ⟨#[]⟩), .d (.int .i64 0), .nils, .nils])] := by simp only [hpS, eq_self, implies_true, f5, f6, f51, f61, f18]
     have hone := AccN.one (pre := []) hacc
     simp only at hone
     simp -dsimp only [go_sem, gS, f5, f6, f51, f61, f18]
     refine andK_split (AccN.lenable (pre := []) (p := pcF out a) (post := []) hacc (by kernel_rfl)) ?_
     rw [AccN.len (pre := []) (p := pcF out a) (post := []) hacc hok]
     simp only [List.length_map]
     simp -dsimp only [go_sem, gS, f5, f6, f51, f61, f18]
     refine gif_split (fun q3 => ?_) (fun q3 => ?_)
     ·have e3 : out = [] := List.length_eq_zero_iff.1 (by have := of_decide_eq_true q3; omega)
      subst e3
      simp only [FP.d, FP.cs, har, nbody, fRow, Fl.cs, Fl.ds, ky0, List.map_nil, List.cons_append, List.nil_append] at hK
      simp -dsimp only [go_sem, gS, q3, f5, f6, f51, f61, f18]
      refine retW_tup [true, true] ?_
      simp -dsimp only [go_sem, gS, frzM]
      exact retW_drop (G := H) (leH_hp02 hacc.le (by simp only [hpS, eq_self, implies_true, f5, f6, f51, f61, f18, h18H])) (retW_is hK)
     ·have e3 : out.length ≠ 0 := by have := of_decide_eq_false q3; omega
      simp -dsimp only [go_sem, gS, q3, f5, f6, f51, f61, f18]
      refine gif_split (fun q4 => ?_) (fun q4 => ?_)
      ·obtain ⟨⟨gk, gx, gy, gi, ⟨gcn, gca⟩, ⟨gpn, gpa⟩, gxs, ggs⟩, rfl⟩ : ∃ g, out = [g] := List.length_eq_one_iff.1 (by have := of_decide_eq_true q4; omega)
       simp only [FP.d, FP.cs, har, nbody, Fl.cs, List.cons_append, List.nil_append] at hK
       rcases hacc.mid (pre := []) (p := pcF _ a) (post := []) with ⟨hb, _⟩ | ⟨b, v, ha0, h1, h2, hv, hH⟩
       ·simp at hb
       ·simp only [pcF, List.map_cons, List.map_nil, Fl.d, Fl.cs] at hH ha0
        subst ha0
        have n5 := eqn_some hH f51
        have n6 := eqn_some hH f61
        have n18 := eqn_some hH h18
        simp -dsimp only [go_sem, gS, q4, f5, f6, f51, f61, f18, hH, n5, n6, n18]
        refine andK_split (by decide) ?_
        simp -dsimp only [go_sem, gS, f5, f6, f51, f61, f18, hH, n5, n6, n18, Int.toNat_zero, List.getElem?_cons_zero]
        refine retW_tup [true, true] ?_
        simp -dsimp only [go_sem, gS, frzM]
        exact retW_drop (G := H) (leH_hp02 hacc.le (by simp only [hpS, eq_self, implies_true, f5, f6, f51, f61, f18, h18H, hH, n5, n6, n18])) (retW_is hK)
      ·have e4 : out.length ≠ 1 := by have := of_decide_eq_false q4; omega
       have ew : nbody out = fRow 8 0 out := by
        rcases out with _ | ⟨a1, _ | ⟨a2, gs⟩⟩
        ·simp at e3
        ·simp at e4
        ·rfl
       rw [ew] at hK
       simp only [FP.d, FP.cs, har, fRow, Fl.cs, Fl.ds_map, ky0, List.map_nil, List.cons_append, List.nil_append] at hK
       simp -dsimp only [go_sem, gS, q4, f5, f6, f51, f61, f18, hone]
       refine retW_tup [true, true] ?_
       simp -dsimp only [go_sem, gS, frzM]
       refine AccN.deep (pre := []) (p := pcF out a) (post := []) hacc (by simp only [hpS, eq_self, implies_true, f5, f6, f51, f61, f18]) (fun R4 hacc4 hn4 => ?_)
       have m5 := hn4 b5 f51
       have m6 := hn4 b6 f61
       have m18 := hn4 b18 h18
       simp -dsimp only [go_sem, gS, f5, f6, m5, m6, m18, f18]
       exact retW_drop (G := H) (leH_hp02 hacc4.le (by simp only [hpS, eq_self, implies_true, f5, f6, m5, m6, m18, f18, h18H])) (retW_is hK)
end Go.Aug
