/- The contracts of the reference's parser of items and sources; conditions stand in each contract. -/
import Derived.Test.YtejfagblpbmokaaDoorParserOne
import Derived.Test.YtejfagblpbmokaaDoorFactsTwo
import Derived.Test.YtejfagblpbmokaaDoorAugSix
set_option linter.all false
set_option linter.unusedVariables false
set_option linter.unusedSimpArgs false
set_option linter.unusedSectionVars false

/- The reference's reader: items: what is read. -/
namespace Go.Aug
open Go.Proofs
set_option maxRecDepth 100000
set_option linter.unusedSimpArgs false
/-- A constructor's declaration. -/
structure Ct where
 name : ByteArray
 args : List Ty
 deriving Inhabited
def Ct.cs (c : Ct) : List D := [.str c.name, .slice (c.args.map Ty.d)]
def Ct.d (c : Ct) : D := .agg c.cs
structure It where
 kind : Int
 name : ByteArray
 vars : List ByteArray
 ctors : List Ct
 types : List Ty
 ways : List Bool
 det : Int
 args : List Tm
 body : Gl
instance : Inhabited It := ⟨⟨0, ⟨#[]⟩, [], [], [], [], 0, [], .mk 0 .none .none ⟨#[]⟩ [] []⟩⟩
def It.cs (i : It) : List D := [.int .i64 i.kind, .str i.name, .slice (i.vars.map .str), .slice (i.ctors.map Ct.d), .slice (i.types.map Ty.d), .slice (i.ways.map .bool), .int .i64 i.det, .slice (i.args.map Tm.d)] ++ i.body.cs
def It.d (i : It) : D := .agg i.cs
theorem It.cs_length (i : It) : i.cs.length = 20 := by simp [It.cs, Gl.cs_length]
def kType : ByteArray := ⟨#[116, 121, 112, 101]⟩
def kPred : ByteArray := ⟨#[112, 114, 101, 100]⟩
def kMode : ByteArray := ⟨#[109, 111, 100, 101]⟩
def kBar : ByteArray := ⟨#[124]⟩
def kIn : ByteArray := ⟨#[105, 110]⟩
def kOut : ByteArray := ⟨#[111, 117, 116]⟩
def kIs : ByteArray := ⟨#[105, 115]⟩
def kDet : ByteArray := ⟨#[100, 101, 116]⟩
def kSemi2 : ByteArray := ⟨#[115, 101, 109, 105, 100, 101, 116]⟩
def kMulti : ByteArray := ⟨#[109, 117, 108, 116, 105]⟩
def kNon : ByteArray := ⟨#[110, 111, 110, 100, 101, 116]⟩
def kIf : ByteArray := ⟨#[58, 45]⟩
def kDot : ByteArray := ⟨#[46]⟩
def rctor (l : List Tok) (s : RdS) : Ct × RdS :=
 (⟨(rword l 1 s).1, (rargs (rtype 66 l 1) l 10 [] (rword l 1 s).2).1⟩, (rargs (rtype 66 l 1) l 10 [] (rword l 1 s).2).2)
/-- Things with bars between. -/
def rbars (l : List Tok) : Nat → List Ct → RdS → List Ct × RdS
 | 0, cs, s => (cs, s)
 | k + 1, cs, s => if (rgot l kBar s).1 = true then rbars l k (cs ++ [(rctor l (rgot l kBar s).2).1]) (rctor l (rgot l kBar s).2).2 else (cs, s)
def rwayIn (l : List Tok) (s : RdS) : Bool × RdS := if (rgot l kIn s).1 = true then (true, (rgot l kIn s).2) else (false, rneed l kOut s)
def rdet (l : List Tok) (s : RdS) : Int × RdS :=
 if (rgot l kDet s).1 = true then (1, (rgot l kDet s).2)
 else if (rgot l kSemi2 s).1 = true then (2, (rgot l kSemi2 s).2)
 else if (rgot l kMulti s).1 = true then (3, (rgot l kMulti s).2)
 else if (rgot l kNon s).1 = true then (4, (rgot l kNon s).2)
 else (0, rfail 2 s)
def ritType (l : List Tok) (s : RdS) : It × RdS :=
 let w := rword l 1 s
 let v := rargs (rword l 2) l 10 [] w.2
 let c := rctor l (rneed l kEq v.2)
 let b := rbars l l.length [c.1] c.2
 ({ (default : It) with kind := 1, name := w.1, vars := v.1, ctors := b.1 }, b.2)
def ritPred (l : List Tok) (s : RdS) : It × RdS :=
 let w := rword l 1 s
 let v := rargs (rtype 66 l 1) l 10 [] w.2
 ({ (default : It) with kind := 2, name := w.1, types := v.1 }, v.2)
def ritMode (l : List Tok) (s : RdS) : It × RdS :=
 let w := rword l 1 s
 let v := rargs (rwayIn l) l 10 [] w.2
 let d := rdet l (rneed l kIs v.2)
 ({ (default : It) with kind := 3, name := w.1, ways := v.1, det := d.1 }, d.2)
def ritClause (l : List Tok) (s : RdS) : It × RdS :=
 let w := rword l 1 s
 let v := rargs (rterm 66 l 1) l 10 [] w.2
 if (rgot l kIf v.2).1 = true then ({ (default : It) with kind := 4, name := w.1, args := v.1, body := (rgoal 66 l 1 (rgot l kIf v.2).2).1 }, (rgoal 66 l 1 (rgot l kIf v.2).2).2)
 else ({ (default : It) with kind := 4, name := w.1, args := v.1, body := .mk 1 .none .none ⟨#[]⟩ [] [] }, v.2)
def ritem (l : List Tok) (s : RdS) : It × RdS :=
 if (rgot l kType s).1 = true then ritType l (rgot l kType s).2
 else if (rgot l kPred s).1 = true then ritPred l (rgot l kPred s).2
 else if (rgot l kMode s).1 = true then ritMode l (rgot l kMode s).2
 else ritClause l s
def ritems (l : List Tok) : Nat → List It → RdS → List It × RdS
 | 0, is, s => (is, s)
 | k + 1, is, s => if rend l s = true then (is, s) else if is.length = 512 then (is, rfail 4 s) else ritems l k (is ++ [(ritem l s).1]) (rneed l kDot (ritem l s).2)
def rdone (l : List Tok) (s : RdS) : RdS := if s.err = 0 ∧ s.pos < l.length then ⟨s.pos, 2⟩ else s
/-- The items of a row of tokens; the error's number. -/
def rsource (l : List Tok) (e : Int) : List It × Int :=
 let r := ritems l (l.length + 1) [] ⟨0, e⟩
 if (rdone l r.2).err ≠ 0 then ([], (rdone l r.2).err) else (r.1, 0)
theorem rargs_steps {α : Type} {p : RdS → α × RdS} {l : List Tok} (hp : Steps l p) (k : Nat) (xs : List α) : Steps l (rargs p l k xs) := ⟨rargs_le hp.le k xs, rargs_ge hp.ge k xs⟩
theorem rword_steps (l : List Tok) (k : Int) : Steps l (rword l k) := ⟨fun _ h => rword_le h, rword_ge l k⟩
theorem rctor_steps (l : List Tok) : Steps l (rctor l) :=
 ⟨fun s h => (rargs_steps (rtype_steps l 66 1) 10 []).le _ (rword_le h), fun s => Nat.le_trans (rword_ge l 1 s) ((rargs_steps (rtype_steps l 66 1) 10 []).ge _)⟩
theorem rbars_steps (l : List Tok) : ∀ (k : Nat) (cs : List Ct), Steps l (rbars l k cs)
 | 0, cs => ⟨fun s h => h, fun s => Nat.le_refl _⟩
 | k + 1, cs => by
  refine ⟨fun s h => ?_, fun s => ?_⟩
  ·simp only [rbars]; split
   ·exact (rbars_steps l k _).le _ ((rctor_steps l).le _ (rgot_le h))
   ·exact h
  ·simp only [rbars]; split
   ·exact Nat.le_trans (rgot_ge ..) (Nat.le_trans ((rctor_steps l).ge _) ((rbars_steps l k _).ge _))
   ·exact Nat.le_refl _
theorem rwayIn_steps (l : List Tok) : Steps l (rwayIn l) := by
 refine ⟨fun s h => ?_, fun s => ?_⟩
 ·unfold rwayIn; split
  ·exact rgot_le h
  ·exact rneed_le h
 ·unfold rwayIn; split
  ·exact rgot_ge ..
  ·exact rneed_ge ..
theorem rdet_steps (l : List Tok) : Steps l (rdet l) := by
 refine ⟨fun s h => ?_, fun s => ?_⟩
 ·unfold rdet; repeat' split
  ·exact rgot_le h
  ·exact rgot_le h
  ·exact rgot_le h
  ·exact rgot_le h
  ·rw [rfail_pos]; exact h
 ·unfold rdet; repeat' split
  ·exact rgot_ge ..
  ·exact rgot_ge ..
  ·exact rgot_ge ..
  ·exact rgot_ge ..
  ·rw [rfail_pos]; exact Nat.le_refl _
theorem ritType_steps (l : List Tok) : Steps l (ritType l) := by
 refine ⟨fun s h => ?_, fun s => ?_⟩
 ·exact (rbars_steps l _ _).le _ ((rctor_steps l).le _ (rneed_le ((rargs_steps (rword_steps l 2) 10 []).le _ (rword_le h))))
 ·exact Nat.le_trans (rword_ge ..) (Nat.le_trans ((rargs_steps (rword_steps l 2) 10 []).ge _) (Nat.le_trans (rneed_ge ..) (Nat.le_trans ((rctor_steps l).ge _) ((rbars_steps l _ _).ge _))))
theorem ritPred_steps (l : List Tok) : Steps l (ritPred l) := by
 refine ⟨fun s h => ?_, fun s => ?_⟩
 ·exact (rargs_steps (rtype_steps l 66 1) 10 []).le _ (rword_le h)
 ·exact Nat.le_trans (rword_ge ..) ((rargs_steps (rtype_steps l 66 1) 10 []).ge _)
theorem ritMode_steps (l : List Tok) : Steps l (ritMode l) := by
 refine ⟨fun s h => ?_, fun s => ?_⟩
 ·exact (rdet_steps l).le _ (rneed_le ((rargs_steps (rwayIn_steps l) 10 []).le _ (rword_le h)))
 ·exact Nat.le_trans (rword_ge ..) (Nat.le_trans ((rargs_steps (rwayIn_steps l) 10 []).ge _) (Nat.le_trans (rneed_ge ..) ((rdet_steps l).ge _)))
theorem rgoal_steps (l : List Tok) (f n : Nat) : Steps l (rgoal f l n) := rgoalW_steps (rprim_steps l f n)
theorem ritClause_steps (l : List Tok) : Steps l (ritClause l) := by
 refine ⟨fun s h => ?_, fun s => ?_⟩
 ·have h1 := (rargs_steps (rterm_steps l 66 1) 10 []).le _ (rword_le (kind := 1) h)
  simp only [ritClause]; split
  ·exact (rgoal_steps l 66 1).le _ (rgot_le h1)
  ·exact h1
 ·have h1 := Nat.le_trans (rword_ge l 1 s) ((rargs_steps (rterm_steps l 66 1) 10 []).ge _)
  simp only [ritClause]; split
  ·exact Nat.le_trans h1 (Nat.le_trans (rgot_ge ..) ((rgoal_steps l 66 1).ge _))
  ·exact h1
theorem ritem_steps (l : List Tok) : Steps l (ritem l) := by
 refine ⟨fun s h => ?_, fun s => ?_⟩
 ·unfold ritem; repeat' split
  ·exact (ritType_steps l).le _ (rgot_le h)
  ·exact (ritPred_steps l).le _ (rgot_le h)
  ·exact (ritMode_steps l).le _ (rgot_le h)
  ·exact (ritClause_steps l).le _ h
 ·unfold ritem; repeat' split
  ·exact Nat.le_trans (rgot_ge ..) ((ritType_steps l).ge _)
  ·exact Nat.le_trans (rgot_ge ..) ((ritPred_steps l).ge _)
  ·exact Nat.le_trans (rgot_ge ..) ((ritMode_steps l).ge _)
  ·exact (ritClause_steps l).ge _
end Go.Aug

/- The reference's reader: a constructor: the walk. -/
namespace Go.Aug
open Nat renaming reduceBEq → zA, reduceLT → zB, reduceAdd → zC, reduceSub → zD, reduceMul → zE, reduceLeDiff → zF
open Int renaming reduceLE → zG
open Go.Proofs
set_option maxRecDepth 100000
set_option linter.unusedSimpArgs false
attribute [local irreducible] hid andK letA onSome onVar onArr arrOnly onInt onBool onFunc onTup idxA ldV ldD addO appTo fillL slA srcK nilQ retW gif sgd sguard svc sops sdops sagain aopO aLoad aStore aBin aUn aConv aLen aIndexAddr aIndex aIndexAddrS aIndexS aSlice aAppend aBuild aBuildSlice aMakeSlice aField aFieldOf aCallOp deepK deepL frzM putE newK newV growV ACall roundQ thenQ inBlockQ sret cnd szs nilC onMap onRow aLookup aMapUpdate aMakeMap
attribute [local go_sem] Int.natCast_zero
/-- A row while it is read. -/
structure RowX (α : Type) where
 k : Nat
 xs : List α
 s : RdS
 a : A
 R : Heap
structure RowJ {α : Type} (H : Heap) (ks : List Nat) (E : TypeId) (sz : Nat) (dd : α → D) (p : RdS → α × RdS) (l : List Tok) (s0 : RdS) (x : RowX α) : Prop where
 acc : Acc H ks E sz (x.xs.map dd) x.a x.R
 le : x.s.pos ≤ l.length
 run : rargs p l x.k x.xs x.s = rargs p l 10 [] s0
 sum : x.k + x.xs.length = 10
 few : x.s.err = 0 → x.xs.length ≤ 8
 nine : x.xs.length ≤ 9
section
variable {α : Type} {H : Heap} {ks : List Nat} {E : TypeId} {sz : Nat} {dd : α → D} {p : RdS → α × RdS} {l : List Tok} {s0 : RdS} {x : RowX α}
theorem RowJ.first (hs : s0.pos ≤ l.length) : RowJ H ks E sz dd p l s0 ⟨10, [], s0, .nils, H⟩ := ⟨.nils .., hs, rfl, rfl, fun _ => by simp, by simp⟩
theorem RowJ.stop (h : RowJ H ks E sz dd p l s0 x) (he : x.s.err ≠ 0) : rargs p l 10 [] s0 = (x.xs, x.s) := by rw [← h.run, rargs_stop he]
theorem RowJ.done (h : RowJ H ks E sz dd p l s0 x) (he : x.s.err = 0) (hm : (rmore l x.xs.length x.s).1 = false) : rargs p l 10 [] s0 = (x.xs, (rmore l x.xs.length x.s).2) := by
 rw [← h.run]
 obtain ⟨k, hk⟩ : ∃ k, x.k = k + 1 := ⟨x.k - 1, by have := h.sum; have := h.nine; omega⟩
 rw [hk]; simp [rargs, he, hm]
theorem RowJ.next (h : RowJ H ks E sz dd p l s0 x) (hp : Steps l p) (hend : ∀ s, rend l s = true → (p s).2.err ≠ 0) (he : x.s.err = 0) (hm : (rmore l x.xs.length x.s).1 = true) {a' : A} {R' : Heap}
  (hacc : Acc H ks E sz ((x.xs ++ [(p (rmore l x.xs.length x.s).2).1]).map dd) a' R') : RowJ H ks E sz dd p l s0 ⟨x.k - 1, x.xs ++ [(p (rmore l x.xs.length x.s).2).1], (p (rmore l x.xs.length x.s).2).2, a', R'⟩ ∧ x.k - 1 < x.k := by
 obtain ⟨k, hk⟩ : ∃ k, x.k = k + 1 := ⟨x.k - 1, by have := h.sum; have := h.nine; omega⟩
 have hrun := h.run
 have hsum := h.sum
 have hfew := h.few he
 rw [hk] at hrun hsum ⊢
 refine ⟨⟨hacc, hp.le _ (rmore_le h.le), ?_, ?_, ?_, ?_⟩, by omega⟩
 ·rw [← hrun]; simp [rargs, he, hm]
 ·simp only [List.length_append, List.length_cons, List.length_nil]; omega
 ·intro he'
  simp only [List.length_append, List.length_cons, List.length_nil]
  rcases Nat.lt_or_ge x.xs.length 8 with h8 | h8
  ·omega
  ·exact absurd he' (hend _ ((rmore_true hm).2.2 (by omega)))
 ·simp only [List.length_append, List.length_cons, List.length_nil]; omega
end
set_option maxHeartbeats 4000000 in
theorem ctor_ok {eb : EbG} (H : Heap) (r : Nat) (l : List Tok) (s : RdS) (h : RdAt H r l s) (K : A → Heap → Prop) (hK : K (.d (rctor l s).1.d) (rset H r l (rctor l s).2)) :
  ACall Tryd.prog (seatV eb) 115 [.ref r 0] H K := by
 refine ACall.hp_in h.at_ ?_
 refine ACall.by mixed fn115 (by simp) ?_
 conv in s115 => cbv
 refine svc_start ?_
 simp -dsimp (maxDischargeDepth := 9) only [go_sem, zA, zB, zC, zD, zE, zF, zG, gS]
 refine newK_hp (fun b4 f4 => ?_)
 simp only [off_cons, off_nil] at f4
 simp -dsimp (maxDischargeDepth := 9) only [go_sem, zA, zB, zC, zD, zE, zF, zG, gS, f4]
 refine word_ok _ r l s 1 (h.len h.le (by simp only [hpS, eq_self, implies_true, f4])) _ ?_
 have hle1 := rword_le (kind := 1) h.le
 simp only [rctor] at hK
 generalize (rword l 1 s).1 = w at hK ⊢
 generalize (rword l 1 s).2 = s1 at hK hle1 ⊢
 simp -dsimp (maxDischargeDepth := 9) only [go_sem, zA, zB, zC, zD, zE, zF, zG, gS, f4]
 refine newK_hp (fun b5 f5 => ?_)
 simp only [off_cons, off_nil] at f5
 simp -dsimp (maxDischargeDepth := 9) only [go_sem, zA, zB, zC, zD, zE, zF, zG, gS, f4, f5]
 refine (fun (key : ∀ (xs' : List Ty) (s' : RdS) (a' : A) (R' : Heap), Acc H [r, b4, b5] 135 3 (xs'.map Ty.d) a' R' → rargs (rtype 66 l 1) l 10 [] s1 = (xs', s') → (?T : List Ty → RdS → A → Heap → Prop) xs' s' a' R') => ?main) ?rest
 case main =>
  refine svc_loop (X := RowX Ty) (fun x => [(0, .ref r 0), (2, .ref b4 0), (3, .ref b5 0)])
   (fun x G => G = hp x.R [(r, .var (rdA l x.s)), (b4, .var [.d (.str ⟨#[]⟩), .nils]), (b5, .var [.d (.str w), x.a])] ∧ RowJ H [r, b4, b5] 135 3 Ty.d (rtype 66 l 1) l s1 x)
   (fun x => x.k) ⟨10, [], s1, .nils, H⟩ _ ⟨rfl, RowJ.first hle1⟩ (by simp -dsimp (maxDischargeDepth := 9) only [go_sem, zA, zB, zC, zD, zE, zF, zG, gS]) (leH_hp (by simp only [hpS, eq_self, implies_true, f4, f5]) (by simp only [hpS, eq_self, implies_true, f4, f5])) ?_
  rintro ⟨k, xs, s2, a, R⟩ G ⟨rfl, hJ⟩
  have hle2 := hJ.le
  have hone := hJ.acc.one
  have hok : okK [r, b4, b5] R [(r, .var (rdA l s2)), (b4, .var [.d (.str ⟨#[]⟩), .nils]), (b5, .var [.d (.str w), a])] := by simp only [hpS, eq_self, implies_true, f4, f5]
  simp only at hle2 hone
  simp -dsimp (maxDischargeDepth := 9) only [go_sem, zA, zB, zC, zD, zE, zF, zG, gS, rdA, f4, f5]
  refine gif_split (fun h2 => ?_) (fun h2 => ?_)
  ·have h2' : s2.err = 0 := of_decide_eq_true h2
   simp -dsimp (maxDischargeDepth := 9) only [go_sem, zA, zB, zC, zD, zE, zF, zG, gS, f4, f5, h2]
   refine andK_split (hJ.acc.lenable (by simp -dsimp (maxDischargeDepth := 9) only [go_sem, zA, zB, zC, zD, zE, zF, zG, gS])) ?_
   rw [hJ.acc.len hok]
   simp -dsimp (maxDischargeDepth := 9) only [go_sem, zA, zB, zC, zD, zE, zF, zG, gS, f4, f5]
   refine more_ok _ r l s2 xs.length (h.len hle2 (by simp only [hpS, eq_self, implies_true, f4, f5])) _ ?_
   cases hm : (rmore l xs.length s2).1 with
   | false =>
    have hfin := hJ.done h2' hm
    generalize (rmore l xs.length s2).2 = s3 at hfin ⊢
    simp -dsimp (maxDischargeDepth := 9) only [go_sem, zA, zB, zC, zD, zE, zF, zG, gS, f4, f5]
    exact key xs s3 a R hJ.acc hfin
   | true =>
    simp -dsimp (maxDischargeDepth := 9) only [go_sem, zA, zB, zC, zD, zE, zF, zG, gS, f4, f5]
    have hle3 := rmore_le (n := xs.length) hle2
    refine type_ok 66 _ r l _ 1 (by omega) (by omega) (h.len hle3 (by simp only [hpS, eq_self, implies_true, f4, f5])) _ ?_
    have hnext := fun a' R' hacc => hJ.next (rtype_steps l 66 1) (fun s hs => rtype_end (by omega) hs) h2' hm (a' := a') (R' := R') hacc
    simp only at hnext
    generalize (rmore l xs.length s2).2 = s3 at hnext ⊢
    generalize (rtype 66 l 1 s3).1 = t at hnext ⊢
    generalize (rtype 66 l 1 s3).2 = s4 at hnext ⊢
    obtain ⟨tv, tn, ta⟩ := t
    simp -dsimp (maxDischargeDepth := 9) only [go_sem, zA, zB, zC, zD, zE, zF, zG, gS, f4, f5, Ty.d, Ty.cs]
    refine newV_hp (fun b6 v6 f6 w6 => ?_)
    simp only [off_cons, off_nil] at f6
    simp -dsimp (maxDischargeDepth := 9) only [go_sem, zA, zB, zC, zD, zE, zF, zG, gS, f4, f5, f6]
    have hsz := hJ.nine
    simp only at hsz
    refine hJ.acc.appTo (by simp only [hpS, eq_self, implies_true, f4, f5, f6]) (by simp only [hpS, eq_self, implies_true, f4]) (by simp only [List.length_map, List.length_cons, List.length_nil]; omega) (fun a' R' hacc' hn => ?_)
    have hone' := hacc'.one
    have f6' := hn b6 (by simp only [hpS, eq_self, implies_true, f4, f5, f6]) f6.2.2.2.2.2.2
    rw [show xs.map Ty.d ++ [D.agg [D.bool tv, D.str tn, D.slice (Ty.ds ta)]] = (xs ++ [Ty.mk tv tn ta]).map Ty.d by simp [Ty.d, Ty.cs]] at hacc'
    simp -dsimp (maxDischargeDepth := 9) only [go_sem, zA, zB, zC, zD, zE, zF, zG, gS, f4, f5, f6, hone']
    refine roundQ_next ⟨k - 1, xs ++ [.mk tv tn ta], s4, a', R'⟩ _ ⟨rfl, (hnext a' R' hacc').1⟩ (hnext a' R' hacc').2 (by simp -dsimp (maxDischargeDepth := 9) only [go_sem, zA, zB, zC, zD, zE, zF, zG, gS]) (leH_hp (by simp only [hpS, eq_self, implies_true, f4, f5, f6, f6']) (by simp only [hpS, eq_self, implies_true, f4, f5, f6, f6']))
  ·have h2' : s2.err ≠ 0 := of_decide_eq_false h2
   simp -dsimp (maxDischargeDepth := 9) only [go_sem, zA, zB, zC, zD, zE, zF, zG, gS, f4, f5, h2]
   exact key xs s2 a R hJ.acc (hJ.stop h2')
 case rest =>
  intro xs' s' a' R' hacc hfin
  rw [hfin] at hK
  simp -dsimp (maxDischargeDepth := 9) only [go_sem, zA, zB, zC, zD, zE, zF, zG, gS, f4, f5, hacc.allD, hacc.one]
  refine retW_deep ?_
  simp -dsimp (maxDischargeDepth := 9) only [go_sem, zA, zB, zC, zD, zE, zF, zG, gS, f4, f5]
  refine hacc.deep (by simp only [hpS, eq_self, implies_true, f4, f5]) (fun R'' hle'' hn => ?_)
  simp -dsimp (maxDischargeDepth := 9) only [go_sem, zA, zB, zC, zD, zE, zF, zG, gS, f4, f5]
  exact retW_drop (G := rset H r l s') (leH_hp2 (l1 := [(r, .var (rdA l s'))]) hle'' (by simp only [hpS, eq_self, implies_true, f4, f5]) (by simp only [hpS, eq_self, implies_true, f4, f5])) (retW_is hK)
end Go.Aug

/- The reference's reader: an item: the walk (printed by mkK.py). -/
namespace Go.Aug
open Nat renaming reduceBEq → zA, reduceLT → zB, reduceAdd → zC, reduceSub → zD, reduceMul → zE, reduceLeDiff → zF
open Int renaming reduceLE → zG
open Go.Proofs
set_option maxRecDepth 100000
set_option linter.unusedSimpArgs false
attribute [local irreducible] hid andK letA onSome onVar onArr arrOnly onInt onBool onFunc onTup idxA ldV ldD addO appTo fillL slA srcK nilQ retW gif sgd sguard svc sops sdops sagain aopO aLoad aStore aBin aUn aConv aLen aIndexAddr aIndex aIndexAddrS aIndexS aSlice aAppend aBuild aBuildSlice aMakeSlice aField aFieldOf aCallOp deepK deepL frzM putE newK newV growV ACall roundQ thenQ inBlockQ sret cnd szs nilC onMap onRow aLookup aMapUpdate aMakeMap
attribute [local go_sem] Int.natCast_zero
theorem rword_end {l : List Tok} {k : Int} {s : RdS} (h : rend l s = true) : (rword l k s).2.err ≠ 0 := by
 have : rword l k s = (⟨#[]⟩, rfail 2 s) := by simp [rword, h]
 rw [this]; exact rfail_err (by decide) s
theorem rgot_end {l : List Tok} {t : ByteArray} {s : RdS} (h : rend l s = true) : rgot l t s = (false, s) := by
 simp [rgot, ris, h]
theorem rneed_end {l : List Tok} {t : ByteArray} {s : RdS} (h : rend l s = true) : (rneed l t s).err ≠ 0 := by
 unfold rneed
 rw [rgot_end h]
 split
 ·simp only [Bool.false_eq_true, if_false]; exact rfail_err (by decide) s
 ·assumption
theorem rwayIn_end {l : List Tok} {s : RdS} (h : rend l s = true) : (rwayIn l s).2.err ≠ 0 := by
 unfold rwayIn
 rw [rgot_end h]
 simp only [Bool.false_eq_true, if_false]
 exact rneed_end h
set_option maxHeartbeats 16000000 in
theorem item_ok {eb : EbG} (H : Heap) (r : Nat) (l : List Tok) (s : RdS) (h : RdAt H r l s) (K : A → Heap → Prop) (hK : K (.d (ritem l s).1.d) (rset H r l (ritem l s).2)) :
  ACall Tryd.prog (seatV eb) 61 [.ref r 0] H K := by
 refine ACall.hp_in h.at_ ?_
 refine ACall.by mixed fn61 (by simp) ?_
 conv in s61 => cbv
 refine svc_start ?_
 simp -dsimp (maxDischargeDepth := 9) only [go_sem, zA, zB, zC, zD, zE, zF, zG, gS]
 refine newK_hp (fun b2 f2 => ?_)
 simp only [off_cons, off_nil] at f2
 simp -dsimp (maxDischargeDepth := 9) only [go_sem, zA, zB, zC, zD, zE, zF, zG, gS, f2]
 refine newK_hp (fun b3 f3 => ?_)
 simp only [off_cons, off_nil] at f3
 simp -dsimp (maxDischargeDepth := 9) only [go_sem, zA, zB, zC, zD, zE, zF, zG, gS, f2, f3]
 refine got_ok _ r l s kType (h.len h.le (by simp only [hpS, eq_self, implies_true, f2, f3])) _ ?_
 have hle0 := h.le
 cases hg1 : (rgot l kType s).1 with
 | true =>
  simp only [ritem, hg1, if_true, ritType] at hK
  have hle1 := rgot_le (t := kType) h.le
  simp -dsimp (maxDischargeDepth := 9) only [go_sem, zA, zB, zC, zD, zE, zF, zG, gS, f2, f3]
  refine word_ok _ r l _ 1 (h.len hle1 (by simp only [hpS, eq_self, implies_true, f2, f3])) _ ?_
  have hle5 := rword_le (kind := 1) hle1
  generalize (rword l 1 (rgot l kType s).2).1 = w at hK ⊢
  generalize (rword l 1 (rgot l kType s).2).2 = s5 at hK hle5 ⊢
  simp -dsimp (maxDischargeDepth := 9) only [go_sem, zA, zB, zC, zD, zE, zF, zG, gS, f2, f3]

  refine (fun (key : ∀ (xs' : List ByteArray) (s' : RdS) (a' : A) (R' : Heap), Acc H [r, b2, b3] 9 1 (xs'.map D.str) a' R' → rargs (rword l 2) l 10 [] s5 = (xs', s') → (?T1 : List ByteArray → RdS → A → Heap → Prop) xs' s' a' R') => ?main) ?rest
  case main =>
   refine svc_loop (X := RowX ByteArray) (fun x => [(0, .ref r 0), (2, .ref b2 0), (3, .ref b3 0)])
    (fun x G => G = hp x.R [(r, .var (rdA l x.s)), (b2, .var [.d (.int .i64 0), .d (.str ⟨#[]⟩), .nils, .nils, .nils, .nils, .d (.int .i64 0), .nils, .d (.int .i64 0), .d (.int .i64 0), .d (.str ⟨#[]⟩), .d (.int .i64 0), .nils, .d (.int .i64 0), .d (.str ⟨#[]⟩), .d (.int .i64 0), .nils, .d (.str ⟨#[]⟩), .nils, .nils]), (b3, .var [.d (.int .i64 1), .d (.str w), x.a, .nils, .nils, .nils, .d (.int .i64 0), .nils, .d (.int .i64 0), .d (.int .i64 0), .d (.str ⟨#[]⟩), .d (.int .i64 0), .nils, .d (.int .i64 0), .d (.str ⟨#[]⟩), .d (.int .i64 0), .nils, .d (.str ⟨#[]⟩), .nils, .nils])] ∧ RowJ H [r, b2, b3] 9 1 D.str (rword l 2) l s5 x)
    (fun x => x.k) ⟨10, [], s5, .nils, H⟩ _ ⟨rfl, RowJ.first hle5⟩ (by simp -dsimp (maxDischargeDepth := 9) only [go_sem, zA, zB, zC, zD, zE, zF, zG, gS]) (leH_hp (by simp only [hpS, eq_self, implies_true, f2, f3]) (by simp only [hpS, eq_self, implies_true, f2, f3])) ?_
   rintro ⟨k, xs, s2, a, R⟩ G ⟨rfl, hJ⟩
   have hle2 := hJ.le
   have hone := hJ.acc.one
   have hok : okK [r, b2, b3] R [(r, .var (rdA l s2)), (b2, .var [.d (.int .i64 0), .d (.str ⟨#[]⟩), .nils, .nils, .nils, .nils, .d (.int .i64 0), .nils, .d (.int .i64 0), .d (.int .i64 0), .d (.str ⟨#[]⟩), .d (.int .i64 0), .nils, .d (.int .i64 0), .d (.str ⟨#[]⟩), .d (.int .i64 0), .nils, .d (.str ⟨#[]⟩), .nils, .nils]), (b3, .var [.d (.int .i64 1), .d (.str w), a, .nils, .nils, .nils, .d (.int .i64 0), .nils, .d (.int .i64 0), .d (.int .i64 0), .d (.str ⟨#[]⟩), .d (.int .i64 0), .nils, .d (.int .i64 0), .d (.str ⟨#[]⟩), .d (.int .i64 0), .nils, .d (.str ⟨#[]⟩), .nils, .nils])] := by simp only [hpS, eq_self, implies_true, f2, f3]
   simp only at hle2 hone
   simp -dsimp (maxDischargeDepth := 9) only [go_sem, zA, zB, zC, zD, zE, zF, zG, gS, rdA, f2, f3]
   refine gif_split (fun h2 => ?_) (fun h2 => ?_)
   ·have h2' : s2.err = 0 := of_decide_eq_true h2
    simp -dsimp (maxDischargeDepth := 9) only [go_sem, zA, zB, zC, zD, zE, zF, zG, gS, f2, f3, h2]
    refine andK_split (hJ.acc.lenable (by simp -dsimp (maxDischargeDepth := 9) only [go_sem, zA, zB, zC, zD, zE, zF, zG, gS])) ?_
    rw [hJ.acc.len hok]
    simp -dsimp (maxDischargeDepth := 9) only [go_sem, zA, zB, zC, zD, zE, zF, zG, gS, f2, f3]
    refine more_ok _ r l s2 xs.length (h.len hle2 (by simp only [hpS, eq_self, implies_true, f2, f3])) _ ?_
    cases hm : (rmore l xs.length s2).1 with
    | false =>
     have hfin := hJ.done h2' hm
     generalize (rmore l xs.length s2).2 = s3 at hfin ⊢
     simp -dsimp (maxDischargeDepth := 9) only [go_sem, zA, zB, zC, zD, zE, zF, zG, gS, f2, f3]
     exact key xs s3 a R hJ.acc hfin
    | true =>
     simp -dsimp (maxDischargeDepth := 9) only [go_sem, zA, zB, zC, zD, zE, zF, zG, gS, f2, f3]
     have hle3 := rmore_le (n := xs.length) hle2
     have hsz := hJ.nine
     simp only at hsz
     have hnext := fun a' R' hacc => hJ.next (rword_steps l 2) (fun s hs => rword_end hs) h2' hm (a' := a') (R' := R') hacc
     simp only at hnext
     generalize (rmore l xs.length s2).2 = s3 at hnext hle3 ⊢
     refine word_ok _ r l _ 2 (h.len hle3 (by simp only [hpS, eq_self, implies_true, f2, f3])) _ ?_
     generalize (rword l 2 s3).1 = t at hnext ⊢
     generalize (rword l 2 s3).2 = s4 at hnext ⊢
     simp -dsimp (maxDischargeDepth := 9) only [go_sem, zA, zB, zC, zD, zE, zF, zG, gS, f2, f3]

     refine newV_hp (fun b6 v6 f6 w6 => ?_)
     simp only [off_cons, off_nil] at f6
     simp -dsimp (maxDischargeDepth := 9) only [go_sem, zA, zB, zC, zD, zE, zF, zG, gS, f2, f3, f6]
     refine hJ.acc.appTo (by simp only [hpS, eq_self, implies_true, f2, f3, f6]) (by simp only [hpS, eq_self, implies_true, f2]) (by simp only [List.length_map, List.length_cons, List.length_nil]; omega) (fun a' R' hacc' hn => ?_)
     have hone' := hacc'.one
     have f6' := hn b6 (by simp only [hpS, eq_self, implies_true, f2, f3, f6]) f6.2.2.2.2.2.2
     rw [show xs.map D.str ++ [D.str t] = (xs ++ [t]).map D.str by simp] at hacc'
     simp -dsimp (maxDischargeDepth := 9) only [go_sem, zA, zB, zC, zD, zE, zF, zG, gS, f2, f3, f6, hone']
     refine roundQ_next ⟨k - 1, xs ++ [t], s4, a', R'⟩ _ ⟨rfl, (hnext a' R' hacc').1⟩ (hnext a' R' hacc').2 (by simp -dsimp (maxDischargeDepth := 9) only [go_sem, zA, zB, zC, zD, zE, zF, zG, gS]) (leH_hp (by simp only [hpS, eq_self, implies_true, f2, f3, f6, f6']) (by simp only [hpS, eq_self, implies_true, f2, f3, f6, f6']))
   ·have h2' : s2.err ≠ 0 := of_decide_eq_false h2
    simp -dsimp (maxDischargeDepth := 9) only [go_sem, zA, zB, zC, zD, zE, zF, zG, gS, f2, f3, h2]
    exact key xs s2 a R hJ.acc (hJ.stop h2')
  case rest =>
   intro xs' s' a' R' hacc hfin
   have hall : ∀ cs, It.d { (default : It) with kind := 1, name := w, vars := xs', ctors := cs } = .agg [.int .i64 1, .str w, .slice (xs'.map D.str), .slice (cs.map Ct.d), .slice [], .slice [], .int .i64 0, .slice [], .int .i64 0, .int .i64 0, .str ⟨#[]⟩, .int .i64 0, .slice [], .int .i64 0, .str ⟨#[]⟩, .int .i64 0, .slice [], .str ⟨#[]⟩, .slice [], .slice []] := fun cs => by
    simp [It.d, It.cs, Gl.cs, Tm.none, Tm.cs, Tm.ds, Gl.ds, default, instInhabitedIt]
   have hle6 : s'.pos ≤ l.length := by have := (rargs_steps (rword_steps l 2) 10 []).le _ hle5; rw [hfin] at this; exact this
   have hone := hacc.one
   rw [hfin] at hK
   simp only [hall] at hK
   try simp -dsimp (maxDischargeDepth := 9) only [go_sem, zA, zB, zC, zD, zE, zF, zG, gS, f2, f3]
   refine need_ok _ r l s' kEq (h.len hle6 (by simp only [hpS, eq_self, implies_true, f2, f3])) _ ?_
   have hle7 := rneed_le (t := kEq) hle6
   generalize rneed l kEq s' = s6 at hK hle7 ⊢
   simp -dsimp (maxDischargeDepth := 9) only [go_sem, zA, zB, zC, zD, zE, zF, zG, gS, f2, f3]
   refine ctor_ok _ r l s6 (h.len hle7 (by simp only [hpS, eq_self, implies_true, f2, f3])) _ ?_
   have hle8 := (rctor_steps l).le _ hle7
   have hge8 := (rctor_steps l).ge s6
   generalize (rctor l s6).1 = c at hK ⊢
   generalize (rctor l s6).2 = s7 at hK hle8 hge8 ⊢
   obtain ⟨cn, ca⟩ := c
   simp -dsimp (maxDischargeDepth := 9) only [go_sem, zA, zB, zC, zD, zE, zF, zG, gS, f2, f3, Ct.d, Ct.cs]
   refine newV_hp (fun b6 v6 f6 w6 => ?_)
   simp only [off_cons, off_nil] at f6
   simp -dsimp (maxDischargeDepth := 9) only [go_sem, zA, zB, zC, zD, zE, zF, zG, gS, f2, f3, f6]
   refine newV_hp (fun b8 v8 f8 w8 => ?_)
   simp only [off_cons, off_nil] at f8
   simp -dsimp (maxDischargeDepth := 9) only [go_sem, zA, zB, zC, zD, zE, zF, zG, gS, f2, f3, f6, f8]
   have hacc2 : Acc R' [r, b2, b3] 114 2 ([Ct.mk cn ca].map Ct.d) (.own b8 v8) (upd R' b8 (.arr 114 2 v8 [.agg [.str cn, .slice (ca.map Ty.d)]])) := Acc.new (by simp only [hpS, eq_self, implies_true, f8]) f8.2.2.2.2.2.2.2.2 w8
   refine svc_loop (X := Nat × List Ct × RdS × A × Heap) (fun x => [(0, .ref r 0), (2, .ref b2 0), (3, .ref b3 0)])
    (fun x G => G = hp x.2.2.2.2 [(r, .var (rdA l x.2.2.1)), (b2, .var [.d (.int .i64 0), .d (.str ⟨#[]⟩), .nils, .nils, .nils, .nils, .d (.int .i64 0), .nils, .d (.int .i64 0), .d (.int .i64 0), .d (.str ⟨#[]⟩), .d (.int .i64 0), .nils, .d (.int .i64 0), .d (.str ⟨#[]⟩), .d (.int .i64 0), .nils, .d (.str ⟨#[]⟩), .nils, .nils]), (b3, .var [.d (.int .i64 1), .d (.str w), a', x.2.2.2.1, .nils, .nils, .d (.int .i64 0), .nils, .d (.int .i64 0), .d (.int .i64 0), .d (.str ⟨#[]⟩), .d (.int .i64 0), .nils, .d (.int .i64 0), .d (.str ⟨#[]⟩), .d (.int .i64 0), .nils, .d (.str ⟨#[]⟩), .nils, .nils])] ∧ Acc R' [r, b2, b3] 114 2 (x.2.1.map Ct.d) x.2.2.2.1 x.2.2.2.2 ∧ x.2.2.1.pos ≤ l.length ∧ x.2.1.length ≤ x.2.2.1.pos + 1 ∧ l.length ≤ x.1 + x.2.2.1.pos ∧ rbars l x.1 x.2.1 x.2.2.1 = rbars l l.length [Ct.mk cn ca] s7)
    (fun x => x.1) (l.length, [Ct.mk cn ca], s7, .own b8 v8, upd R' b8 (.arr 114 2 v8 [.agg [.str cn, .slice (ca.map Ty.d)]])) _ ⟨rfl, hacc2, hle8, by simp, by simp, rfl⟩ (by simp -dsimp (maxDischargeDepth := 9) only [go_sem, zA, zB, zC, zD, zE, zF, zG, gS]) (by rw [hp_base (by simp only [hpS, eq_self, implies_true, f8])]; exact (leH_hp (by simp only [hpS, eq_self, implies_true, f2, f3, f6, f8, setL_cons, setL_nil]) (by simp only [hpS, eq_self, implies_true, f2, f3, f6, f8, setL_cons, setL_nil]))) ?_
   rintro ⟨k, cs, s8, a3, R3⟩ G ⟨rfl, hacc3, hle9, hcl, hfu, hrun⟩
   simp only at hacc3 hle9 hcl hfu hrun
   have hone3 := hacc3.one
   have hsh := h.short
   simp -dsimp (maxDischargeDepth := 9) only [go_sem, zA, zB, zC, zD, zE, zF, zG, gS, f2, f3]
   refine got_ok _ r l s8 kBar (h.len hle9 (by simp only [hpS, eq_self, implies_true, f2, f3])) _ ?_
   cases hg : (rgot l kBar s8).1 with
   | true =>
    obtain ⟨hz0, hz1, hz2⟩ := rgot_true hg
    obtain ⟨k, rfl⟩ : ∃ k', k = k' + 1 := ⟨k - 1, by omega⟩
    have hle10 := rgot_le (t := kBar) hle9
    have hrun' : rbars l k (cs ++ [(rctor l (rgot l kBar s8).2).1]) (rctor l (rgot l kBar s8).2).2 = rbars l l.length [Ct.mk cn ca] s7 := by rw [← hrun]; simp [rbars, hg]
    generalize (rgot l kBar s8).2 = s9 at hrun' hle10 hz1 ⊢
    simp -dsimp (maxDischargeDepth := 9) only [go_sem, zA, zB, zC, zD, zE, zF, zG, gS, f2, f3]
    refine ctor_ok _ r l s9 (h.len hle10 (by simp only [hpS, eq_self, implies_true, f2, f3])) _ ?_
    have hle11 := (rctor_steps l).le _ hle10
    have hge11 := (rctor_steps l).ge s9
    generalize (rctor l s9).1 = c at hrun' ⊢
    generalize (rctor l s9).2 = s10 at hrun' hle11 hge11 ⊢
    obtain ⟨dn, da⟩ := c
    simp -dsimp (maxDischargeDepth := 9) only [go_sem, zA, zB, zC, zD, zE, zF, zG, gS, f2, f3, Ct.d, Ct.cs]
    refine newV_hp (fun b7 v7 f7 w7 => ?_)
    simp only [off_cons, off_nil] at f7
    simp -dsimp (maxDischargeDepth := 9) only [go_sem, zA, zB, zC, zD, zE, zF, zG, gS, f2, f3, f7]
    refine hacc3.appTo (by simp only [hpS, eq_self, implies_true, f2, f3, f7]) (by simp only [hpS, eq_self, implies_true, f2]) (by simp only [List.length_map, List.length_cons, List.length_nil]; omega) (fun a4 R4 hacc4 hn4 => ?_)
    have hone4 := hacc4.one
    have f7' := hn4 b7 (by simp only [hpS, eq_self, implies_true, f2, f3, f7]) f7.2.2.2.2.2.2
    rw [show cs.map Ct.d ++ [D.agg [D.str dn, D.slice (da.map Ty.d)]] = (cs ++ [Ct.mk dn da]).map Ct.d by simp [Ct.d, Ct.cs]] at hacc4
    simp -dsimp (maxDischargeDepth := 9) only [go_sem, zA, zB, zC, zD, zE, zF, zG, gS, f2, f3, f7, hone4]
    refine roundQ_next (k, cs ++ [Ct.mk dn da], s10, a4, R4) (hp R4 [(r, .var (rdA l s10)), (b2, .var [.d (.int .i64 0), .d (.str ⟨#[]⟩), .nils, .nils, .nils, .nils, .d (.int .i64 0), .nils, .d (.int .i64 0), .d (.int .i64 0), .d (.str ⟨#[]⟩), .d (.int .i64 0), .nils, .d (.int .i64 0), .d (.str ⟨#[]⟩), .d (.int .i64 0), .nils, .d (.str ⟨#[]⟩), .nils, .nils]), (b3, .var [.d (.int .i64 1), .d (.str w), a', a4, .nils, .nils, .d (.int .i64 0), .nils, .d (.int .i64 0), .d (.int .i64 0), .d (.str ⟨#[]⟩), .d (.int .i64 0), .nils, .d (.int .i64 0), .d (.str ⟨#[]⟩), .d (.int .i64 0), .nils, .d (.str ⟨#[]⟩), .nils, .nils])]) ⟨rfl, hacc4, hle11, ?_, ?_, hrun'⟩ (Nat.lt_succ_self k) (by simp -dsimp (maxDischargeDepth := 9) only [go_sem, zA, zB, zC, zD, zE, zF, zG, gS]) (leH_hp (by simp only [hpS, eq_self, implies_true, f2, f3, f7, f7']) (by simp only [hpS, eq_self, implies_true, f2, f3, f7, f7']))
    ·simp only [List.length_append, List.length_cons, List.length_nil]; omega
    ·simp only; omega
   | false =>
    have hfin2 : rbars l l.length [Ct.mk cn ca] s7 = (cs, s8) := by
     rw [← hrun]; cases k with
     | zero => rfl
     | succ k => simp [rbars, hg]
    rw [hfin2] at hK
    rw [rgot_false hg]
    try simp -dsimp (maxDischargeDepth := 9) only [go_sem, zA, zB, zC, zD, zE, zF, zG, gS, f2, f3, hacc.allD]
    refine retW_deep ?_
    simp -dsimp (maxDischargeDepth := 9) only [go_sem, zA, zB, zC, zD, zE, zF, zG, gS, f2, f3]
    refine hacc.deep2 hacc3 (by simp only [hpS, eq_self, implies_true, f2, f3]) (fun R4 hacc4 hn4 => ?_)
    simp -dsimp (maxDischargeDepth := 9) only [go_sem, zA, zB, zC, zD, zE, zF, zG, gS, f2, f3]
    refine hacc4.deep (by simp only [hpS, eq_self, implies_true, f2, f3]) (fun R'' hle'' hn => ?_)
    simp -dsimp (maxDischargeDepth := 9) only [go_sem, zA, zB, zC, zD, zE, zF, zG, gS, f2, f3]
    exact retW_drop (G := rset H r l s8) (leH_hp2 (l1 := [(r, .var (rdA l s8))]) hle'' (by simp only [hpS, eq_self, implies_true, f2, f3]) (by simp only [hpS, eq_self, implies_true, f2, f3])) (retW_is hK)
 | false =>
  rw [rgot_false hg1]
  simp -dsimp (maxDischargeDepth := 9) only [go_sem, zA, zB, zC, zD, zE, zF, zG, gS, f2, f3]
  refine got_ok _ r l s kPred (h.len h.le (by simp only [hpS, eq_self, implies_true, f2, f3])) _ ?_
  cases hg2 : (rgot l kPred s).1 with
  | true =>
   simp only [ritem, hg1, hg2, Bool.false_eq_true, if_false, if_true, ritPred] at hK
   have hle1 := rgot_le (t := kPred) h.le
   simp -dsimp (maxDischargeDepth := 9) only [go_sem, zA, zB, zC, zD, zE, zF, zG, gS, f2, f3]
   refine word_ok _ r l _ 1 (h.len hle1 (by simp only [hpS, eq_self, implies_true, f2, f3])) _ ?_
   have hle5 := rword_le (kind := 1) hle1
   generalize (rword l 1 (rgot l kPred s).2).1 = w at hK ⊢
   generalize (rword l 1 (rgot l kPred s).2).2 = s5 at hK hle5 ⊢
   simp -dsimp (maxDischargeDepth := 9) only [go_sem, zA, zB, zC, zD, zE, zF, zG, gS, f2, f3]

   refine (fun (key : ∀ (xs' : List Ty) (s' : RdS) (a' : A) (R' : Heap), Acc H [r, b2, b3] 135 3 (xs'.map Ty.d) a' R' → rargs (rtype 66 l 1) l 10 [] s5 = (xs', s') → (?T2 : List Ty → RdS → A → Heap → Prop) xs' s' a' R') => ?main) ?rest
   case main =>
    refine svc_loop (X := RowX Ty) (fun x => [(0, .ref r 0), (2, .ref b2 0), (3, .ref b3 0)])
     (fun x G => G = hp x.R [(r, .var (rdA l x.s)), (b2, .var [.d (.int .i64 0), .d (.str ⟨#[]⟩), .nils, .nils, .nils, .nils, .d (.int .i64 0), .nils, .d (.int .i64 0), .d (.int .i64 0), .d (.str ⟨#[]⟩), .d (.int .i64 0), .nils, .d (.int .i64 0), .d (.str ⟨#[]⟩), .d (.int .i64 0), .nils, .d (.str ⟨#[]⟩), .nils, .nils]), (b3, .var [.d (.int .i64 2), .d (.str w), .nils, .nils, x.a, .nils, .d (.int .i64 0), .nils, .d (.int .i64 0), .d (.int .i64 0), .d (.str ⟨#[]⟩), .d (.int .i64 0), .nils, .d (.int .i64 0), .d (.str ⟨#[]⟩), .d (.int .i64 0), .nils, .d (.str ⟨#[]⟩), .nils, .nils])] ∧ RowJ H [r, b2, b3] 135 3 Ty.d (rtype 66 l 1) l s5 x)
     (fun x => x.k) ⟨10, [], s5, .nils, H⟩ _ ⟨rfl, RowJ.first hle5⟩ (by simp -dsimp (maxDischargeDepth := 9) only [go_sem, zA, zB, zC, zD, zE, zF, zG, gS]) (leH_hp (by simp only [hpS, eq_self, implies_true, f2, f3]) (by simp only [hpS, eq_self, implies_true, f2, f3])) ?_
    rintro ⟨k, xs, s2, a, R⟩ G ⟨rfl, hJ⟩
    have hle2 := hJ.le
    have hone := hJ.acc.one
    have hok : okK [r, b2, b3] R [(r, .var (rdA l s2)), (b2, .var [.d (.int .i64 0), .d (.str ⟨#[]⟩), .nils, .nils, .nils, .nils, .d (.int .i64 0), .nils, .d (.int .i64 0), .d (.int .i64 0), .d (.str ⟨#[]⟩), .d (.int .i64 0), .nils, .d (.int .i64 0), .d (.str ⟨#[]⟩), .d (.int .i64 0), .nils, .d (.str ⟨#[]⟩), .nils, .nils]), (b3, .var [.d (.int .i64 2), .d (.str w), .nils, .nils, a, .nils, .d (.int .i64 0), .nils, .d (.int .i64 0), .d (.int .i64 0), .d (.str ⟨#[]⟩), .d (.int .i64 0), .nils, .d (.int .i64 0), .d (.str ⟨#[]⟩), .d (.int .i64 0), .nils, .d (.str ⟨#[]⟩), .nils, .nils])] := by simp only [hpS, eq_self, implies_true, f2, f3]
    simp only at hle2 hone
    simp -dsimp (maxDischargeDepth := 9) only [go_sem, zA, zB, zC, zD, zE, zF, zG, gS, rdA, f2, f3]
    refine gif_split (fun h2 => ?_) (fun h2 => ?_)
    ·have h2' : s2.err = 0 := of_decide_eq_true h2
     simp -dsimp (maxDischargeDepth := 9) only [go_sem, zA, zB, zC, zD, zE, zF, zG, gS, f2, f3, h2]
     refine andK_split (hJ.acc.lenable (by simp -dsimp (maxDischargeDepth := 9) only [go_sem, zA, zB, zC, zD, zE, zF, zG, gS])) ?_
     rw [hJ.acc.len hok]
     simp -dsimp (maxDischargeDepth := 9) only [go_sem, zA, zB, zC, zD, zE, zF, zG, gS, f2, f3]
     refine more_ok _ r l s2 xs.length (h.len hle2 (by simp only [hpS, eq_self, implies_true, f2, f3])) _ ?_
     cases hm : (rmore l xs.length s2).1 with
     | false =>
      have hfin := hJ.done h2' hm
      generalize (rmore l xs.length s2).2 = s3 at hfin ⊢
      simp -dsimp (maxDischargeDepth := 9) only [go_sem, zA, zB, zC, zD, zE, zF, zG, gS, f2, f3]
      exact key xs s3 a R hJ.acc hfin
     | true =>
      simp -dsimp (maxDischargeDepth := 9) only [go_sem, zA, zB, zC, zD, zE, zF, zG, gS, f2, f3]
      have hle3 := rmore_le (n := xs.length) hle2
      have hsz := hJ.nine
      simp only at hsz
      have hnext := fun a' R' hacc => hJ.next (rtype_steps l 66 1) (fun s hs => rtype_end (by omega) hs) h2' hm (a' := a') (R' := R') hacc
      simp only at hnext
      generalize (rmore l xs.length s2).2 = s3 at hnext hle3 ⊢
      refine type_ok 66 _ r l _ 1 (by omega) (by omega) (h.len hle3 (by simp only [hpS, eq_self, implies_true, f2, f3])) _ ?_
      generalize (rtype 66 l 1 s3).1 = t at hnext ⊢
      generalize (rtype 66 l 1 s3).2 = s4 at hnext ⊢
      obtain ⟨tv, tn, ta⟩ := t
      simp -dsimp (maxDischargeDepth := 9) only [go_sem, zA, zB, zC, zD, zE, zF, zG, gS, f2, f3, Ty.d, Ty.cs]

      refine newV_hp (fun b6 v6 f6 w6 => ?_)
      simp only [off_cons, off_nil] at f6
      simp -dsimp (maxDischargeDepth := 9) only [go_sem, zA, zB, zC, zD, zE, zF, zG, gS, f2, f3, f6]
      refine hJ.acc.appTo (by simp only [hpS, eq_self, implies_true, f2, f3, f6]) (by simp only [hpS, eq_self, implies_true, f2]) (by simp only [List.length_map, List.length_cons, List.length_nil]; omega) (fun a' R' hacc' hn => ?_)
      have hone' := hacc'.one
      have f6' := hn b6 (by simp only [hpS, eq_self, implies_true, f2, f3, f6]) f6.2.2.2.2.2.2
      rw [show xs.map Ty.d ++ [D.agg [D.bool tv, D.str tn, D.slice (Ty.ds ta)]] = (xs ++ [Ty.mk tv tn ta]).map Ty.d by simp [Ty.d, Ty.cs]] at hacc'
      simp -dsimp (maxDischargeDepth := 9) only [go_sem, zA, zB, zC, zD, zE, zF, zG, gS, f2, f3, f6, hone']
      refine roundQ_next ⟨k - 1, xs ++ [Ty.mk tv tn ta], s4, a', R'⟩ _ ⟨rfl, (hnext a' R' hacc').1⟩ (hnext a' R' hacc').2 (by simp -dsimp (maxDischargeDepth := 9) only [go_sem, zA, zB, zC, zD, zE, zF, zG, gS]) (leH_hp (by simp only [hpS, eq_self, implies_true, f2, f3, f6, f6']) (by simp only [hpS, eq_self, implies_true, f2, f3, f6, f6']))
    ·have h2' : s2.err ≠ 0 := of_decide_eq_false h2
     simp -dsimp (maxDischargeDepth := 9) only [go_sem, zA, zB, zC, zD, zE, zF, zG, gS, f2, f3, h2]
     exact key xs s2 a R hJ.acc (hJ.stop h2')
   case rest =>
    intro xs' s' a' R' hacc hfin
    have hall : It.d { (default : It) with kind := 2, name := w, types := xs' } = .agg [.int .i64 2, .str w, .slice [], .slice [], .slice (xs'.map Ty.d), .slice [], .int .i64 0, .slice [], .int .i64 0, .int .i64 0, .str ⟨#[]⟩, .int .i64 0, .slice [], .int .i64 0, .str ⟨#[]⟩, .int .i64 0, .slice [], .str ⟨#[]⟩, .slice [], .slice []] := by
     simp [It.d, It.cs, Gl.cs, Tm.none, Tm.cs, Tm.ds, Gl.ds, default, instInhabitedIt]
    rw [hfin] at hK
    simp only [hall] at hK

    try simp -dsimp (maxDischargeDepth := 9) only [go_sem, zA, zB, zC, zD, zE, zF, zG, gS, f2, f3, hacc.allD, hacc.one]
    refine retW_deep ?_
    simp -dsimp (maxDischargeDepth := 9) only [go_sem, zA, zB, zC, zD, zE, zF, zG, gS, f2, f3]
    refine hacc.deep (by simp only [hpS, eq_self, implies_true, f2, f3]) (fun R'' hle'' hn => ?_)
    simp -dsimp (maxDischargeDepth := 9) only [go_sem, zA, zB, zC, zD, zE, zF, zG, gS, f2, f3]
    exact retW_drop (G := rset H r l s') (leH_hp2 (l1 := [(r, .var (rdA l s'))]) hle'' (by simp only [hpS, eq_self, implies_true, f2, f3]) (by simp only [hpS, eq_self, implies_true, f2, f3])) (retW_is hK)
  | false =>
   rw [rgot_false hg2]
   simp -dsimp (maxDischargeDepth := 9) only [go_sem, zA, zB, zC, zD, zE, zF, zG, gS, f2, f3]
   refine got_ok _ r l s kMode (h.len h.le (by simp only [hpS, eq_self, implies_true, f2, f3])) _ ?_
   cases hg3 : (rgot l kMode s).1 with
   | true =>
    simp only [ritem, hg1, hg2, hg3, Bool.false_eq_true, if_false, if_true, ritMode] at hK
    have hle1 := rgot_le (t := kMode) h.le
    simp -dsimp (maxDischargeDepth := 9) only [go_sem, zA, zB, zC, zD, zE, zF, zG, gS, f2, f3]
    refine word_ok _ r l _ 1 (h.len hle1 (by simp only [hpS, eq_self, implies_true, f2, f3])) _ ?_
    have hle5 := rword_le (kind := 1) hle1
    generalize (rword l 1 (rgot l kMode s).2).1 = w at hK ⊢
    generalize (rword l 1 (rgot l kMode s).2).2 = s5 at hK hle5 ⊢
    simp -dsimp (maxDischargeDepth := 9) only [go_sem, zA, zB, zC, zD, zE, zF, zG, gS, f2, f3]

    refine (fun (key : ∀ (xs' : List Bool) (s' : RdS) (a' : A) (R' : Heap), Acc H [r, b2, b3] 4 1 (xs'.map D.bool) a' R' → rargs (rwayIn l) l 10 [] s5 = (xs', s') → (?T3 : List Bool → RdS → A → Heap → Prop) xs' s' a' R') => ?main) ?rest
    case main =>
     refine svc_loop (X := RowX Bool) (fun x => [(0, .ref r 0), (2, .ref b2 0), (3, .ref b3 0)])
      (fun x G => G = hp x.R [(r, .var (rdA l x.s)), (b2, .var [.d (.int .i64 0), .d (.str ⟨#[]⟩), .nils, .nils, .nils, .nils, .d (.int .i64 0), .nils, .d (.int .i64 0), .d (.int .i64 0), .d (.str ⟨#[]⟩), .d (.int .i64 0), .nils, .d (.int .i64 0), .d (.str ⟨#[]⟩), .d (.int .i64 0), .nils, .d (.str ⟨#[]⟩), .nils, .nils]), (b3, .var [.d (.int .i64 3), .d (.str w), .nils, .nils, .nils, x.a, .d (.int .i64 0), .nils, .d (.int .i64 0), .d (.int .i64 0), .d (.str ⟨#[]⟩), .d (.int .i64 0), .nils, .d (.int .i64 0), .d (.str ⟨#[]⟩), .d (.int .i64 0), .nils, .d (.str ⟨#[]⟩), .nils, .nils])] ∧ RowJ H [r, b2, b3] 4 1 D.bool (rwayIn l) l s5 x)
      (fun x => x.k) ⟨10, [], s5, .nils, H⟩ _ ⟨rfl, RowJ.first hle5⟩ (by simp -dsimp (maxDischargeDepth := 9) only [go_sem, zA, zB, zC, zD, zE, zF, zG, gS]) (leH_hp (by simp only [hpS, eq_self, implies_true, f2, f3]) (by simp only [hpS, eq_self, implies_true, f2, f3])) ?_
     rintro ⟨k, xs, s2, a, R⟩ G ⟨rfl, hJ⟩
     have hle2 := hJ.le
     have hone := hJ.acc.one
     have hok : okK [r, b2, b3] R [(r, .var (rdA l s2)), (b2, .var [.d (.int .i64 0), .d (.str ⟨#[]⟩), .nils, .nils, .nils, .nils, .d (.int .i64 0), .nils, .d (.int .i64 0), .d (.int .i64 0), .d (.str ⟨#[]⟩), .d (.int .i64 0), .nils, .d (.int .i64 0), .d (.str ⟨#[]⟩), .d (.int .i64 0), .nils, .d (.str ⟨#[]⟩), .nils, .nils]), (b3, .var [.d (.int .i64 3), .d (.str w), .nils, .nils, .nils, a, .d (.int .i64 0), .nils, .d (.int .i64 0), .d (.int .i64 0), .d (.str ⟨#[]⟩), .d (.int .i64 0), .nils, .d (.int .i64 0), .d (.str ⟨#[]⟩), .d (.int .i64 0), .nils, .d (.str ⟨#[]⟩), .nils, .nils])] := by simp only [hpS, eq_self, implies_true, f2, f3]
     simp only at hle2 hone
     simp -dsimp (maxDischargeDepth := 9) only [go_sem, zA, zB, zC, zD, zE, zF, zG, gS, rdA, f2, f3]
     refine gif_split (fun h2 => ?_) (fun h2 => ?_)
     ·have h2' : s2.err = 0 := of_decide_eq_true h2
      simp -dsimp (maxDischargeDepth := 9) only [go_sem, zA, zB, zC, zD, zE, zF, zG, gS, f2, f3, h2]
      refine andK_split (hJ.acc.lenable (by simp -dsimp (maxDischargeDepth := 9) only [go_sem, zA, zB, zC, zD, zE, zF, zG, gS])) ?_
      rw [hJ.acc.len hok]
      simp -dsimp (maxDischargeDepth := 9) only [go_sem, zA, zB, zC, zD, zE, zF, zG, gS, f2, f3]
      refine more_ok _ r l s2 xs.length (h.len hle2 (by simp only [hpS, eq_self, implies_true, f2, f3])) _ ?_
      cases hm : (rmore l xs.length s2).1 with
      | false =>
       have hfin := hJ.done h2' hm
       generalize (rmore l xs.length s2).2 = s3 at hfin ⊢
       simp -dsimp (maxDischargeDepth := 9) only [go_sem, zA, zB, zC, zD, zE, zF, zG, gS, f2, f3]
       exact key xs s3 a R hJ.acc hfin
      | true =>
       simp -dsimp (maxDischargeDepth := 9) only [go_sem, zA, zB, zC, zD, zE, zF, zG, gS, f2, f3]
       have hle3 := rmore_le (n := xs.length) hle2
       have hsz := hJ.nine
       simp only at hsz
       have hnext := fun a' R' hacc => hJ.next (rwayIn_steps l) (fun s hs => rwayIn_end hs) h2' hm (a' := a') (R' := R') hacc
       simp only at hnext
       generalize (rmore l xs.length s2).2 = s3 at hnext hle3 ⊢
       refine got_ok _ r l s3 kIn (h.len hle3 (by simp only [hpS, eq_self, implies_true, f2, f3])) _ ?_
       cases hi : (rgot l kIn s3).1 with
       | true =>
        simp only [rwayIn, hi, if_true] at hnext
        generalize (rgot l kIn s3).2 = s4 at hnext ⊢
        simp -dsimp (maxDischargeDepth := 9) only [go_sem, zA, zB, zC, zD, zE, zF, zG, gS, f2, f3]
        refine newV_hp (fun b6 v6 f6 w6 => ?_)
        simp only [off_cons, off_nil] at f6
        simp -dsimp (maxDischargeDepth := 9) only [go_sem, zA, zB, zC, zD, zE, zF, zG, gS, f2, f3, f6]
        refine hJ.acc.appTo (by simp only [hpS, eq_self, implies_true, f2, f3, f6]) (by simp only [hpS, eq_self, implies_true, f2]) (by simp only [List.length_map, List.length_cons, List.length_nil]; omega) (fun a' R' hacc' hn => ?_)
        have hone' := hacc'.one
        have f6' := hn b6 (by simp only [hpS, eq_self, implies_true, f2, f3, f6]) f6.2.2.2.2.2.2
        rw [show xs.map D.bool ++ [D.bool true] = (xs ++ [true]).map D.bool by simp] at hacc'
        simp -dsimp (maxDischargeDepth := 9) only [go_sem, zA, zB, zC, zD, zE, zF, zG, gS, f2, f3, f6, hone']
        refine roundQ_next ⟨k - 1, xs ++ [true], s4, a', R'⟩ _ ⟨rfl, (hnext a' R' hacc').1⟩ (hnext a' R' hacc').2 (by simp -dsimp (maxDischargeDepth := 9) only [go_sem, zA, zB, zC, zD, zE, zF, zG, gS]) (leH_hp (by simp only [hpS, eq_self, implies_true, f2, f3, f6, f6']) (by simp only [hpS, eq_self, implies_true, f2, f3, f6, f6']))
       | false =>
        simp only [rwayIn, hi, Bool.false_eq_true, if_false] at hnext
        rw [rgot_false hi]
        simp -dsimp (maxDischargeDepth := 9) only [go_sem, zA, zB, zC, zD, zE, zF, zG, gS, f2, f3]
        refine need_ok _ r l s3 kOut (h.len hle3 (by simp only [hpS, eq_self, implies_true, f2, f3])) _ ?_
        generalize rneed l kOut s3 = s4 at hnext ⊢
        simp -dsimp (maxDischargeDepth := 9) only [go_sem, zA, zB, zC, zD, zE, zF, zG, gS, f2, f3]
        refine newV_hp (fun b6 v6 f6 w6 => ?_)
        simp only [off_cons, off_nil] at f6
        simp -dsimp (maxDischargeDepth := 9) only [go_sem, zA, zB, zC, zD, zE, zF, zG, gS, f2, f3, f6]
        refine hJ.acc.appTo (by simp only [hpS, eq_self, implies_true, f2, f3, f6]) (by simp only [hpS, eq_self, implies_true, f2]) (by simp only [List.length_map, List.length_cons, List.length_nil]; omega) (fun a' R' hacc' hn => ?_)
        have hone' := hacc'.one
        have f6' := hn b6 (by simp only [hpS, eq_self, implies_true, f2, f3, f6]) f6.2.2.2.2.2.2
        rw [show xs.map D.bool ++ [D.bool false] = (xs ++ [false]).map D.bool by simp] at hacc'
        simp -dsimp (maxDischargeDepth := 9) only [go_sem, zA, zB, zC, zD, zE, zF, zG, gS, f2, f3, f6, hone']
        refine roundQ_next ⟨k - 1, xs ++ [false], s4, a', R'⟩ _ ⟨rfl, (hnext a' R' hacc').1⟩ (hnext a' R' hacc').2 (by simp -dsimp (maxDischargeDepth := 9) only [go_sem, zA, zB, zC, zD, zE, zF, zG, gS]) (leH_hp (by simp only [hpS, eq_self, implies_true, f2, f3, f6, f6']) (by simp only [hpS, eq_self, implies_true, f2, f3, f6, f6']))
     ·have h2' : s2.err ≠ 0 := of_decide_eq_false h2
      simp -dsimp (maxDischargeDepth := 9) only [go_sem, zA, zB, zC, zD, zE, zF, zG, gS, f2, f3, h2]
      exact key xs s2 a R hJ.acc (hJ.stop h2')
    case rest =>
     intro xs' s' a' R' hacc hfin
     have hall : ∀ d, It.d { (default : It) with kind := 3, name := w, ways := xs', det := d } = .agg [.int .i64 3, .str w, .slice [], .slice [], .slice [], .slice (xs'.map D.bool), .int .i64 d, .slice [], .int .i64 0, .int .i64 0, .str ⟨#[]⟩, .int .i64 0, .slice [], .int .i64 0, .str ⟨#[]⟩, .int .i64 0, .slice [], .str ⟨#[]⟩, .slice [], .slice []] := fun d => by
      simp [It.d, It.cs, Gl.cs, Tm.none, Tm.cs, Tm.ds, Gl.ds, default, instInhabitedIt]
     rw [hfin] at hK
     have hle6 : s'.pos ≤ l.length := by have := (rargs_steps (rwayIn_steps l) 10 []).le _ hle5; rw [hfin] at this; exact this
     have hle7 := rneed_le (t := kIs) hle6
     have hone := hacc.one
     simp only [hall, rdet] at hK
     try simp -dsimp (maxDischargeDepth := 9) only [go_sem, zA, zB, zC, zD, zE, zF, zG, gS, f2, f3]
     refine need_ok _ r l s' kIs (h.len hle6 (by simp only [hpS, eq_self, implies_true, f2, f3])) _ ?_
     generalize rneed l kIs s' = s6 at hK hle7 ⊢
     simp -dsimp (maxDischargeDepth := 9) only [go_sem, zA, zB, zC, zD, zE, zF, zG, gS, f2, f3]
     refine got_ok _ r l s6 kDet (h.len hle7 (by simp only [hpS, eq_self, implies_true, f2, f3])) _ ?_
     cases g1 : (rgot l kDet s6).1 with
     | true =>
      simp only [g1, if_true] at hK
      try simp -dsimp (maxDischargeDepth := 9) only [go_sem, zA, zB, zC, zD, zE, zF, zG, gS, f2, f3, hacc.allD, hacc.one]
      refine retW_deep ?_
      simp -dsimp (maxDischargeDepth := 9) only [go_sem, zA, zB, zC, zD, zE, zF, zG, gS, f2, f3]
      refine hacc.deep (by simp only [hpS, eq_self, implies_true, f2, f3]) (fun R'' hle'' hn => ?_)
      simp -dsimp (maxDischargeDepth := 9) only [go_sem, zA, zB, zC, zD, zE, zF, zG, gS, f2, f3]
      exact retW_drop (G := rset H r l (rgot l kDet s6).2) (leH_hp2 (l1 := [(r, .var (rdA l (rgot l kDet s6).2))]) hle'' (by simp only [hpS, eq_self, implies_true, f2, f3]) (by simp only [hpS, eq_self, implies_true, f2, f3])) (retW_is hK)
     | false =>
      simp only [g1, Bool.false_eq_true, if_false] at hK
      rw [rgot_false g1]
      simp -dsimp (maxDischargeDepth := 9) only [go_sem, zA, zB, zC, zD, zE, zF, zG, gS, f2, f3]
      refine got_ok _ r l s6 kSemi2 (h.len hle7 (by simp only [hpS, eq_self, implies_true, f2, f3])) _ ?_
      cases g2 : (rgot l kSemi2 s6).1 with
      | true =>
       simp only [g2, if_true] at hK
       try simp -dsimp (maxDischargeDepth := 9) only [go_sem, zA, zB, zC, zD, zE, zF, zG, gS, f2, f3, hacc.allD, hacc.one]
       refine retW_deep ?_
       simp -dsimp (maxDischargeDepth := 9) only [go_sem, zA, zB, zC, zD, zE, zF, zG, gS, f2, f3]
       refine hacc.deep (by simp only [hpS, eq_self, implies_true, f2, f3]) (fun R'' hle'' hn => ?_)
       simp -dsimp (maxDischargeDepth := 9) only [go_sem, zA, zB, zC, zD, zE, zF, zG, gS, f2, f3]
       exact retW_drop (G := rset H r l (rgot l kSemi2 s6).2) (leH_hp2 (l1 := [(r, .var (rdA l (rgot l kSemi2 s6).2))]) hle'' (by simp only [hpS, eq_self, implies_true, f2, f3]) (by simp only [hpS, eq_self, implies_true, f2, f3])) (retW_is hK)
      | false =>
       simp only [g2, Bool.false_eq_true, if_false] at hK
       rw [rgot_false g2]
       simp -dsimp (maxDischargeDepth := 9) only [go_sem, zA, zB, zC, zD, zE, zF, zG, gS, f2, f3]
       refine got_ok _ r l s6 kMulti (h.len hle7 (by simp only [hpS, eq_self, implies_true, f2, f3])) _ ?_
       cases g3 : (rgot l kMulti s6).1 with
       | true =>
        simp only [g3, if_true] at hK
        try simp -dsimp (maxDischargeDepth := 9) only [go_sem, zA, zB, zC, zD, zE, zF, zG, gS, f2, f3, hacc.allD, hacc.one]
        refine retW_deep ?_
        simp -dsimp (maxDischargeDepth := 9) only [go_sem, zA, zB, zC, zD, zE, zF, zG, gS, f2, f3]
        refine hacc.deep (by simp only [hpS, eq_self, implies_true, f2, f3]) (fun R'' hle'' hn => ?_)
        simp -dsimp (maxDischargeDepth := 9) only [go_sem, zA, zB, zC, zD, zE, zF, zG, gS, f2, f3]
        exact retW_drop (G := rset H r l (rgot l kMulti s6).2) (leH_hp2 (l1 := [(r, .var (rdA l (rgot l kMulti s6).2))]) hle'' (by simp only [hpS, eq_self, implies_true, f2, f3]) (by simp only [hpS, eq_self, implies_true, f2, f3])) (retW_is hK)
       | false =>
        simp only [g3, Bool.false_eq_true, if_false] at hK
        rw [rgot_false g3]
        simp -dsimp (maxDischargeDepth := 9) only [go_sem, zA, zB, zC, zD, zE, zF, zG, gS, f2, f3]
        refine got_ok _ r l s6 kNon (h.len hle7 (by simp only [hpS, eq_self, implies_true, f2, f3])) _ ?_
        cases g4 : (rgot l kNon s6).1 with
        | true =>
         simp only [g4, if_true] at hK
         try simp -dsimp (maxDischargeDepth := 9) only [go_sem, zA, zB, zC, zD, zE, zF, zG, gS, f2, f3, hacc.allD, hacc.one]
         refine retW_deep ?_
         simp -dsimp (maxDischargeDepth := 9) only [go_sem, zA, zB, zC, zD, zE, zF, zG, gS, f2, f3]
         refine hacc.deep (by simp only [hpS, eq_self, implies_true, f2, f3]) (fun R'' hle'' hn => ?_)
         simp -dsimp (maxDischargeDepth := 9) only [go_sem, zA, zB, zC, zD, zE, zF, zG, gS, f2, f3]
         exact retW_drop (G := rset H r l (rgot l kNon s6).2) (leH_hp2 (l1 := [(r, .var (rdA l (rgot l kNon s6).2))]) hle'' (by simp only [hpS, eq_self, implies_true, f2, f3]) (by simp only [hpS, eq_self, implies_true, f2, f3])) (retW_is hK)
        | false =>
         simp only [g4, Bool.false_eq_true, if_false] at hK
         rw [rgot_false g4]
         simp -dsimp (maxDischargeDepth := 9) only [go_sem, zA, zB, zC, zD, zE, zF, zG, gS, f2, f3]
         refine fail_ok _ r l s6 2 (h.len hle7 (by simp only [hpS, eq_self, implies_true, f2, f3])) _ ?_
         try simp -dsimp (maxDischargeDepth := 9) only [go_sem, zA, zB, zC, zD, zE, zF, zG, gS, f2, f3, hacc.allD, hacc.one]
         refine retW_deep ?_
         simp -dsimp (maxDischargeDepth := 9) only [go_sem, zA, zB, zC, zD, zE, zF, zG, gS, f2, f3]
         refine hacc.deep (by simp only [hpS, eq_self, implies_true, f2, f3]) (fun R'' hle'' hn => ?_)
         simp -dsimp (maxDischargeDepth := 9) only [go_sem, zA, zB, zC, zD, zE, zF, zG, gS, f2, f3]
         exact retW_drop (G := rset H r l (rfail 2 s6)) (leH_hp2 (l1 := [(r, .var (rdA l (rfail 2 s6)))]) hle'' (by simp only [hpS, eq_self, implies_true, f2, f3]) (by simp only [hpS, eq_self, implies_true, f2, f3])) (retW_is hK)
   | false =>
    rw [rgot_false hg3]
    simp only [ritem, hg1, hg2, hg3, Bool.false_eq_true, if_false, if_true, ritClause] at hK
    simp -dsimp (maxDischargeDepth := 9) only [go_sem, zA, zB, zC, zD, zE, zF, zG, gS, f2, f3]
    refine word_ok _ r l _ 1 (h.len h.le (by simp only [hpS, eq_self, implies_true, f2, f3])) _ ?_
    have hle5 := rword_le (kind := 1) h.le
    generalize (rword l 1 s).1 = w at hK ⊢
    generalize (rword l 1 s).2 = s5 at hK hle5 ⊢
    simp -dsimp (maxDischargeDepth := 9) only [go_sem, zA, zB, zC, zD, zE, zF, zG, gS, f2, f3]

    refine (fun (key : ∀ (xs' : List Tm) (s' : RdS) (a' : A) (R' : Heap), Acc H [r, b2, b3] 63 4 (xs'.map Tm.d) a' R' → rargs (rterm 66 l 1) l 10 [] s5 = (xs', s') → (?T4 : List Tm → RdS → A → Heap → Prop) xs' s' a' R') => ?main) ?rest
    case main =>
     refine svc_loop (X := RowX Tm) (fun x => [(0, .ref r 0), (2, .ref b2 0), (3, .ref b3 0)])
      (fun x G => G = hp x.R [(r, .var (rdA l x.s)), (b2, .var [.d (.int .i64 0), .d (.str ⟨#[]⟩), .nils, .nils, .nils, .nils, .d (.int .i64 0), .nils, .d (.int .i64 0), .d (.int .i64 0), .d (.str ⟨#[]⟩), .d (.int .i64 0), .nils, .d (.int .i64 0), .d (.str ⟨#[]⟩), .d (.int .i64 0), .nils, .d (.str ⟨#[]⟩), .nils, .nils]), (b3, .var [.d (.int .i64 4), .d (.str w), .nils, .nils, .nils, .nils, .d (.int .i64 0), x.a, .d (.int .i64 0), .d (.int .i64 0), .d (.str ⟨#[]⟩), .d (.int .i64 0), .nils, .d (.int .i64 0), .d (.str ⟨#[]⟩), .d (.int .i64 0), .nils, .d (.str ⟨#[]⟩), .nils, .nils])] ∧ RowJ H [r, b2, b3] 63 4 Tm.d (rterm 66 l 1) l s5 x)
      (fun x => x.k) ⟨10, [], s5, .nils, H⟩ _ ⟨rfl, RowJ.first hle5⟩ (by simp -dsimp (maxDischargeDepth := 9) only [go_sem, zA, zB, zC, zD, zE, zF, zG, gS]) (leH_hp (by simp only [hpS, eq_self, implies_true, f2, f3]) (by simp only [hpS, eq_self, implies_true, f2, f3])) ?_
     rintro ⟨k, xs, s2, a, R⟩ G ⟨rfl, hJ⟩
     have hle2 := hJ.le
     have hone := hJ.acc.one
     have hok : okK [r, b2, b3] R [(r, .var (rdA l s2)), (b2, .var [.d (.int .i64 0), .d (.str ⟨#[]⟩), .nils, .nils, .nils, .nils, .d (.int .i64 0), .nils, .d (.int .i64 0), .d (.int .i64 0), .d (.str ⟨#[]⟩), .d (.int .i64 0), .nils, .d (.int .i64 0), .d (.str ⟨#[]⟩), .d (.int .i64 0), .nils, .d (.str ⟨#[]⟩), .nils, .nils]), (b3, .var [.d (.int .i64 4), .d (.str w), .nils, .nils, .nils, .nils, .d (.int .i64 0), a, .d (.int .i64 0), .d (.int .i64 0), .d (.str ⟨#[]⟩), .d (.int .i64 0), .nils, .d (.int .i64 0), .d (.str ⟨#[]⟩), .d (.int .i64 0), .nils, .d (.str ⟨#[]⟩), .nils, .nils])] := by simp only [hpS, eq_self, implies_true, f2, f3]
     simp only at hle2 hone
     simp -dsimp (maxDischargeDepth := 9) only [go_sem, zA, zB, zC, zD, zE, zF, zG, gS, rdA, f2, f3]
     refine gif_split (fun h2 => ?_) (fun h2 => ?_)
     ·have h2' : s2.err = 0 := of_decide_eq_true h2
      simp -dsimp (maxDischargeDepth := 9) only [go_sem, zA, zB, zC, zD, zE, zF, zG, gS, f2, f3, h2]
      refine andK_split (hJ.acc.lenable (by simp -dsimp (maxDischargeDepth := 9) only [go_sem, zA, zB, zC, zD, zE, zF, zG, gS])) ?_
      rw [hJ.acc.len hok]
      simp -dsimp (maxDischargeDepth := 9) only [go_sem, zA, zB, zC, zD, zE, zF, zG, gS, f2, f3]
      refine more_ok _ r l s2 xs.length (h.len hle2 (by simp only [hpS, eq_self, implies_true, f2, f3])) _ ?_
      cases hm : (rmore l xs.length s2).1 with
      | false =>
       have hfin := hJ.done h2' hm
       generalize (rmore l xs.length s2).2 = s3 at hfin ⊢
       simp -dsimp (maxDischargeDepth := 9) only [go_sem, zA, zB, zC, zD, zE, zF, zG, gS, f2, f3]
       exact key xs s3 a R hJ.acc hfin
      | true =>
       simp -dsimp (maxDischargeDepth := 9) only [go_sem, zA, zB, zC, zD, zE, zF, zG, gS, f2, f3]
       have hle3 := rmore_le (n := xs.length) hle2
       have hsz := hJ.nine
       simp only at hsz
       have hnext := fun a' R' hacc => hJ.next (rterm_steps l 66 1) (fun s hs => rterm_end (by omega) hs) h2' hm (a' := a') (R' := R') hacc
       simp only at hnext
       generalize (rmore l xs.length s2).2 = s3 at hnext hle3 ⊢
       refine term_ok 66 _ r l _ 1 (by omega) (by omega) (h.len hle3 (by simp only [hpS, eq_self, implies_true, f2, f3])) _ ?_
       generalize (rterm 66 l 1 s3).1 = t at hnext ⊢
       generalize (rterm 66 l 1 s3).2 = s4 at hnext ⊢
       obtain ⟨tk, tn, ti, ta⟩ := t
       simp -dsimp (maxDischargeDepth := 9) only [go_sem, zA, zB, zC, zD, zE, zF, zG, gS, f2, f3, Tm.d, Tm.cs]

       refine newV_hp (fun b6 v6 f6 w6 => ?_)
       simp only [off_cons, off_nil] at f6
       simp -dsimp (maxDischargeDepth := 9) only [go_sem, zA, zB, zC, zD, zE, zF, zG, gS, f2, f3, f6]
       refine hJ.acc.appTo (by simp only [hpS, eq_self, implies_true, f2, f3, f6]) (by simp only [hpS, eq_self, implies_true, f2]) (by simp only [List.length_map, List.length_cons, List.length_nil]; omega) (fun a' R' hacc' hn => ?_)
       have hone' := hacc'.one
       have f6' := hn b6 (by simp only [hpS, eq_self, implies_true, f2, f3, f6]) f6.2.2.2.2.2.2
       rw [show xs.map Tm.d ++ [D.agg [D.int .i64 tk, D.str tn, D.int .i64 ti, D.slice (Tm.ds ta)]] = (xs ++ [Tm.mk tk tn ti ta]).map Tm.d by simp [Tm.d, Tm.cs]] at hacc'
       simp -dsimp (maxDischargeDepth := 9) only [go_sem, zA, zB, zC, zD, zE, zF, zG, gS, f2, f3, f6, hone']
       refine roundQ_next ⟨k - 1, xs ++ [Tm.mk tk tn ti ta], s4, a', R'⟩ _ ⟨rfl, (hnext a' R' hacc').1⟩ (hnext a' R' hacc').2 (by simp -dsimp (maxDischargeDepth := 9) only [go_sem, zA, zB, zC, zD, zE, zF, zG, gS]) (leH_hp (by simp only [hpS, eq_self, implies_true, f2, f3, f6, f6']) (by simp only [hpS, eq_self, implies_true, f2, f3, f6, f6']))
     ·have h2' : s2.err ≠ 0 := of_decide_eq_false h2
      simp -dsimp (maxDischargeDepth := 9) only [go_sem, zA, zB, zC, zD, zE, zF, zG, gS, f2, f3, h2]
      exact key xs s2 a R hJ.acc (hJ.stop h2')
    case rest =>
     intro xs' s' a' R' hacc hfin
     have hall : ∀ g, It.d { (default : It) with kind := 4, name := w, args := xs', body := g } = .agg ([.int .i64 4, .str w, .slice [], .slice [], .slice [], .slice [], .int .i64 0, .slice (xs'.map Tm.d)] ++ g.cs) := fun g => by
      simp [It.d, It.cs, default, instInhabitedIt]
     have hle6 : s'.pos ≤ l.length := by have := (rargs_steps (rterm_steps l 66 1) 10 []).le _ hle5; rw [hfin] at this; exact this
     have hone := hacc.one
     rw [hfin] at hK
     try simp -dsimp (maxDischargeDepth := 9) only [go_sem, zA, zB, zC, zD, zE, zF, zG, gS, f2, f3]
     refine got_ok _ r l s' kIf (h.len hle6 (by simp only [hpS, eq_self, implies_true, f2, f3])) _ ?_
     cases g1 : (rgot l kIf s').1 with
     | false =>
      simp only [g1, Bool.false_eq_true, if_false, hall] at hK
      rw [rgot_false g1]
      have hn1 : Gl.cs (.mk 1 .none .none ⟨#[]⟩ [] []) = [.int .i64 1, .int .i64 0, .str ⟨#[]⟩, .int .i64 0, .slice [], .int .i64 0, .str ⟨#[]⟩, .int .i64 0, .slice [], .str ⟨#[]⟩, .slice [], .slice []] := by
       simp [Gl.cs, Tm.none, Tm.cs, Tm.ds, Gl.ds]
      rw [hn1] at hK
      simp -dsimp (maxDischargeDepth := 9) only [go_sem, zA, zB, zC, zD, zE, zF, zG, gS, f2, f3]
      try simp -dsimp (maxDischargeDepth := 9) only [go_sem, zA, zB, zC, zD, zE, zF, zG, gS, f2, f3, hacc.allD, hacc.one]
      refine retW_deep ?_
      simp -dsimp (maxDischargeDepth := 9) only [go_sem, zA, zB, zC, zD, zE, zF, zG, gS, f2, f3]
      refine hacc.deep (by simp only [hpS, eq_self, implies_true, f2, f3]) (fun R'' hle'' hn => ?_)
      simp -dsimp (maxDischargeDepth := 9) only [go_sem, zA, zB, zC, zD, zE, zF, zG, gS, f2, f3]
      exact retW_drop (G := rset H r l s') (leH_hp2 (l1 := [(r, .var (rdA l s'))]) hle'' (by simp only [hpS, eq_self, implies_true, f2, f3]) (by simp only [hpS, eq_self, implies_true, f2, f3])) (retW_is hK)
     | true =>
      simp only [g1, if_true, rgoal, hall] at hK
      have hle7 := rgot_le (t := kIf) hle6
      simp -dsimp (maxDischargeDepth := 9) only [go_sem, zA, zB, zC, zD, zE, zF, zG, gS, f2, f3]
      refine goal_ok l 1 (rprim 66 l 1) (rprim_steps l 66 1) (fun H r s h K hK => prim_ok l 66 1 (by omega) (by omega) H r s h K hK) _ r _ (h.len hle7 (by simp only [hpS, eq_self, implies_true, f2, f3])) _ ?_
      generalize (rgoalW (rprim 66 l 1) l (rgot l kIf s').2).1 = g at hK ⊢
      generalize (rgoalW (rprim 66 l 1) l (rgot l kIf s').2).2 = s6 at hK ⊢
      obtain ⟨x1, x2, x3, x4, x5, x6, x7, x8, x9, x10, x11, x12, hca⟩ := g.opn
      rw [hca] at hK
      simp -dsimp (maxDischargeDepth := 9) only [go_sem, zA, zB, zC, zD, zE, zF, zG, gS, f2, f3, Gl.d, hca]
      try simp -dsimp (maxDischargeDepth := 9) only [go_sem, zA, zB, zC, zD, zE, zF, zG, gS, f2, f3, hacc.allD, hacc.one]
      refine retW_deep ?_
      simp -dsimp (maxDischargeDepth := 9) only [go_sem, zA, zB, zC, zD, zE, zF, zG, gS, f2, f3]
      refine hacc.deep (by simp only [hpS, eq_self, implies_true, f2, f3]) (fun R'' hle'' hn => ?_)
      simp -dsimp (maxDischargeDepth := 9) only [go_sem, zA, zB, zC, zD, zE, zF, zG, gS, f2, f3]
      exact retW_drop (G := rset H r l s6) (leH_hp2 (l1 := [(r, .var (rdA l s6))]) hle'' (by simp only [hpS, eq_self, implies_true, f2, f3]) (by simp only [hpS, eq_self, implies_true, f2, f3])) (retW_is hK)
end Go.Aug

/- The reference's lexer and reader: a whole text. -/
namespace Go.Aug
open Nat renaming reduceBEq → zA, reduceLT → zB, reduceAdd → zC, reduceSub → zD, reduceMul → zE, reduceLeDiff → zF
open Int renaming reduceLE → zG
open Go.Proofs
set_option maxRecDepth 100000
set_option linter.unusedSimpArgs false
attribute [local irreducible] hid andK letA onSome onVar onArr arrOnly onInt onBool onFunc onTup idxA ldV ldD addO appTo fillL slA srcK nilQ retW gif sgd sguard svc sops sdops sagain aopO aLoad aStore aBin aUn aConv aLen aIndexAddr aIndex aIndexAddrS aIndexS aSlice aAppend aBuild aBuildSlice aMakeSlice aField aFieldOf aCallOp deepK deepL frzM putE newK newV growV ACall roundQ thenQ inBlockQ sret cnd szs nilC onMap onRow aLookup aMapUpdate aMakeMap
attribute [local go_sem] Int.natCast_zero
def isBlank (c : UInt8) : Bool := decide ((c.toNat : Int) = 9) || decide ((c.toNat : Int) = 10) || decide ((c.toNat : Int) = 13) || decide ((c.toNat : Int) = 32)
/-- Where tokens begin, the tokens; false: not to the end. -/
def rAll (s : ByteArray) : Nat → Nat → Bool → List Int → List Tok → List Int × List Tok × Bool
 | 0, _, _, pl, ts => (pl, ts, true)
 | k + 1, p, cm, pl, ts => match s[p]? with
  | none => (pl, ts, true)
  | some c => if cm = true then rAll s k (p + 1) (!decide ((c.toNat : Int) = 10)) pl ts
   else if isBlank c = true then rAll s k (p + 1) false pl ts
   else if (c.toNat : Int) = 37 then rAll s k (p + 1) true pl ts
   else if (rWord s p c).2 = true then rAll s k (p + (rWord s p c).1.text.size) false (pl ++ [(p : Int)]) (ts ++ [(rWord s p c).1])
   else (pl, ts, false)
theorem rWord_size {s : ByteArray} {p : Nat} {c : UInt8} (hp : s[p]? = some c) (h : (rWord s p c).2 = true) : 1 ≤ (rWord s p c).1.text.size ∧ p + (rWord s p c).1.text.size ≤ s.size := by
 have hlt : p < s.size := by
  apply Classical.byContradiction; intro hn
  simp [hn] at hp
 unfold rWord at h ⊢
 split
 ·rename_i hl
  simp only [wordAl, ByteArray.size_extract]
  have h1 := runTo_le (p := fun c => isLet c || isDig c) (s := s) s.size p (Nat.le_of_lt hlt)
  have h2 : p + 1 ≤ runTo (fun c => isLet c || isDig c) s s.size p := by
   obtain ⟨k, hk⟩ : ∃ k, s.size = k + 1 := ⟨s.size - 1, by omega⟩
   rw [hk]
   simp only [runTo, hp, hl, Bool.true_or, if_true]
   exact (runTo_le k (p + 1) hlt).1
  omega
 ·rename_i hl
  rw [if_neg hl] at h
  split
  ·simp only [wordInt, ByteArray.size_extract]
   have := runTo_le (p := isDig) (s := s) s.size (p + 1) hlt
   omega
  ·rename_i h2
   rw [if_neg h2] at h
   split
   ·rename_i h3
    exact ⟨by decide, by have : (ByteArray.mk #[58, 45]).size = 2 := rfl; have := h3.2.1; simp only; omega⟩
   ·rename_i h3
    rw [if_neg h3] at h
    split
    ·simp only [ByteArray.size_extract]; omega
    ·rename_i h4
     rw [if_neg h4] at h; cases h
structure AllX where
 k : Nat
 p : Nat
 cm : Bool
 pl : List Int
 ts : List Tok
 b : Nat
 v : Value
 c : Nat
 w : Value
structure AllJ (H : Heap) (s : ByteArray) (x : AllX) (G : Heap) : Prop where
 is : G = hp H [(x.b, .arr 3 1 x.v (x.pl.map (.int .i64))), (x.c, .arr 199 3 x.w (x.ts.map Tok.d))]
 f : (eqn x.b x.c = false ∧ eqn x.c x.b = false) ∧ H x.b = none ∧ H x.c = none
 v : x.v.ownBlock = some x.b ∧ x.w.ownBlock = some x.c
 le : x.p ≤ s.size ∧ s.size ≤ x.k + x.p
 len : x.pl.length ≤ x.p ∧ x.ts.length ≤ x.p
 run : rAll s x.k x.p x.cm x.pl x.ts = rAll s s.size 0 false [] []
set_option maxHeartbeats 4000000 in
theorem all_ok {eb : EbG} (H : Heap) (s : ByteArray) (hs : s.size ≤ 16384) (K : A → Heap → Prop)
  (hK : K (.tup [.d (.slice ((rAll s s.size 0 false [] []).1.map (.int .i64))), .d (.slice ((rAll s s.size 0 false [] []).2.1.map Tok.d)), .d (.bool (rAll s s.size 0 false [] []).2.2)]) H) :
  ACall Tryd.prog (seatV eb) 137 [.d (.str s)] H K := by
 refine ACall.hp_start ?_
 refine ACall.by mixed fn137 (by simp) ?_
 conv in s137 => cbv
 refine svc_start ?_
 simp -dsimp (maxDischargeDepth := 9) only [go_sem, zA, zB, zC, zD, zE, zF, zG, gS]
 refine newV_hp (fun b5 v5 f5 w5 => ?_)
 simp only [off_cons, off_nil] at f5
 simp -dsimp (maxDischargeDepth := 9) only [go_sem, zA, zB, zC, zD, zE, zF, zG, gS, f5]
 refine newV_hp (fun b6 v6 f6 w6 => ?_)
 simp only [off_cons, off_nil] at f6
 simp -dsimp (maxDischargeDepth := 9) only [go_sem, zA, zB, zC, zD, zE, zF, zG, gS, f5, f6]
 refine svc_loop (X := AllX) (fun x => [(0, .d (.str s)), (5, .own x.b x.v), (6, .own x.c x.w), (7, .d (.bool x.cm)), (8, .d (.int .i64 x.p))])
  (AllJ H s) (fun x => x.k) ⟨s.size, 0, false, [], [], b5, v5, b6, v6⟩ _ ⟨rfl, by simp only [hpS, eq_self, implies_true, f5, f6], ⟨w5, w6⟩, by simp, by simp, rfl⟩ (by simp -dsimp (maxDischargeDepth := 9) only [go_sem, zA, zB, zC, zD, zE, zF, zG, gS]) (.refl _) ?_
 rintro ⟨k, p, cm, pl, ts, b1, v1, b2, v2⟩ G hJ
 obtain ⟨hG, f, ⟨hv, hw⟩, ⟨hle, hk⟩, ⟨hpl, hts⟩, hrun⟩ := hJ
 simp only at hG f hv hw hle hk hpl hts hrun
 subst hG
 simp -dsimp (maxDischargeDepth := 9) only [go_sem, zA, zB, zC, zD, zE, zF, zG, gS, f]
 refine gif_split (fun g1 => ?_) (fun g1 => ?_)
 ·have g1' : p < s.size := by have := of_decide_eq_true g1; omega
  obtain ⟨k, rfl⟩ : ∃ k', k = k' + 1 := ⟨k - 1, by omega⟩
  obtain ⟨ch, hc⟩ := at_lt g1'
  have hp1 := wrapN (k := p) (by omega)
  simp only [rAll, hc] at hrun
  have hnext : ∀ cm', rAll s k (p + 1) cm' pl ts = rAll s s.size 0 false [] [] → AllJ H s ⟨k, p + 1, cm', pl, ts, b1, v1, b2, v2⟩ (hp H [(b1, .arr 3 1 v1 (pl.map (.int .i64))), (b2, .arr 199 3 v2 (ts.map Tok.d))]) := fun cm' h =>
   ⟨rfl, f, ⟨hv, hw⟩, ⟨g1', by simp only; omega⟩, ⟨by simp only; omega, by simp only; omega⟩, h⟩
  simp -dsimp (maxDischargeDepth := 9) only [go_sem, zA, zB, zC, zD, zE, zF, zG, gS, g1, hc]
  cases cm with
  | true =>
   simp only [if_true] at hrun
   simp -dsimp (maxDischargeDepth := 9) only [go_sem, zA, zB, zC, zD, zE, zF, zG, gS, hp1]
   exact roundQ_next ⟨k, p + 1, _, pl, ts, b1, v1, b2, v2⟩ _ (hnext _ hrun) (Nat.lt_succ_self k) (by simp -dsimp (maxDischargeDepth := 9) only [go_sem, zA, zB, zC, zD, zE, zF, zG, gS]) (.refl _)
  | false =>
   simp only [Bool.false_eq_true, if_false] at hrun
   have hblank : isBlank ch = true → AllJ H s ⟨k, p + 1, false, pl, ts, b1, v1, b2, v2⟩ (hp H [(b1, .arr 3 1 v1 (pl.map (.int .i64))), (b2, .arr 199 3 v2 (ts.map Tok.d))]) := fun h =>
    hnext _ (by rw [if_pos h] at hrun; exact hrun)
   simp -dsimp (maxDischargeDepth := 9) only [go_sem, zA, zB, zC, zD, zE, zF, zG, gS]
   refine gif_split (fun g2 => ?_) (fun g2 => ?_)
   ·simp -dsimp (maxDischargeDepth := 9) only [go_sem, zA, zB, zC, zD, zE, zF, zG, gS, g2, hp1]
    exact roundQ_next ⟨k, p + 1, false, pl, ts, b1, v1, b2, v2⟩ _ (hblank (by simp [isBlank, of_decide_eq_true g2])) (Nat.lt_succ_self k) (by simp -dsimp (maxDischargeDepth := 9) only [go_sem, zA, zB, zC, zD, zE, zF, zG, gS]) (.refl _)
   simp -dsimp (maxDischargeDepth := 9) only [go_sem, zA, zB, zC, zD, zE, zF, zG, gS, g2]
   refine gif_split (fun g3 => ?_) (fun g3 => ?_)
   ·simp -dsimp (maxDischargeDepth := 9) only [go_sem, zA, zB, zC, zD, zE, zF, zG, gS, g3, hp1]
    exact roundQ_next ⟨k, p + 1, false, pl, ts, b1, v1, b2, v2⟩ _ (hblank (by simp [isBlank, of_decide_eq_true g3])) (Nat.lt_succ_self k) (by simp -dsimp (maxDischargeDepth := 9) only [go_sem, zA, zB, zC, zD, zE, zF, zG, gS]) (.refl _)
   simp -dsimp (maxDischargeDepth := 9) only [go_sem, zA, zB, zC, zD, zE, zF, zG, gS, g3]
   refine gif_split (fun g4 => ?_) (fun g4 => ?_)
   ·simp -dsimp (maxDischargeDepth := 9) only [go_sem, zA, zB, zC, zD, zE, zF, zG, gS, g4, hp1]
    exact roundQ_next ⟨k, p + 1, false, pl, ts, b1, v1, b2, v2⟩ _ (hblank (by simp [isBlank, of_decide_eq_true g4])) (Nat.lt_succ_self k) (by simp -dsimp (maxDischargeDepth := 9) only [go_sem, zA, zB, zC, zD, zE, zF, zG, gS]) (.refl _)
   simp -dsimp (maxDischargeDepth := 9) only [go_sem, zA, zB, zC, zD, zE, zF, zG, gS, g4]
   refine gif_split (fun g5 => ?_) (fun g5 => ?_)
   ·simp -dsimp (maxDischargeDepth := 9) only [go_sem, zA, zB, zC, zD, zE, zF, zG, gS, g5, hp1]
    exact roundQ_next ⟨k, p + 1, false, pl, ts, b1, v1, b2, v2⟩ _ (hblank (by simp [isBlank, of_decide_eq_true g5])) (Nat.lt_succ_self k) (by simp -dsimp (maxDischargeDepth := 9) only [go_sem, zA, zB, zC, zD, zE, zF, zG, gS]) (.refl _)
   have hnb : ¬ isBlank ch = true := by simp [isBlank, of_decide_eq_false g2, of_decide_eq_false g3, of_decide_eq_false g4, of_decide_eq_false g5]
   rw [if_neg hnb] at hrun
   simp -dsimp (maxDischargeDepth := 9) only [go_sem, zA, zB, zC, zD, zE, zF, zG, gS, g5]
   refine gif_split (fun g6 => ?_) (fun g6 => ?_)
   ·rw [if_pos (of_decide_eq_true g6)] at hrun
    simp -dsimp (maxDischargeDepth := 9) only [go_sem, zA, zB, zC, zD, zE, zF, zG, gS, g6, hp1]
    exact roundQ_next ⟨k, p + 1, true, pl, ts, b1, v1, b2, v2⟩ _ (hnext _ hrun) (Nat.lt_succ_self k) (by simp -dsimp (maxDischargeDepth := 9) only [go_sem, zA, zB, zC, zD, zE, zF, zG, gS]) (.refl _)
   rw [if_neg (of_decide_eq_false g6)] at hrun
   simp -dsimp (maxDischargeDepth := 9) only [go_sem, zA, zB, zC, zD, zE, zF, zG, gS, g6]
   refine word1_ok _ s p ch hs hc _ ?_
   have hsz := rWord_size hc
   generalize rWord s p ch = tk at hrun hsz ⊢
   obtain ⟨⟨tkind, ttext, tint⟩, ok⟩ := tk
   simp -dsimp (maxDischargeDepth := 9) only [go_sem, zA, zB, zC, zD, zE, zF, zG, gS, f, Tok.d, Tok.cs]
   refine newK_hp (fun b10 f10 => ?_)
   simp only [off_cons, off_nil] at f10
   simp -dsimp (maxDischargeDepth := 9) only [go_sem, zA, zB, zC, zD, zE, zF, zG, gS, f, f10]
   cases ok with
   | false =>
    simp only [Bool.false_eq_true, if_false] at hrun
    rw [← hrun] at hK
    simp -dsimp (maxDischargeDepth := 9) only [go_sem, zA, zB, zC, zD, zE, zF, zG, gS, f, f10]
    refine retW_tup [true, true, true] ?_
    simp -dsimp (maxDischargeDepth := 9) only [go_sem, zA, zB, zC, zD, zE, zF, zG, gS, f, f10]
    exact retW_drop (G := H) (leH_hp0 (by simp only [hpS, eq_self, implies_true, f, f10])) (retW_is hK)
   | true =>
    simp only [if_true] at hrun hsz
    obtain ⟨hz1, hz2⟩ := hsz trivial
    simp -dsimp (maxDischargeDepth := 9) only [go_sem, zA, zB, zC, zD, zE, zF, zG, gS, f, f10]
    refine And.intro ?_ ?_
    ·refine newV_hp (fun b33 v33 f33 w33 => ?_)
     simp only [off_cons, off_nil] at f33
     simp -dsimp (maxDischargeDepth := 9) only [go_sem, zA, zB, zC, zD, zE, zF, zG, gS, f, f10, f33]
     refine And.intro ?_ ?_
     ·refine andK_split (by omega) ?_
      refine growV_hp (b0 := b1) (by simp only [hpS, eq_self, implies_true, f, f10, f33]) (by simp only [hpS, eq_self, implies_true, f, f10, f33]) (fun b34 v34 f34 w34 => ?_)
      simp only [delL_cons, delL_nil, eqn_self, cnd_true, cnd_false, off_cons, off_nil, f, f10, f33] at f34
      simp -dsimp (maxDischargeDepth := 9) only [go_sem, zA, zB, zC, zD, zE, zF, zG, gS, f, f10, f33, f34]
      refine newV_hp (fun b37 v37 f37 w37 => ?_)
      simp only [off_cons, off_nil] at f37
      simp -dsimp (maxDischargeDepth := 9) only [go_sem, zA, zB, zC, zD, zE, zF, zG, gS, f, f10, f33, f34, f37]
      refine andK_split (by omega) ?_
      refine growV_hp (b0 := b2) (by simp only [hpS, eq_self, implies_true, f, f10, f33, f34, f37]) (by simp only [hpS, eq_self, implies_true, f, f10, f33, f34, f37]) (fun b38 v38 f38 w38 => ?_)
      simp only [delL_cons, delL_nil, eqn_self, cnd_true, cnd_false, off_cons, off_nil, f, f10, f33, f34, f37] at f38
      simp -dsimp (maxDischargeDepth := 9) only [go_sem, zA, zB, zC, zD, zE, zF, zG, gS, f, f10, f33, f34, f37, f38]
      have hw34 : IntKind.i64.wrap ((p : Int) + (ttext.size : Int)) = ((p + ttext.size : Nat) : Int) := by rw [wrap64 (by omega) (by omega)]; omega
      simp -dsimp (maxDischargeDepth := 9) only [go_sem, zA, zB, zC, zD, zE, zF, zG, gS, f, f10, f33, f34, f37, f38, hw34]
      refine roundQ_next ⟨k, p + ttext.size, false, pl ++ [(p : Int)], ts ++ [Tok.mk tkind ttext tint], b34, v34, b38, v38⟩ (hp H [(b34, .arr 3 1 v34 ((pl ++ [(p : Int)]).map (.int .i64))), (b38, .arr 199 3 v38 ((ts ++ [Tok.mk tkind ttext tint]).map Tok.d))])
       ⟨rfl, by simp only [hpS, eq_self, implies_true, f, f10, f33, f34, f37, f38], ⟨w34, w38⟩, ⟨hz2, by simp only; omega⟩, ⟨by simp only [List.length_append, List.length_cons, List.length_nil]; omega, by simp only [List.length_append, List.length_cons, List.length_nil]; omega⟩, hrun⟩ (Nat.lt_succ_self k) (by simp -dsimp (maxDischargeDepth := 9) only [go_sem, zA, zB, zC, zD, zE, zF, zG, gS]) ?_
      simp only [List.map_append, List.map_cons, List.map_nil, Tok.d, Tok.cs]
      exact (leH_hp (by simp only [hpS, eq_self, implies_true, f, f10, f33, f34, f37, f38]) (by simp only [hpS, eq_self, implies_true, f, f10, f33, f34, f37, f38]))
     ·refine newV_hp (fun b37 v37 f37 w37 => ?_)
      simp only [off_cons, off_nil] at f37
      simp -dsimp (maxDischargeDepth := 9) only [go_sem, zA, zB, zC, zD, zE, zF, zG, gS, f, f10, f33, f37]
      refine andK_split (by omega) ?_
      refine growV_hp (b0 := b1) (by simp only [hpS, eq_self, implies_true, f, f10, f33, f37]) (by simp only [hpS, eq_self, implies_true, f, f10, f33, f37]) (fun b34 v34 f34 w34 => ?_)
      simp only [delL_cons, delL_nil, eqn_self, cnd_true, cnd_false, off_cons, off_nil, f, f10, f33, f37] at f34
      simp -dsimp (maxDischargeDepth := 9) only [go_sem, zA, zB, zC, zD, zE, zF, zG, gS, f, f10, f33, f37, f34]
      refine andK_split (by omega) ?_
      refine growV_hp (b0 := b2) (by simp only [hpS, eq_self, implies_true, f, f10, f33, f37, f34]) (by simp only [hpS, eq_self, implies_true, f, f10, f33, f37, f34]) (fun b38 v38 f38 w38 => ?_)
      simp only [delL_cons, delL_nil, eqn_self, cnd_true, cnd_false, off_cons, off_nil, f, f10, f33, f37, f34] at f38
      simp -dsimp (maxDischargeDepth := 9) only [go_sem, zA, zB, zC, zD, zE, zF, zG, gS, f, f10, f33, f37, f34, f38]
      have hw34 : IntKind.i64.wrap ((p : Int) + (ttext.size : Int)) = ((p + ttext.size : Nat) : Int) := by rw [wrap64 (by omega) (by omega)]; omega
      simp -dsimp (maxDischargeDepth := 9) only [go_sem, zA, zB, zC, zD, zE, zF, zG, gS, f, f10, f33, f37, f34, f38, hw34]
      refine roundQ_next ⟨k, p + ttext.size, false, pl ++ [(p : Int)], ts ++ [Tok.mk tkind ttext tint], b34, v34, b38, v38⟩ (hp H [(b34, .arr 3 1 v34 ((pl ++ [(p : Int)]).map (.int .i64))), (b38, .arr 199 3 v38 ((ts ++ [Tok.mk tkind ttext tint]).map Tok.d))])
       ⟨rfl, by simp only [hpS, eq_self, implies_true, f, f10, f33, f37, f34, f38], ⟨w34, w38⟩, ⟨hz2, by simp only; omega⟩, ⟨by simp only [List.length_append, List.length_cons, List.length_nil]; omega, by simp only [List.length_append, List.length_cons, List.length_nil]; omega⟩, hrun⟩ (Nat.lt_succ_self k) (by simp -dsimp (maxDischargeDepth := 9) only [go_sem, zA, zB, zC, zD, zE, zF, zG, gS]) ?_
      simp only [List.map_append, List.map_cons, List.map_nil, Tok.d, Tok.cs]
      exact (leH_hp (by simp only [hpS, eq_self, implies_true, f, f10, f33, f37, f34, f38]) (by simp only [hpS, eq_self, implies_true, f, f10, f33, f37, f34, f38]))
    ·refine newV_hp (fun b37 v37 f37 w37 => ?_)
     simp only [off_cons, off_nil] at f37
     simp -dsimp (maxDischargeDepth := 9) only [go_sem, zA, zB, zC, zD, zE, zF, zG, gS, f, f10, f37]
     refine newV_hp (fun b33 v33 f33 w33 => ?_)
     simp only [off_cons, off_nil] at f33
     simp -dsimp (maxDischargeDepth := 9) only [go_sem, zA, zB, zC, zD, zE, zF, zG, gS, f, f10, f37, f33]
     refine andK_split (by omega) ?_
     refine growV_hp (b0 := b1) (by simp only [hpS, eq_self, implies_true, f, f10, f37, f33]) (by simp only [hpS, eq_self, implies_true, f, f10, f37, f33]) (fun b34 v34 f34 w34 => ?_)
     simp only [delL_cons, delL_nil, eqn_self, cnd_true, cnd_false, off_cons, off_nil, f, f10, f37, f33] at f34
     simp -dsimp (maxDischargeDepth := 9) only [go_sem, zA, zB, zC, zD, zE, zF, zG, gS, f, f10, f37, f33, f34]
     refine andK_split (by omega) ?_
     refine growV_hp (b0 := b2) (by simp only [hpS, eq_self, implies_true, f, f10, f37, f33, f34]) (by simp only [hpS, eq_self, implies_true, f, f10, f37, f33, f34]) (fun b38 v38 f38 w38 => ?_)
     simp only [delL_cons, delL_nil, eqn_self, cnd_true, cnd_false, off_cons, off_nil, f, f10, f37, f33, f34] at f38
     simp -dsimp (maxDischargeDepth := 9) only [go_sem, zA, zB, zC, zD, zE, zF, zG, gS, f, f10, f37, f33, f34, f38]
     have hw34 : IntKind.i64.wrap ((p : Int) + (ttext.size : Int)) = ((p + ttext.size : Nat) : Int) := by rw [wrap64 (by omega) (by omega)]; omega
     simp -dsimp (maxDischargeDepth := 9) only [go_sem, zA, zB, zC, zD, zE, zF, zG, gS, f, f10, f37, f33, f34, f38, hw34]
     refine roundQ_next ⟨k, p + ttext.size, false, pl ++ [(p : Int)], ts ++ [Tok.mk tkind ttext tint], b34, v34, b38, v38⟩ (hp H [(b34, .arr 3 1 v34 ((pl ++ [(p : Int)]).map (.int .i64))), (b38, .arr 199 3 v38 ((ts ++ [Tok.mk tkind ttext tint]).map Tok.d))])
      ⟨rfl, by simp only [hpS, eq_self, implies_true, f, f10, f37, f33, f34, f38], ⟨w34, w38⟩, ⟨hz2, by simp only; omega⟩, ⟨by simp only [List.length_append, List.length_cons, List.length_nil]; omega, by simp only [List.length_append, List.length_cons, List.length_nil]; omega⟩, hrun⟩ (Nat.lt_succ_self k) (by simp -dsimp (maxDischargeDepth := 9) only [go_sem, zA, zB, zC, zD, zE, zF, zG, gS]) ?_
     simp only [List.map_append, List.map_cons, List.map_nil, Tok.d, Tok.cs]
     exact (leH_hp (by simp only [hpS, eq_self, implies_true, f, f10, f37, f33, f34, f38]) (by simp only [hpS, eq_self, implies_true, f, f10, f37, f33, f34, f38]))
 ·have hfin : rAll s s.size 0 false [] [] = (pl, ts, true) := by
   have h1' : s.size ≤ p := by have := of_decide_eq_false g1; omega
   rw [← hrun]
   cases k with
   | zero => rfl
   | succ k => simp [rAll, Nat.not_lt.2 h1']
  rw [hfin] at hK
  simp -dsimp (maxDischargeDepth := 9) only [go_sem, zA, zB, zC, zD, zE, zF, zG, gS, g1]
  refine retW_tup [true, true, true] ?_
  simp -dsimp (maxDischargeDepth := 9) only [go_sem, zA, zB, zC, zD, zE, zF, zG, gS, f]
  exact retW_drop (G := H) (leH_hp0 (by simp only [hpS, eq_self, implies_true, f])) (retW_is hK)
end Go.Aug

/- The reference's parser: a source. -/
namespace Go.Aug
open Nat renaming reduceBEq → zA, reduceLT → zB, reduceAdd → zC, reduceSub → zD, reduceMul → zE, reduceLeDiff → zF
open Int renaming reduceLE → zG
open Go.Proofs
set_option maxRecDepth 100000
set_option linter.unusedSimpArgs false
attribute [local irreducible] hid andK letA onSome onVar onArr arrOnly onInt onBool onFunc onTup idxA ldV ldD addO appTo fillL slA srcK nilQ retW gif sgd sguard svc sops sdops sagain aopO aLoad aStore aBin aUn aConv aLen aIndexAddr aIndex aIndexAddrS aIndexS aSlice aAppend aBuild aBuildSlice aMakeSlice aField aFieldOf aCallOp deepK deepL frzM putE newK newV growV ACall roundQ thenQ inBlockQ sret cnd szs nilC onMap onRow aLookup aMapUpdate aMakeMap
attribute [local go_sem] Int.natCast_zero
theorem rAll_len {s : ByteArray} : ∀ (k p : Nat) (cm : Bool) (pl : List Int) (ts : List Tok), p ≤ s.size → ts.length ≤ p → (rAll s k p cm pl ts).2.1.length ≤ s.size
 | 0, p, cm, pl, ts, h1, h2 => by simp only [rAll]; omega
 | k + 1, p, cm, pl, ts, h1, h2 => by
  simp only [rAll]
  split
  ·simp only; omega
  ·rename_i c hc
   have hlt : p < s.size := by
    apply Classical.byContradiction; intro hn
    simp [hn] at hc
   repeat' split
   ·exact rAll_len k _ _ _ _ hlt (by omega)
   ·exact rAll_len k _ _ _ _ hlt (by omega)
   ·exact rAll_len k _ _ _ _ hlt (by omega)
   ·rename_i h
    have := rWord_size hc h
    exact rAll_len k _ _ _ _ this.2 (by simp only [List.length_append, List.length_cons, List.length_nil]; omega)
   ·simp only; omega
/-- The tokens of a text; the error's number. -/
def rlex (s : ByteArray) : List Tok × Int :=
 if 16384 < s.size then ([], 4) else if (rAll s s.size 0 false [] []).2.2 = true then ((rAll s s.size 0 false [] []).2.1, 0) else ([], 1)
theorem rlex_len (s : ByteArray) : (rlex s).1.length ≤ 16384 := by
 unfold rlex
 repeat' split
 ·simp
 ·exact Nat.le_trans (rAll_len _ _ _ _ _ (Nat.zero_le _) (by simp)) (by omega)
 ·simp
theorem lex_ok {eb : EbG} (H : Heap) (s : ByteArray) (K : A → Heap → Prop) (hK : K (.tup [.d (.slice ((rlex s).1.map Tok.d)), .d (.int .i64 (rlex s).2)]) H) :
  ACall Tryd.prog (seatV eb) 111 [.d (.str s)] H K := by
 refine ACall.by mixed fn111 (by simp) ?_
 conv in s111 => cbv
 refine svc_start ?_
 simp -dsimp (maxDischargeDepth := 9) only [go_sem, zA, zB, zC, zD, zE, zF, zG, gS]
 refine gif_split (fun g1 => ?_) (fun g1 => ?_)
 ·have g1' : 16384 < s.size := by have := of_decide_eq_true g1; omega
  simp only [rlex, if_pos g1'] at hK
  simp -dsimp (maxDischargeDepth := 9) only [go_sem, zA, zB, zC, zD, zE, zF, zG, gS, g1]
  refine retW_tup [true, true] ?_
  simp -dsimp (maxDischargeDepth := 9) only [go_sem, zA, zB, zC, zD, zE, zF, zG, gS]
  exact retW_is hK
 ·have g1' : ¬ 16384 < s.size := by have := of_decide_eq_false g1; omega
  simp only [rlex, if_neg g1'] at hK
  simp -dsimp (maxDischargeDepth := 9) only [go_sem, zA, zB, zC, zD, zE, zF, zG, gS, g1]
  refine all_ok _ s (by omega) _ ?_
  generalize rAll s s.size 0 false [] [] = x at hK ⊢
  obtain ⟨pl, ts, ok⟩ := x
  simp -dsimp (maxDischargeDepth := 9) only [go_sem, zA, zB, zC, zD, zE, zF, zG, gS]
  cases ok with
  | true =>
   simp only [if_true] at hK
   simp -dsimp (maxDischargeDepth := 9) only [go_sem, zA, zB, zC, zD, zE, zF, zG, gS]
   exact retW_is hK
  | false =>
   simp only [Bool.false_eq_true, if_false] at hK
   simp -dsimp (maxDischargeDepth := 9) only [go_sem, zA, zB, zC, zD, zE, zF, zG, gS]
   refine retW_tup [true, true] ?_
   simp -dsimp (maxDischargeDepth := 9) only [go_sem, zA, zB, zC, zD, zE, zF, zG, gS]
   exact retW_is hK
theorem read_ok {eb : EbG} (H : Heap) (s : ByteArray) (K : A → Heap → Prop) (hK : ∀ b, H b = none → K (.ref b 0) (upd H b (.var (rdA (rlex s).1 ⟨0, (rlex s).2⟩)))) :
  ACall Tryd.prog (seatV eb) 58 [.d (.str s)] H K := by
 refine ACall.by mixed fn58 (by simp) ?_
 conv in s58 => cbv
 refine svc_start ?_
 simp -dsimp (maxDischargeDepth := 9) only [go_sem, zA, zB, zC, zD, zE, zF, zG, gS]
 refine lex_ok _ s _ ?_
 simp -dsimp (maxDischargeDepth := 9) only [go_sem, zA, zB, zC, zD, zE, zF, zG, gS]
 refine newK_intro (fun b hb _ _ => ?_)
 simp -dsimp (maxDischargeDepth := 9) only [go_sem, zA, zB, zC, zD, zE, zF, zG, gS]
 exact retW_is (hK b hb)
theorem done_ok {eb : EbG} (H : Heap) (r : Nat) (l : List Tok) (s : RdS) (h : RdAt H r l s) (K : A → Heap → Prop) (hK : K (.d (.int .i64 (rdone l s).err)) (rset H r l (rdone l s))) :
  ACall Tryd.prog (seatV eb) 63 [.ref r 0] H K := by
 refine ACall.hp_in h.at_ ?_
 refine ACall.by mixed fn63 (by simp) ?_
 conv in s63 => cbv
 refine svc_start ?_
 simp -dsimp (maxDischargeDepth := 9) only [go_sem, zA, zB, zC, zD, zE, zF, zG, gS, rdA]
 have h0 : ∀ e, e = s.err → ¬ (s.err = 0 ∧ s.pos < l.length) → K (.d (.int .i64 e)) (hp H [(r, .var (rdA l s))]) := fun e he hn => by
  rw [rdone, if_neg hn] at hK; subst he; exact hK
 refine gif_split (fun g1 => ?_) (fun g1 => ?_)
 ·simp -dsimp (maxDischargeDepth := 9) only [go_sem, zA, zB, zC, zD, zE, zF, zG, gS, g1]
  refine gif_split (fun g2 => ?_) (fun g2 => ?_)
  ·have hn : s.err = 0 ∧ s.pos < l.length := ⟨of_decide_eq_true g1, by have := of_decide_eq_true g2; omega⟩
   rw [rdone, if_pos hn] at hK
   simp -dsimp (maxDischargeDepth := 9) only [go_sem, zA, zB, zC, zD, zE, zF, zG, gS, g2]
   exact retW_is hK
  ·simp -dsimp (maxDischargeDepth := 9) only [go_sem, zA, zB, zC, zD, zE, zF, zG, gS, g2]
   exact retW_is (h0 _ rfl (fun hn => by have := of_decide_eq_false g2; have := hn.2; omega))
 ·simp -dsimp (maxDischargeDepth := 9) only [go_sem, zA, zB, zC, zD, zE, zF, zG, gS, g1]
  exact retW_is (h0 _ rfl (fun hn => of_decide_eq_false g1 hn.1))
set_option maxHeartbeats 4000000 in
theorem source_ok {eb : EbG} (H : Heap) (s : ByteArray) (K : A → Heap → Prop) (hK : K (.tup [.d (.slice ((rsource (rlex s).1 (rlex s).2).1.map It.d)), .d (.int .i64 (rsource (rlex s).1 (rlex s).2).2)]) H) :
  ACall Tryd.prog (seatV eb) 23 [.d (.str s)] H K := by
 refine ACall.hp_start ?_
 refine ACall.by mixed fn23 (by simp) ?_
 conv in s23 => cbv
 refine svc_start ?_
 simp -dsimp (maxDischargeDepth := 9) only [go_sem, zA, zB, zC, zD, zE, zF, zG, gS]
 have hlen := rlex_len s
 refine read_ok _ s _ (fun b4 hb4 => ?_)
 have f4 := off_of hb4
 simp only [off_nil] at f4
 generalize (rlex s).1 = l at hlen hK ⊢
 generalize (rlex s).2 = e at hK ⊢
 simp -dsimp (maxDischargeDepth := 9) only [go_sem, zA, zB, zC, zD, zE, zF, zG, gS]
 refine newV_hp (fun b5 v5 f5 w5 => ?_)
 simp only [off_cons, off_nil] at f5
 simp -dsimp (maxDischargeDepth := 9) only [go_sem, zA, zB, zC, zD, zE, zF, zG, gS, f4, f5]
 refine (fun (key : ∀ (is : List It) (s1 : RdS) (b : Nat) (v : Value), (eqn b b4 = false ∧ eqn b4 b = false ∧ H b = none) → v.ownBlock = some b → s1.pos ≤ l.length → ritems l (l.length + 1) [] ⟨0, e⟩ = (is, s1) → (?T1 : List It → RdS → Nat → Value → Prop) is s1 b v) => ?main) ?rest
 case main =>
  refine svc_loop (X := Nat × List It × RdS × Nat × Value) (fun x => [(4, .ref b4 0), (5, .own x.2.2.2.1 x.2.2.2.2)])
   (fun x G => G = hp H [(b4, .var (rdA l x.2.2.1)), (x.2.2.2.1, .arr 68 20 x.2.2.2.2 (x.2.1.map It.d))] ∧ (eqn x.2.2.2.1 b4 = false ∧ eqn b4 x.2.2.2.1 = false ∧ H x.2.2.2.1 = none) ∧ x.2.2.2.2.ownBlock = some x.2.2.2.1 ∧ x.2.2.1.pos ≤ l.length ∧ x.2.1.length ≤ 512 ∧ (x.2.2.1.err = 0 → l.length + 1 ≤ x.1 + x.2.2.1.pos) ∧ ritems l x.1 x.2.1 x.2.2.1 = ritems l (l.length + 1) [] ⟨0, e⟩)
   (fun x => x.1) (l.length + 1, [], ⟨0, e⟩, b5, v5) _ ⟨rfl, f5, w5, by simp, by simp, by simp, rfl⟩ (by simp -dsimp (maxDischargeDepth := 9) only [go_sem, zA, zB, zC, zD, zE, zF, zG, gS]) (.refl _) ?_
  rintro ⟨k, is, s1, b6, v6⟩ G ⟨hG, f6, w6, hle, hn, hk, hrun⟩
  simp only at hG f6 w6 hle hn hk hrun
  subst hG
  have hsh : l.length < 1073741824 := by clear key; omega
  simp -dsimp (maxDischargeDepth := 9) only [go_sem, zA, zB, zC, zD, zE, zF, zG, gS]
  refine end_ok _ b4 l s1 ⟨by simp only [hpS, eq_self, implies_true, f4, f6], hsh, hle⟩ _ ?_
  cases hend : rend l s1 with
  | true =>
   simp -dsimp (maxDischargeDepth := 9) only [go_sem, zA, zB, zC, zD, zE, zF, zG, gS]
   refine key is s1 b6 v6 f6 w6 hle ?_
   rw [← hrun]
   cases k with
   | zero => rfl
   | succ k => simp [ritems, hend]
  | false =>
   obtain ⟨he0, hlt, _⟩ := rend_tok hend
   obtain ⟨k, rfl⟩ : ∃ k', k = k' + 1 := ⟨k - 1, by have := hk he0; clear key; omega⟩
   simp only [ritems, hend, Bool.false_eq_true, if_false] at hrun
   simp -dsimp (maxDischargeDepth := 9) only [go_sem, zA, zB, zC, zD, zE, zF, zG, gS, f4, f6]
   refine gif_split (fun g2 => ?_) (fun g2 => ?_)
   ·have g2' : is.length = 512 := by have := of_decide_eq_true g2; clear key; omega
    rw [if_pos g2'] at hrun
    simp -dsimp (maxDischargeDepth := 9) only [go_sem, zA, zB, zC, zD, zE, zF, zG, gS, g2]
    refine fail_ok _ b4 l s1 4 ⟨by simp only [hpS, eq_self, implies_true, f4, f6], hsh, hle⟩ _ ?_
    have hle2 : (rfail 4 s1).pos ≤ l.length := by rw [rfail_pos]; exact hle
    generalize rfail 4 s1 = s2 at hrun hle2 ⊢
    simp -dsimp (maxDischargeDepth := 9) only [go_sem, zA, zB, zC, zD, zE, zF, zG, gS, f4, f6]
    exact key is s2 b6 v6 f6 w6 hle2 hrun.symm
   ·have g2' : ¬ is.length = 512 := by have := of_decide_eq_false g2; clear key; omega
    rw [if_neg g2'] at hrun
    simp -dsimp (maxDischargeDepth := 9) only [go_sem, zA, zB, zC, zD, zE, zF, zG, gS, g2]
    refine item_ok _ b4 l s1 ⟨by simp only [hpS, eq_self, implies_true, f4, f6], hsh, hle⟩ _ ?_
    have hle2 := (ritem_steps l).le _ hle
    have hge2 := (ritem_steps l).ge s1
    generalize (ritem l s1).1 = it at hrun ⊢
    generalize (ritem l s1).2 = s2 at hrun hle2 hge2 ⊢
    have hcs := it.cs_length
    simp -dsimp (maxDischargeDepth := 9) only [go_sem, zA, zB, zC, zD, zE, zF, zG, gS, f4, f6, It.d, hcs]
    refine newV_hp (fun b7 v7 f7 w7 => ?_)
    simp only [off_cons, off_nil] at f7
    simp -dsimp (maxDischargeDepth := 9) only [go_sem, zA, zB, zC, zD, zE, zF, zG, gS, f4, f6, f7, hcs]
    refine andK_split (by clear key; omega) ?_
    refine growV_hp (b0 := b6) (by simp only [hpS, eq_self, implies_true, f4, f6, f7]) (by simp only [hpS, eq_self, implies_true, f4, f6, f7]) (fun b8 v8 f8 w8 => ?_)
    simp only [delL_cons, delL_nil, eqn_self, cnd_true, cnd_false, off_cons, off_nil, f4, f6, f7] at f8
    simp -dsimp (maxDischargeDepth := 9) only [go_sem, zA, zB, zC, zD, zE, zF, zG, gS, f4, f6, f7, f8]
    refine need_ok _ b4 l s2 kDot ⟨by simp only [hpS, eq_self, implies_true, f4, f6, f7, f8], hsh, hle2⟩ _ ?_
    have hle3 := rneed_le (t := kDot) hle2
    have hok3 := rneed_ok (l := l) (t := kDot) (s := s2)
    generalize rneed l kDot s2 = s3 at hrun hle3 hok3 ⊢
    simp -dsimp (maxDischargeDepth := 9) only [go_sem, zA, zB, zC, zD, zE, zF, zG, gS, f4, f6, f7, f8]
    refine roundQ_next (k, is ++ [it], s3, b8, v8) (hp H [(b4, .var (rdA l s3)), (b8, .arr 68 20 v8 ((is ++ [it]).map It.d))]) ⟨rfl, by simp only [hpS, eq_self, implies_true, f8], w8, hle3, ?_, ?_, hrun⟩ (Nat.lt_succ_self k) (by simp -dsimp (maxDischargeDepth := 9) only [go_sem, zA, zB, zC, zD, zE, zF, zG, gS]) ?_
    ·clear key; simp only [List.length_append, List.length_cons, List.length_nil]; omega
    ·intro h3; have := hok3 h3; have := hk he0; clear key; simp only; omega
    ·simp only [List.map_append, List.map_cons, List.map_nil, It.d]
     exact (leH_hp (by simp only [hpS, eq_self, implies_true, f4, f6, f7, f8]) (by simp only [hpS, eq_self, implies_true, f4, f6, f7, f8]))
 case rest =>
  intro is s1 b v f6 w6 hle hfin
  try simp -dsimp (maxDischargeDepth := 9) only [go_sem, zA, zB, zC, zD, zE, zF, zG, gS, f4, f6]
  have hsh : l.length < 1073741824 := by omega
  refine done_ok _ b4 l s1 ⟨by simp only [hpS, eq_self, implies_true, f4, f6], hsh, hle⟩ _ ?_
  simp only [rsource, hfin] at hK
  simp -dsimp (maxDischargeDepth := 9) only [go_sem, zA, zB, zC, zD, zE, zF, zG, gS, f4, f6]
  refine gif_split (fun g2 => ?_) (fun g2 => ?_)
  ·have g2' : (rdone l s1).err ≠ 0 := by simpa using g2
   rw [if_pos g2'] at hK
   simp -dsimp (maxDischargeDepth := 9) only [go_sem, zA, zB, zC, zD, zE, zF, zG, gS, g2, f4, f6, rdA]
   refine retW_tup [true, true] ?_
   simp -dsimp (maxDischargeDepth := 9) only [go_sem, zA, zB, zC, zD, zE, zF, zG, gS, f4, f6]
   exact retW_drop (G := H) (leH_hp0 (by simp only [hpS, eq_self, implies_true, f4, f6])) (retW_is hK)
  ·have g2' : ¬ (rdone l s1).err ≠ 0 := by simpa using g2
   rw [if_neg g2'] at hK
   simp -dsimp (maxDischargeDepth := 9) only [go_sem, zA, zB, zC, zD, zE, zF, zG, gS, g2, f4, f6, rdA]
   refine retW_tup [true, true] ?_
   simp -dsimp (maxDischargeDepth := 9) only [go_sem, zA, zB, zC, zD, zE, zF, zG, gS, f4, f6]
   exact retW_drop (G := H) (leH_hp0 (by simp only [hpS, eq_self, implies_true, f4, f6])) (retW_is hK)
end Go.Aug

/- slices.Clone. -/
namespace Go.Aug
open Go.Proofs
set_option maxRecDepth 100000
set_option linter.unusedSimpArgs false
attribute [local irreducible] hid andK letA onSome onVar onArr arrOnly onInt onBool onFunc onTup idxA ldV ldD addO appTo fillL slA srcK nilQ retW gif sgd sguard svc sops sdops sagain aopO aLoad aStore aBin aUn aConv aLen aIndexAddr aIndex aIndexAddrS aIndexS aSlice aAppend aBuild aBuildSlice aMakeSlice aField aFieldOf aCallOp deepK deepL frzM putE newK newV growV ACall roundQ thenQ inBlockQ sret cnd szs nilC onMap onRow aLookup aMapUpdate aMakeMap
attribute [local go_sem] Int.natCast_zero
end Go.Aug

/- alive of the layers of names and of flat goals: the examples, reckoned. -/
namespace Go.Aug
open Go.Proofs
set_option maxRecDepth 100000
end Go.Aug
