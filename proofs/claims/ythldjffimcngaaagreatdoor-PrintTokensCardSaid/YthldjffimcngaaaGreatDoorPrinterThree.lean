/- The contracts of the printers; conditions stand in each contract. -/
import Derived.Test.YthldjffimcngaaaGreatDoorPrinterTwo
import Derived.Test.YthldjffimcngaaaGreatDoorAnswerOne
import Derived.Test.YthldjffimcngaaaGreatDoorLikesOne
import Derived.Test.YthldjffimcngaaaGreatDoorFormsOne
set_option linter.all false
set_option linter.unusedVariables false
set_option linter.unusedSimpArgs false
set_option linter.unusedSectionVars false

/- The reference's Source; PrintItems. -/
namespace Go.Aug
open Go.Proofs
set_option maxRecDepth 100000
set_option linter.unusedSimpArgs false
attribute [local irreducible] hid andK letA onSome onVar onArr arrOnly onInt onBool onTup idxA ldV ldD addO ofPart appTo fillL slA srcK nilQ retW gif sgd sguard svc sops sdops sagain aopO aLoad aStore aBin aUn aConv aLen aIndexAddr aIndex aIndexAddrS aIndexS aSlice aAppend aBuild aBuildSlice aMakeSlice aField aFieldOf aCallOp deepK deepL frzM putE newK newV growV ACall roundQ thenQ inBlockQ sret cnd szs nilC onRow aLookup aMapUpdate aMakeMap
attribute [local go_sem] Int.natCast_zero
variable {eb : EbG}
end Go.Aug

/- PrintParts: terms, goals and types, printed, are read as they were (printed by PvV.py). -/
namespace Go.Aug
open Go.Proofs
set_option maxRecDepth 100000
set_option linter.unusedSimpArgs false
attribute [local irreducible] hid andK letA onSome onVar onArr arrOnly onInt onBool onTup idxA ldV ldD addO ofPart appTo fillL slA srcK nilQ retW gif sgd sguard svc sops sdops sagain aopO aLoad aStore aBin aUn aConv aLen aIndexAddr aIndex aIndexAddrS aIndexS aSlice aAppend aBuild aBuildSlice aMakeSlice aField aFieldOf aCallOp deepK deepL frzM putE newK newV growV ACall roundQ thenQ inBlockQ sret cnd szs nilC onRow aLookup aMapUpdate aMakeMap
attribute [local go_sem] Int.natCast_zero
variable {eb : EbG}
end Go.Aug

/- PrintBack: what was read, printed, is read again as it was. -/
namespace Go.Aug
open Go.Proofs
set_option maxRecDepth 100000
set_option linter.unusedSimpArgs false
attribute [local irreducible] hid andK letA onSome onVar onArr arrOnly onInt onBool onTup idxA ldV ldD addO ofPart appTo fillL slA srcK nilQ retW gif sgd sguard svc sops sdops sagain aopO aLoad aStore aBin aUn aConv aLen aIndexAddr aIndex aIndexAddrS aIndexS aSlice aAppend aBuild aBuildSlice aMakeSlice aField aFieldOf aCallOp deepK deepL frzM putE newK newV growV ACall roundQ thenQ inBlockQ sret cnd szs nilC onRow aLookup aMapUpdate aMakeMap
attribute [local go_sem] Int.natCast_zero
variable {eb : EbG}
end Go.Aug

/- PrintTokens: the form of a source without brackets around goals has its very tokens. -/
namespace Go.Aug
open Go.Proofs
set_option maxRecDepth 100000
set_option linter.unusedSimpArgs false
attribute [local irreducible] hid andK letA onSome onVar onArr arrOnly onInt onBool onTup idxA ldV ldD addO ofPart appTo fillL slA srcK nilQ retW gif sgd sguard svc sops sdops sagain aopO aLoad aStore aBin aUn aConv aLen aIndexAddr aIndex aIndexAddrS aIndexS aSlice aAppend aBuild aBuildSlice aMakeSlice aField aFieldOf aCallOp deepK deepL frzM putE newK newV growV ACall roundQ thenQ inBlockQ sret cnd szs nilC onRow aLookup aMapUpdate aMakeMap
attribute [local go_sem] Int.natCast_zero
variable {eb : EbG}
def BareAt (l : List Tok) (i : Nat) : Prop := ∀ t, l[i]? = some t → (t.text = kOpen → ¬ Ahead l i) ∧ (t.text = kIf → ∀ u, l[i + 1]? = some u → u.text ≠ kTrue)
theorem bare_of {l : List Tok} (h : ∀ i, i < l.length → BareAt l i) : Bare l where
 op := fun i t ht => (h i (List.getElem?_eq_some_iff.1 ht).1 t ht).1
 tr := fun i t u ht hx hu => (h i (List.getElem?_eq_some_iff.1 ht).1 t ht).2 hx u hu
theorem no_1 : ¬ ((⟨#[40]⟩ : ByteArray) = kIf) := by decide
theorem no_2 : ¬ ((⟨#[58, 45]⟩ : ByteArray) = kDot) := by decide
theorem sameTok_ok (l : List Tok) (hl : l.length < 1099511627776) (H : Heap) (K : A → Heap → Prop) (hK : K (.d (.bool true)) H) : ACall Tryz.prog (seatV eb) 17 [.d (.slice (l.map Tok.d)), .d (.slice (l.map Tok.d))] H K := by
 refine ACall.hp_start ?_
 refine ACall.by mixed fn17 (by simp) ?_
 conv in s17 => cbv
 refine svc_start ?_
 simp -dsimp only [go_sem, gS]
 refine svc_loop (X := Nat) (fun j => [(0, .d (.slice (l.map Tok.d))), (1, .d (.slice (l.map Tok.d))), (12, .d (.int .i64 l.length)), (13, .d (.int .i64 j))])
  (fun j G => G = hp H [] ∧ j ≤ l.length) (fun j => l.length - j) 0 (hp H []) ⟨rfl, Nat.zero_le _⟩ (by simp -dsimp only [go_sem, gS]) (.refl _) ?_
 rintro j G ⟨hG, hj⟩
 rw [hG]
 simp -dsimp only [go_sem, gS]
 refine gif_split (fun q => ?_) (fun q => ?_)
 ·have q' : j < l.length := by have := of_decide_eq_true q; omega
  have hw := wrapN (k := j) (by omega)
  obtain ⟨t, ht⟩ := list_at q'
  obtain ⟨k, x, i⟩ := t
  simp -dsimp only [go_sem, gS, q, ht, Tok.d, Tok.cs]
  rw [hw]
  refine roundQ_next (j + 1) _ ⟨rfl, q'⟩ (by omega) (by simp -dsimp only [go_sem, gS]) (.refl _)
 ·simp -dsimp only [go_sem, gS, q]
  exact retW_is hK
set_option maxHeartbeats 4000000 in
theorem printTokens_ok [Envs eb] (s : ByteArray) (H : Heap) (K : A → Heap → Prop) (hK : K (.d (.bool true)) H) : ACall Tryz.prog (seatV eb) 5 [.d (.str s)] H K := by
 have hsrc := fun H => source_ok (eb := eb) H s
 have hlex := fun H => lex_ok (eb := eb) H s
 have hlen := rlex_len s
 have hlf := rlex_f s
 have hrp : rsource (rlex s).1 (rlex s).2 = rpS s := rfl
 obtain ⟨x, hx⟩ : ∃ x, x = rpS s := ⟨_, rfl⟩
 rw [hrp, ← hx] at hsrc
 obtain ⟨l, e⟩ := x
 obtain ⟨y, hy⟩ : ∃ y, y = rlex s := ⟨_, rfl⟩
 rw [← hy] at hlex hlen hlf
 obtain ⟨ts, e2⟩ := y
 simp only at hlen hlf
 refine ACall.hp_start ?_
 refine ACall.by mixed fn5 (by simp) ?_
 conv in s5 => cbv
 refine svc_start ?_
 simp -dsimp only [go_sem, gS]
 refine alive03_ok _ _ ?_
 simp -dsimp only [go_sem, gS]
 refine hsrc _ _ ?_
 simp -dsimp only [go_sem, gS]
 refine hlex _ _ ?_
 simp -dsimp only [go_sem, gS]
 by_cases he : e = 0
 ·subst he
  simp -dsimp only [go_sem, gS]
  have h : rpS s = (l, 0) := hx.symm
  obtain ⟨hg, hll⟩ := source_good h
  have hfew := src_few h
  have hb := source_back hg hll
  have hr0 : rsource ts 0 = (l, 0) ∧ e2 = 0 := by
   obtain ⟨l', h1, h2⟩ := rsrc_ok.1 (hrp.trans h)
   rw [h1] at hy
   obtain ⟨rfl, rfl⟩ := Prod.mk.inj hy
   exact ⟨h2, rfl⟩
  obtain ⟨hr0, rfl⟩ := hr0
  refine svc_loop (X := Nat) (fun j => [(3, .d (.slice (l.map It.d))), (5, .d (.slice (ts.map Tok.d))), (25, .d (.slice (ts.map Tok.d))), (26, .d (.int .i64 ts.length)), (27, .d (.int .i64 j))])
   (fun j G => G = hp H [] ∧ j ≤ ts.length ∧ ∀ i, i < j → BareAt ts i) (fun j => ts.length - j) 0 (hp H []) ⟨rfl, Nat.zero_le _, fun i hi => by omega⟩ (by simp -dsimp only [go_sem, gS]) (.refl _) ?_
  rintro j G ⟨hG, hj, hba⟩
  rw [hG]
  simp -dsimp only [go_sem, gS]
  refine gif_split (fun q => ?_) (fun q => ?_)
  ·have q' : j < ts.length := by have := of_decide_eq_true q; omega
   have hw := wrapN (k := j) (by omega)
   obtain ⟨t, ht⟩ := list_at q'
   obtain ⟨tk, tx, ti⟩ := t
   simp -dsimp only [go_sem, gS, q, ht, Tok.d, Tok.cs]
   refine newK_hp (fun b8 f8 => ?_)
   simp only [off_cons, off_nil] at f8
   simp -dsimp only [go_sem, gS, f8]
   have done : ∀ i, BareAt ts j → i < j + 1 → BareAt ts i := fun i hj' hi => by
    rcases Nat.lt_succ_iff_lt_or_eq.1 hi with h | rfl
    ·exact hba i h
    ·exact hj'
   refine gif_split (fun q1 => ?_) (fun q1 => ?_)
   ·have e1 : tx = ⟨#[40]⟩ := of_decide_eq_true q1
    subst e1
    simp -dsimp only [go_sem, gS, q1]
    refine gif_split (fun q2 => ?_) (fun q2 => ?_)
    ·simp -dsimp only [go_sem, gS, q2, f8]
     exact retW_drop (leH_hp0 (by simp only [hpS, eq_self, implies_true, f8])) (retW_is hK)
    ·simp -dsimp only [go_sem, gS, q2, f8]
     obtain ⟨i, rfl⟩ : ∃ i, j = i + 1 := ⟨j - 1, by have := of_decide_eq_false q2; omega⟩
     have hw2 : IntKind.i64.wrap (((i + 1 : Nat) : Int) - 1) = (i : Int) := by rw [wrap64 (by omega) (by omega)]; omega
     obtain ⟨u, hu⟩ := list_at (show i < ts.length by omega)
     obtain ⟨uk, ux, ui⟩ := u
     simp -dsimp only [go_sem, gS, hw2, hu, Tok.d, Tok.cs, f8]
     refine gif_split (fun q3 => ?_) (fun q3 => ?_)
     ·simp -dsimp only [go_sem, gS, q3, f8]
      exact retW_drop (leH_hp0 (by simp only [hpS, eq_self, implies_true, f8])) (retW_is hK)
     ·have e3 : uk = 1 := by simpa using q3
      subst e3
      simp -dsimp only [go_sem, gS, q3, hw2, hu, Tok.d, Tok.cs, f8]
      refine reserved_ok _ ux _ ?_
      have bad : isReserved ux = false → BareAt ts (i + 1) := fun hr t ht' => by
       rw [ht] at ht'
       cases ht'
       refine ⟨fun _ hA => hA _ (by omega) hu ⟨rfl, hr⟩, fun h => absurd h no_1⟩
      cases hr : isReserved ux with
      | true =>
       simp -dsimp only [go_sem, gS, f8]
       exact retW_drop (leH_hp0 (by simp only [hpS, eq_self, implies_true, f8])) (retW_is hK)
      | false =>
       have d3 : decide ((⟨#[40]⟩ : ByteArray) = ⟨#[58, 45]⟩) = false := by decide
       simp -dsimp only [go_sem, gS, f8, d3, hw]
       refine roundQ_next (i + 1 + 1) _ ⟨rfl, q', fun i' hi => done i' (bad hr) hi⟩ (by omega) (by simp -dsimp only [go_sem, gS]) (leH_hp0 (by simp only [hpS, eq_self, implies_true, f8]))
   ·have n1 : tx ≠ ⟨#[40]⟩ := of_decide_eq_false q1
    simp -dsimp only [go_sem, gS, q1, f8]
    refine gif_split (fun q2 => ?_) (fun q2 => ?_)
    ·have e2 : tx = ⟨#[58, 45]⟩ := of_decide_eq_true q2
     subst e2
     have hlt : j + 1 < ts.length := source_last hr0 ht no_2
     obtain ⟨u, hu⟩ := list_at hlt
     obtain ⟨uk, ux, ui⟩ := u
     simp -dsimp only [go_sem, gS, q2, hw, hu, Tok.d, Tok.cs, f8]
     refine gif_split (fun q3 => ?_) (fun q3 => ?_)
     ·simp -dsimp only [go_sem, gS, q3, f8]
      exact retW_drop (leH_hp0 (by simp only [hpS, eq_self, implies_true, f8])) (retW_is hK)
     ·have n3 : ux ≠ kTrue := of_decide_eq_false q3
      simp -dsimp only [go_sem, gS, q3, hw, f8]
      refine roundQ_next (j + 1) _ ⟨rfl, q', fun i' hi => done i' (fun t ht' => ?_) hi⟩ (by omega) (by simp -dsimp only [go_sem, gS]) (leH_hp0 (by simp only [hpS, eq_self, implies_true, f8]))
      rw [ht] at ht'
      cases ht'
      refine ⟨fun h => absurd h n1, fun _ v hv => ?_⟩
      rw [hu] at hv
      cases hv
      exact n3
    ·have n2 : tx ≠ ⟨#[58, 45]⟩ := of_decide_eq_false q2
     simp -dsimp only [go_sem, gS, q2, hw, f8]
     refine roundQ_next (j + 1) _ ⟨rfl, q', fun i' hi => done i' (fun t ht' => ?_) hi⟩ (by omega) (by simp -dsimp only [go_sem, gS]) (leH_hp0 (by simp only [hpS, eq_self, implies_true, f8]))
     rw [ht] at ht'
     cases ht'
     exact ⟨fun h => absurd h n1, fun h => absurd h n2⟩
  ·simp -dsimp only [go_sem, gS, q]
   have hB : Bare ts := bare_of fun i hi => hba i (by have := of_decide_eq_false q; omega)
   have htk : ts = itsK l := source_took hlf hB hr0
   refine srcP_ok h _ _ ?_
   have hsz := bytesB_size (itsT l)
   by_cases hs : (itsT l).length ≤ 16384
   ·rw [if_pos hs] at hb
    have d1 : decide ((((bytesB (itsT l)).size : Nat) : Int) > 16384) = false := decide_eq_false (by omega)
    simp -dsimp only [go_sem, gS, d1]
    refine lex_ok _ _ _ ?_
    rw [hb.1, ← htk]
    simp -dsimp only [go_sem, gS]
    refine sameTok_ok ts (by omega) _ _ ?_
    simp -dsimp only [go_sem, gS]
    exact retW_is hK
   ·have d1 : decide ((((bytesB (itsT l)).size : Nat) : Int) > 16384) = true := decide_eq_true (by omega)
    simp -dsimp only [go_sem, gS, d1]
    exact retW_is hK
 ·have d0 : decide (e = 0) = false := decide_eq_false he
  simp -dsimp only [go_sem, gS, d0, Bool.not_false]
  exact retW_is hK
end Go.Aug
