/- The contracts of the reference's lexer and parser; conditions stand in each contract. -/
import Derived.Test.YthldjffimcngaaaGreatDoorReaderOne
import Derived.Test.YthldjffimcngaaaGreatDoorGrammarOne
set_option linter.all false
set_option linter.unusedVariables false
set_option linter.unusedSimpArgs false
set_option linter.unusedSectionVars false

/- Walks of ParA. -/
namespace Go.Aug
open Go.Proofs
set_option maxRecDepth 100000
set_option linter.unusedSimpArgs false
attribute [local irreducible] hid andK letA onSome onVar onArr arrOnly onInt onBool onTup idxA ldV ldD addO ofPart appTo fillL slA srcK nilQ retW gif sgd sguard svc sops sdops sagain aopO aLoad aStore aBin aUn aConv aLen aIndexAddr aIndex aIndexAddrS aIndexS aSlice aAppend aBuild aBuildSlice aMakeSlice aField aFieldOf aCallOp deepK deepL frzM putE newK newV growV ACall roundQ thenQ inBlockQ sret cnd szs nilC onRow aLookup aMapUpdate aMakeMap
attribute [local go_sem] Int.natCast_zero
theorem end_ok {eb : EbG} (H : Heap) (r : Nat) (l : List Tok) (s : RdS) (h : RdAt H r l s) (K : A → Heap → Prop) (hK : K (.d (.bool (rend l s))) H) : ACall Tryz.prog (seatV eb) 37 [.ref r 0] H K := by
 have hr := h.at_
 have hK' : K (.d (.bool (!decide (s.err = 0) || decide (l.length ≤ s.pos)))) H := hK
 refine ACall.by mixed fn37 (by simp) ?_
 conv in s37 => cbv
 refine svc_start ?_
 simp -dsimp only [go_sem, gS, hr, rdA]
 refine gif_split (fun h1 => ?_) (fun h1 => ?_)
 ·simp -dsimp only [go_sem, gS, h1]
  refine retW_is ?_
  simpa [h1] using hK'
 ·simp -dsimp only [go_sem, gS, h1, hr, rdA]
  refine retW_is ?_
  simpa [h1] using hK'
theorem fail_ok {eb : EbG} (H : Heap) (r : Nat) (l : List Tok) (s : RdS) (e : Int) (h : RdAt H r l s) (K : A → Heap → Prop) (hK : K (.tup []) (rset H r l (rfail e s))) : ACall Tryz.prog (seatV eb) 38 [.ref r 0, .d (.int .i64 e)] H K := by
 have hr := h.at_
 refine ACall.by mixed fn38 (by simp) ?_
 conv in s38 => cbv
 refine svc_start ?_
 simp -dsimp only [go_sem, gS, hr, rdA]
 refine gif_split (fun h1 => ?_) (fun h1 => ?_)
 ·simp -dsimp only [go_sem, gS, h1, hr, rdA]
  refine retW_is ?_
  have h1' : s.err = 0 := by simpa using h1
  simpa [rfail, h1', rset, rdA] using hK
 ·simp -dsimp only [go_sem, gS, h1]
  refine retW_is ?_
  have h1' : ¬ s.err = 0 := by simpa using h1
  simpa [rfail, h1', h.self] using hK
theorem is_ok {eb : EbG} (H : Heap) (r : Nat) (l : List Tok) (s : RdS) (t : ByteArray) (h : RdAt H r l s) (K : A → Heap → Prop) (hK : K (.d (.bool (ris l t s))) H) : ACall Tryz.prog (seatV eb) 117 [.ref r 0, .d (.str t)] H K := by
 have hr := h.at_
 refine ACall.by mixed fn117 (by simp) ?_
 conv in s117 => cbv
 refine svc_start ?_
 simp -dsimp only [go_sem, gS]
 refine end_ok _ r l s h _ ?_
 cases he : rend l s with
 | true =>
  simp -dsimp only [go_sem, gS]
  refine retW_is ?_
  simpa [ris, he] using hK
 | false =>
  obtain ⟨h0, hlt, k, hk⟩ := rend_tok he
  simp -dsimp only [go_sem, gS, hr, rdA, hk, hlt, Tok.d, Tok.cs]
  refine gif_split (fun h1 => ?_) (fun h1 => ?_)
  ·simp -dsimp only [go_sem, gS, h1, hr, rdA, hk, hlt, Tok.d, Tok.cs]
   refine gif_split (fun h2 => ?_) (fun h2 => ?_)
   ·simp -dsimp only [go_sem, gS, h2]
    refine retW_is ?_
    simpa [ris, he, hk, h1, h2] using hK
   ·simp -dsimp only [go_sem, gS, h2, hr, rdA, hk, hlt, Tok.d, Tok.cs]
    refine retW_is ?_
    simpa [ris, he, hk, h1, h2] using hK
  ·simp -dsimp only [go_sem, gS, h1]
   refine retW_is ?_
   simpa [ris, he, hk, h1] using hK

theorem got_ok {eb : EbG} (H : Heap) (r : Nat) (l : List Tok) (s : RdS) (t : ByteArray) (h : RdAt H r l s) (K : A → Heap → Prop) (hK : K (.d (.bool (rgot l t s).1)) (rset H r l (rgot l t s).2)) : ACall Tryz.prog (seatV eb) 85 [.ref r 0, .d (.str t)] H K := by
 have hr := h.at_
 refine ACall.by mixed fn85 (by simp) ?_
 conv in s85 => cbv
 refine svc_start ?_
 simp -dsimp only [go_sem, gS]
 refine is_ok _ r l s t h _ ?_
 cases he : ris l t s with
 | true =>
  have hi := he
  simp only [ris, Bool.and_eq_true, Bool.not_eq_true'] at hi
  have hlt := (rend_tok hi.1).2.1
  have hw := wrapN (k := s.pos) (by have := h.short; omega)
  simp -dsimp only [go_sem, gS, hr, rdA, hw]
  refine retW_is ?_
  simpa [rgot, he, rset, rdA] using hK
 | false =>
  simp -dsimp only [go_sem, gS]
  refine retW_is ?_
  simpa [rgot, he, h.self] using hK
theorem need_ok {eb : EbG} (H : Heap) (r : Nat) (l : List Tok) (s : RdS) (t : ByteArray) (h : RdAt H r l s) (K : A → Heap → Prop) (hK : K (.tup []) (rset H r l (rneed l t s))) : ACall Tryz.prog (seatV eb) 40 [.ref r 0, .d (.str t)] H K := by
 have hr := h.at_
 refine ACall.by mixed fn40 (by simp) ?_
 conv in s40 => cbv
 refine svc_start ?_
 simp -dsimp only [go_sem, gS, hr, rdA]
 refine gif_split (fun h1 => ?_) (fun h1 => ?_)
 ·have h1' : s.err = 0 := by simpa using h1
  simp -dsimp only [go_sem, gS, h1]
  refine got_ok _ r l s t h _ ?_
  cases hg : (rgot l t s).1 with
  | true =>
   simp -dsimp only [go_sem, gS]
   refine retW_is ?_
   simpa [rneed, h1', hg] using hK
  | false =>
   simp -dsimp only [go_sem, gS]
   refine fail_ok _ r l (rgot l t s).2 2 (h.to (rgot_le h.le)) _ ?_
   simp -dsimp only [go_sem, gS]
   refine retW_is ?_
   simpa [rneed, h1', hg, rset_rset] using hK
 ·have h1' : ¬ s.err = 0 := by simpa using h1
  simp -dsimp only [go_sem, gS, h1]
  refine retW_is ?_
  simpa [rneed, h1', h.self] using hK
theorem nest_ok {eb : EbG} (H : Heap) (r : Nat) (l : List Tok) (s : RdS) (n : Nat) (h : RdAt H r l s) (K : A → Heap → Prop) (hK : K (.tup []) (rset H r l (rnest l n s))) : ACall Tryz.prog (seatV eb) 118 [.ref r 0, .d (.int .i64 n)] H K := by
 refine ACall.by mixed fn118 (by simp) ?_
 conv in s118 => cbv
 refine svc_start ?_
 simp -dsimp only [go_sem, gS]
 refine gif_split (fun h1 => ?_) (fun h1 => ?_)
 ·have h1' : 64 < n := by have := of_decide_eq_true h1; omega
  simp -dsimp only [go_sem, gS, h1]
  refine end_ok _ r l s h _ ?_
  cases he : rend l s with
  | true =>
   simp -dsimp only [go_sem, gS]
   refine retW_is ?_
   simpa [rnest, he, h.self] using hK
  | false =>
   simp -dsimp only [go_sem, gS]
   refine fail_ok _ r l s 3 h _ ?_
   simp -dsimp only [go_sem, gS]
   refine retW_is ?_
   simpa [rnest, he, h1'] using hK
 ·have h1' : ¬ 64 < n := by have := of_decide_eq_false h1; omega
  simp -dsimp only [go_sem, gS, h1]
  refine retW_is ?_
  simpa [rnest, h1', h.self] using hK
theorem reserved_ok {eb : EbG} (H : Heap) (s : ByteArray) (K : A → Heap → Prop) (hK : K (.d (.bool (isReserved s))) H) : ACall Tryz.prog (seatV eb) 16 [.d (.str s)] H K := by
 refine ACall.by mixed fn16 (by simp) ?_
 conv in s16 => cbv
 refine svc_start ?_
 simp -dsimp only [go_sem, gS]
 refine newV_intro (fun b v hb hn hm hv => ?_)
 simp -dsimp only [go_sem, gS]
 have hlen : reserved.length = 18 := rfl
 refine svc_loop (fun k : Nat => [(0, .d (.str s)), (5, .own b v), (6, .d (.int .i64 ((18 : Nat) : Int))), (7, .d (.int .i64 k))])
  (fun k G => k ≤ 18 ∧ LeH (upd H b (.arr 9 1 v (reserved.map .str))) G ∧ ∀ (j : Nat) w, j < k → reserved[j]? = some w → w ≠ s) (fun k => 18 - k) 0 (upd H b (.arr 9 1 v (reserved.map .str))) ⟨by omega, .refl _, fun j w h => by omega⟩ (by simp -dsimp only [go_sem, gS]) (.refl _) ?_
 rintro k G ⟨hk, hle1, hj⟩
 have hle : LeH H G := (leH_upd hb (.refl _)).trans hle1
 have hG := hle1 b _ (upd_same ..)
 simp -dsimp only [go_sem, gS]
 refine gif_split (fun h1 => ?_) (fun h1 => ?_)
 ·have hk' : k < 18 := by have := of_decide_eq_true h1; omega
  obtain ⟨w, hw⟩ : ∃ w, reserved[k]? = some w := ⟨reserved[k]'(by rw [hlen]; exact hk'), by simp⟩
  have hkl : k < reserved.length := by rw [hlen]; exact hk'
  have hwk := wrapN (k := k) (by omega)
  simp -dsimp only [go_sem, gS, hG, hw, hkl]
  refine gif_split (fun h2 => ?_) (fun h2 => ?_)
  ·simp -dsimp only [go_sem, gS]
   refine retW_drop hle (retW_is ?_)
   have : isReserved s = true := by
    rw [isReserved, List.any_eq_true]
    exact ⟨w, List.mem_of_getElem? hw, h2⟩
   rwa [this] at hK
  ·simp -dsimp only [go_sem, gS, hwk]
   refine roundQ_next (k + 1) _ ⟨by omega, hle1, ?_⟩ (by omega) (by simp -dsimp only [go_sem, gS]) (.refl _)
   intro j w' hjk hw'
   rcases Nat.lt_succ_iff_lt_or_eq.1 hjk with h | rfl
   ·exact hj j w' h hw'
   ·rw [hw] at hw'; cases hw'; exact of_decide_eq_false h2
 ·simp -dsimp only [go_sem, gS]
  refine retW_drop hle (retW_is ?_)
  have : isReserved s = false := by
   rw [isReserved, List.any_eq_false]
   intro w hw
   obtain ⟨j, hjw⟩ := List.getElem?_of_mem hw
   have : j < 18 := by rw [← hlen]; exact (List.getElem?_eq_some_iff.1 hjw).1
   have h1' := of_decide_eq_false h1
   simpa using hj j w (by omega) hjw
  rwa [this] at hK
theorem word_ok {eb : EbG} (H : Heap) (r : Nat) (l : List Tok) (s : RdS) (kind : Int) (h : RdAt H r l s) (K : A → Heap → Prop) (hK : K (.d (.str (rword l kind s).1)) (rset H r l (rword l kind s).2)) : ACall Tryz.prog (seatV eb) 86 [.ref r 0, .d (.int .i64 kind)] H K := by
 have hr := h.at_
 refine ACall.by mixed fn86 (by simp) ?_
 conv in s86 => cbv
 refine svc_start ?_
 simp -dsimp only [go_sem, gS]
 refine end_ok _ r l s h _ ?_
 cases he : rend l s with
 | true =>
  simp -dsimp only [go_sem, gS]
  refine fail_ok _ r l s 2 h _ ?_
  simp -dsimp only [go_sem, gS]
  refine retW_is ?_
  simpa [rword, he] using hK
 | false =>
  obtain ⟨h0, hlt, k, hk⟩ := rend_tok he
  have hw := wrapN (k := s.pos) (by have := h.short; omega)
  have hw2 : IntKind.i64.wrap (((s.pos + 1 : Nat) : Int) - 1) = (s.pos : Int) := by rw [wrap64 (by omega) (by have := h.short; omega)]; omega
  simp -dsimp only [go_sem, gS, hr, rdA, hk, hlt, Tok.d, Tok.cs]
  refine gif_split (fun h1 => ?_) (fun h1 => ?_)
  ·simp -dsimp only [go_sem, gS, h1]
   refine fail_ok _ r l s 2 h _ ?_
   simp -dsimp only [go_sem, gS]
   refine retW_is ?_
   have h1' : k.kind ≠ kind := by simpa using h1
   simpa [rword, he, hk, h1'] using hK
  ·have h1' : k.kind = kind := by simpa using h1
   simp -dsimp only [go_sem, gS, h1]
   refine (fun (key : isReserved k.text = false ∨ kind ≠ 1 → ?T) => ?main) ?rest
   case main =>
    refine gif_split (fun h2 => ?_) (fun h2 => ?_)
    ·have h2' : kind = 1 := by simpa using h2
     simp -dsimp only [go_sem, gS, h2, hr, rdA, hk, hlt, Tok.d, Tok.cs]
     refine reserved_ok _ k.text _ ?_
     cases hs : isReserved k.text with
     | true =>
      simp -dsimp only [go_sem, gS]
      refine fail_ok _ r l s 2 h _ ?_
      simp -dsimp only [go_sem, gS]
      refine retW_is ?_
      simpa [rword, he, hk, h1', h2', hs] using hK
     | false =>
      simp -dsimp only [go_sem, gS, hr, rdA, hw, hk, hlt, Tok.d, Tok.cs, hw2]
      exact key (.inl hs)
    ·have h2' : ¬ kind = 1 := by simpa using h2
     simp -dsimp only [go_sem, gS, h2, hr, rdA, hw, hk, hlt, Tok.d, Tok.cs, hw2]
     exact key (.inr h2')
   case rest =>
    intro hx
    refine retW_is ?_
    have : ¬ (k.kind ≠ kind ∨ (kind = 1 ∧ isReserved k.text = true)) := by
     rintro (h | ⟨h3, h4⟩)
     ·exact h h1'
     ·rcases hx with hx | hx
      ·rw [hx] at h4; cases h4
      ·exact hx h3
    simpa [rword, he, hk, this, rset, rdA] using hK
theorem more_ok {eb : EbG} (H : Heap) (r : Nat) (l : List Tok) (s : RdS) (n : Nat) (h : RdAt H r l s) (K : A → Heap → Prop) (hK : K (.d (.bool (rmore l n s).1)) (rset H r l (rmore l n s).2)) : ACall Tryz.prog (seatV eb) 87 [.ref r 0, .d (.int .i64 n)] H K := by
 refine ACall.by mixed fn87 (by simp) ?_
 conv in s87 => cbv
 refine svc_start ?_
 simp -dsimp only [go_sem, gS]
 refine (fun (key : ∀ (s1 : RdS) (G : Heap), G = rset H r l s1 → s1.pos ≤ l.length → rmore l n s = rmoreFin l n s1 → (?T : RdS → Heap → Prop) s1 G) => ?main) ?rest
 case main =>
  refine gif_split (fun h1 => ?_) (fun h1 => ?_)
  ·have h1' : n = 0 := by have := of_decide_eq_true h1; clear key; omega
   simp -dsimp only [go_sem, gS, h1]
   refine got_ok _ r l s _ h _ ?_
   cases hg : (rgot l ⟨#[40]⟩ s).1 with
   | false =>
    simp -dsimp only [go_sem, gS]
    refine retW_is ?_
    simpa [rmore, h1', hg] using hK
   | true =>
    have hle := rgot_le (t := ⟨#[40]⟩) h.le
    have hm : rmore l n s = rmoreFin l n (rgot l ⟨#[40]⟩ s).2 := by simp [rmore, h1', hg]
    simp -dsimp only [go_sem, gS]
    generalize (rgot l ⟨#[40]⟩ s).2 = s1 at hle hm ⊢
    generalize hG : rset H r l s1 = G
    exact key s1 G hG.symm hle hm
  ·have h1' : ¬ n = 0 := by have := of_decide_eq_false h1; clear key; omega
   simp -dsimp only [go_sem, gS, h1]
   refine got_ok _ r l s _ h _ ?_
   have h2 := h.to (rgot_le (t := ⟨#[41]⟩) h.le)
   have hr2 := h2.at_
   have herr := rgot_err l ⟨#[41]⟩ s
   cases hg : (rgot l ⟨#[41]⟩ s).1 with
   | true =>
    simp -dsimp only [go_sem, gS]
    refine retW_is ?_
    simpa [rmore, h1', hg] using hK
   | false =>
    simp -dsimp only [go_sem, gS, hr2, rdA]
    refine gif_split (fun h3 => ?_) (fun h3 => ?_)
    ·have h3' : ¬ (rgot l ⟨#[41]⟩ s).2.err = 0 := by simpa using h3
     simp -dsimp only [go_sem, gS, h3]
     refine retW_is ?_
     simpa [rmore, h1', hg, h3'] using hK
    ·have h3' : (rgot l ⟨#[41]⟩ s).2.err = 0 := by simpa using h3
     simp -dsimp only [go_sem, gS, h3]
     refine need_ok _ r l _ _ h2 _ ?_
     have hle := rneed_le (t := ⟨#[44]⟩) (rgot_le (t := ⟨#[41]⟩) h.le)
     have hm : rmore l n s = rmoreFin l n (rneed l ⟨#[44]⟩ (rgot l ⟨#[41]⟩ s).2) := by simp [rmore, h1', hg, h3']
     rw [rset_rset]
     simp -dsimp only [go_sem, gS]
     generalize rneed l ⟨#[44]⟩ (rgot l ⟨#[41]⟩ s).2 = s1 at hle hm ⊢
     generalize hG : rset H r l s1 = G
     exact key s1 G hG.symm hle hm
 case rest =>
  rintro s1 G rfl hle hm
  have h1 := h.to hle
  have hr1 := h1.at_
  rw [hm] at hK
  refine gif_split (fun h2 => ?_) (fun h2 => ?_)
  ·have h2' : n = 8 := by have := of_decide_eq_true h2; omega
   simp -dsimp only [go_sem, gS, h2]
   refine end_ok _ r l s1 h1 _ ?_
   cases he : rend l s1 with
   | true =>
    simp -dsimp only [go_sem, gS, hr1, rdA]
    refine retW_is ?_
    simpa [rmoreFin, he] using hK
   | false =>
    simp -dsimp only [go_sem, gS]
    refine fail_ok _ r l s1 4 h1 _ ?_
    rw [rset_rset]
    have h3 := h.to (s' := rfail 4 s1) (by rw [rfail_pos]; exact hle)
    have hr3 := h3.at_
    simp -dsimp only [go_sem, gS, hr3, rdA]
    refine retW_is ?_
    simpa [rmoreFin, he, h2'] using hK
  ·have h2' : ¬ n = 8 := by have := of_decide_eq_false h2; omega
   simp -dsimp only [go_sem, gS, h2, hr1, rdA]
   refine retW_is ?_
   simpa [rmoreFin, h2'] using hK
end Go.Aug

/- Walks of ParC. -/
namespace Go.Aug
open Go.Proofs
set_option maxRecDepth 100000
set_option linter.unusedSimpArgs false
attribute [local irreducible] hid andK letA onSome onVar onArr arrOnly onInt onBool onTup idxA ldV ldD addO ofPart appTo fillL slA srcK nilQ retW gif sgd sguard svc sops sdops sagain aopO aLoad aStore aBin aUn aConv aLen aIndexAddr aIndex aIndexAddrS aIndexS aSlice aAppend aBuild aBuildSlice aMakeSlice aField aFieldOf aCallOp deepK deepL frzM putE newK newV growV ACall roundQ thenQ inBlockQ sret cnd szs nilC onRow aLookup aMapUpdate aMakeMap
attribute [local go_sem] Int.natCast_zero
set_option maxHeartbeats 2000000 in
theorem term_ok {eb : EbG} : ∀ (f : Nat) (H : Heap) (r : Nat) (l : List Tok) (s : RdS) (n : Nat) (_ : 67 ≤ f + n) (_ : n ≤ 66) (_ : RdAt H r l s) (K : A → Heap → Prop) (_ : K (.d (rterm f l n s).1.d) (rset H r l (rterm f l n s).2)),
  ACall Tryz.prog (seatV eb) 90 [.ref r 0, .d (.int .i64 n)] H K
 | 0, H, r, l, s, n, hf, hn, h, K, hK => by omega
 | f + 1, H, r, l, s, n, hf, hn, h, K, hK => by
  refine ACall.by mixed fn90 (by simp) ?_
  conv in s90 => cbv
  refine svc_start ?_
  simp -dsimp only [go_sem, gS]
  refine newK_intro (fun b4 hb4 hn4 hm4 => ?_)
  have er4 : eqn r b4 = false := hn4 r (by rw [h.at_]; rfl)
  simp -dsimp only [go_sem, gS]
  have h1 : RdAt (upd H b4 (.var [.d (.int .i64 0), .d (.str ⟨#[]⟩), .d (.int .i64 0), .nils])) r l s := ⟨by rw [upd_ne _ _ (of_decide_eq_false er4)]; exact h.at_, h.short, h.le⟩
  refine nest_ok _ r l s n h1 _ ?_
  have h2 := h1.to (s' := rnest l n s) (by rw [rnest_pos]; exact h.le)
  simp -dsimp only [go_sem, gS]
  refine end_ok _ r l _ h2 _ ?_
  have hr2 := h2.at_
  have hfr : ∀ s', rset H r l s' b4 = none := fun s' => by rw [rset, upd_ne _ _ (Ne.symm (of_decide_eq_false er4))]; exact hb4
  refine (fun (key : rterm (f + 1) l n s = (.mk 3 (rword l 1 (rnest l n s)).1 0 (rargs (rterm f l (n + 1)) l 10 [] (rword l 1 (rnest l n s)).2).1, (rargs (rterm f l (n + 1)) l 10 [] (rword l 1 (rnest l n s)).2).2) → ?T) => ?main) ?rest
  case main =>
   cases he : rend l (rnest l n s) with
   | true =>
    simp -dsimp only [go_sem, gS]
    refine end_ok _ r l _ h2 _ ?_
    rw [he]
    simp -dsimp only [go_sem, gS]
    exact key (by simp [rterm, he])
   | false =>
    obtain ⟨h0, hlt, k, hk⟩ := rend_tok he
    have hw := wrapN (k := (rnest l n s).pos) (by have := h.short; clear key; omega)
    have hw2 : IntKind.i64.wrap ((((rnest l n s).pos + 1 : Nat) : Int) - 1) = ((rnest l n s).pos : Int) := by clear key; rw [wrap64 (by omega) (by have := h.short; omega)]; omega
    have er4' : eqn b4 r = false := hm4 r (by rw [h.at_]; rfl)
    simp -dsimp only [go_sem, gS, hr2, rdA, hk, hlt, Tok.d, Tok.cs]
    refine gif_split (fun h3 => ?_) (fun h3 => ?_)
    ·have h3' : k.kind = 3 := of_decide_eq_true h3
     simp -dsimp only [go_sem, gS, h3, hr2, rdA, hk, hlt, Tok.d, Tok.cs, hw, hw2, rset, er4, er4', upd_upd]
     have hv : rterm (f + 1) l n s = (.mk 2 ⟨#[]⟩ k.int [], ⟨(rnest l n s).pos + 1, (rnest l n s).err⟩) := by simp [rterm, he, hk, h3']
     rw [hv] at hK
     refine retW_deep ?_
     simp -dsimp only [go_sem, gS]
     refine retW_drop ?_ (retW_is hK)
     exact leH_upd (hfr _) (leH_both (leH_upd hb4 (.refl _)))
    ·have h3' : ¬ k.kind = 3 := of_decide_eq_false h3
     simp -dsimp only [go_sem, gS, h3]
     refine end_ok _ r l _ h2 _ ?_
     rw [he]
     simp -dsimp only [go_sem, gS, hr2, rdA, hk, hlt, Tok.d, Tok.cs]
     refine gif_split (fun h4 => ?_) (fun h4 => ?_)
     ·have h4' : k.kind = 2 := of_decide_eq_true h4
      simp -dsimp only [go_sem, gS, h4, hr2, rdA, hk, hlt, Tok.d, Tok.cs, hw, hw2, rset, er4, er4', upd_upd]
      have hv : rterm (f + 1) l n s = (.mk 1 k.text 0 [], ⟨(rnest l n s).pos + 1, (rnest l n s).err⟩) := by simp [rterm, he, hk, h4']
      rw [hv] at hK
      refine retW_deep ?_
      simp -dsimp only [go_sem, gS]
      refine retW_drop ?_ (retW_is hK)
      exact leH_upd (hfr _) (leH_both (leH_upd hb4 (.refl _)))
     ·have h4' : ¬ k.kind = 2 := of_decide_eq_false h4
      simp -dsimp only [go_sem, gS, h4]
      exact key (by simp [rterm, he, hk, h3', h4'])
  case rest =>
   intro hval
   rw [hval] at hK
   refine word_ok _ r l _ 1 h2 _ ?_
   rw [rset_rset]
   have h3 := h1.to (s' := (rword l 1 (rnest l n s)).2) (rword_le (by rw [rnest_pos]; exact h.le))
   have hw65 : (rword l 1 (rnest l n s)).2.err = 0 → n + 1 ≤ 66 := fun h0 => by
    have := (rword_ok h0).2.2
    by_cases hx : 64 < n
    ·rw [rnest_deep hx] at this; cases this
    ·omega
   clear hval h2 hr2
   generalize (rword l 1 (rnest l n s)).1 = w at hK ⊢
   generalize (rword l 1 (rnest l n s)).2 = S3 at hK h3 hw65 ⊢
   simp -dsimp only [go_sem, gS]
   refine newK_intro (fun b5 hb5 hn5 hm5 => ?_)
   have er5 : eqn r b5 = false := hn5 r (by rw [h3.at_]; rfl)
   have e45 : eqn b4 b5 = false := hn5 b4 (by rw [rset, upd_ne _ _ (Ne.symm (of_decide_eq_false er4)), upd_same]; rfl)
   have er4' : r ≠ b4 := of_decide_eq_false er4
   have er5' : r ≠ b5 := of_decide_eq_false er5
   have e45' : b4 ≠ b5 := of_decide_eq_false e45
   have hw := wrapN (k := n) (by omega)
   simp -dsimp only [go_sem, gS, upd_upd]
   generalize hZ : upd H b4 (.var [.d (.int .i64 0), .d (.str ⟨#[]⟩), .d (.int .i64 0), .nils]) = Z at h1 h3 hb5 hn5 hm5 ⊢
   have hZ4 : Z b4 = some (.var [.d (.int .i64 0), .d (.str ⟨#[]⟩), .d (.int .i64 0), .nils]) := by rw [← hZ, upd_same]
   have hHZ : LeH H Z := by rw [← hZ]; exact leH_upd hb4 (.refl _)
   have hZ5 : ∀ s', rset Z r l s' b5 = none := fun s' => by
    rw [rset, upd_ne _ _ (Ne.symm er5')] at hb5 ⊢; exact hb5
   have hTr : ∀ s1 a, upd (rset Z r l s1) b5 (.var [.d (.int .i64 3), .d (.str w), .d (.int .i64 0), a]) r = some (.var (rdA l s1)) := fun s1 a => by rw [upd_ne _ _ er5', rset, upd_same]
   have hT4 : ∀ s1 a, upd (rset Z r l s1) b5 (.var [.d (.int .i64 3), .d (.str w), .d (.int .i64 0), a]) b4 = some (.var [.d (.int .i64 0), .d (.str ⟨#[]⟩), .d (.int .i64 0), .nils]) := fun s1 a => by
    rw [upd_ne _ _ e45', rset, upd_ne _ _ (Ne.symm er4'), hZ4]
   have hTs : ∀ s1 s2 a, upd (upd (rset Z r l s1) b5 (.var [.d (.int .i64 3), .d (.str w), .d (.int .i64 0), a])) r (.var (rdA l s2)) = upd (rset Z r l s2) b5 (.var [.d (.int .i64 3), .d (.str w), .d (.int .i64 0), a]) := fun s1 s2 a => by
    rw [upd_comm (Ne.symm er5'), rset, upd_upd]; rfl
   refine svc_loop (X := Nat × List Tm × RdS × A) (fun x => [(0, .ref r 0), (1, .d (.int .i64 n)), (4, .ref b4 0), (5, .ref b5 0)])
    (fun x G => x.2.2.1.pos ≤ l.length ∧ rargs (rterm f l (n + 1)) l x.1 x.2.1 x.2.2.1 = rargs (rterm f l (n + 1)) l 10 [] S3 ∧ x.2.1.length + x.1 = 10 ∧ (x.2.2.1.err = 0 → x.2.1.length ≤ 8 ∧ n + 1 ≤ 66) ∧
     AccAt (upd (rset Z r l x.2.2.1) b5 (.var [.d (.int .i64 3), .d (.str w), .d (.int .i64 0), x.2.2.2])) 39 4 (x.2.1.map Tm.d) x.2.2.2 G) (fun x => x.1) (10, [], S3, .nils) _
    ⟨h3.le, rfl, rfl, fun h0 => ⟨by simp, hw65 h0⟩, .nils ..⟩ (by simp -dsimp only [go_sem, gS]) (.refl _) ?_
   rintro ⟨k, xs, s1, a⟩ G ⟨hpos, hrun, hlen, herr, hacc⟩
   simp only at hpos hrun hlen herr hacc
   have hle := hacc.le
   have hGr := hle _ _ (hTr s1 a)
   have hG5 := hle b5 _ (upd_same ..)
   have hR : RdAt G r l s1 := ⟨hGr, h.short, hpos⟩
   have hln := aLen_acc_eq hacc
   have hlb : lenable Tryz.prog 37 a = true := lenable_acc hacc q_isSliceT_37
   have hmove : ∀ s2, AccAt (upd (rset Z r l s2) b5 (.var [.d (.int .i64 3), .d (.str w), .d (.int .i64 0), a])) 39 4 (xs.map Tm.d) a (rset G r l s2) := fun s2 => by
    have := hacc.set (o' := .var (rdA l s2)) (hTr s1 a)
    rw [hTs] at this; exact this
   simp -dsimp only [go_sem, gS, hGr, rdA]
   refine (fun (key2 : ∀ (s' : RdS) (G' : Heap), AccAt (upd (rset Z r l s') b5 (.var [.d (.int .i64 3), .d (.str w), .d (.int .i64 0), a])) 39 4 (xs.map Tm.d) a G' → rargs (rterm f l (n + 1)) l 10 [] S3 = (xs, s') → (?T2 : Heap → Prop) G') => ?main2) ?rest2
   case main2 =>
    refine gif_split (fun h4 => ?_) (fun h4 => ?_)
    ·have h4' : s1.err = 0 := of_decide_eq_true h4
     obtain ⟨hl8, hn66⟩ := herr h4'
     obtain ⟨k, rfl⟩ : ∃ k', k = k' + 1 := ⟨k - 1, by clear key2; omega⟩
     simp -dsimp only [go_sem, gS, h4, hG5, hlb, hln]
     refine more_ok _ r l s1 xs.length hR _ ?_
     have hR2 := hR.to (rmore_le (n := xs.length) hpos)
     cases hm : (rmore l xs.length s1).1 with
     | false =>
      have hfin : rargs (rterm f l (n + 1)) l 10 [] S3 = (xs, (rmore l xs.length s1).2) := by rw [← hrun]; simp [rargs, h4', hm]
      have hm2 := hmove (rmore l xs.length s1).2
      simp -dsimp only [go_sem, gS]
      generalize (rmore l xs.length s1).2 = s2 at hfin hm2 ⊢
      generalize rset G r l s2 = G' at hm2 ⊢
      exact key2 s2 G' hm2 hfin
     | true =>
      obtain ⟨he2, hp2, h82⟩ := rmore_true hm
      have hm2 := hmove (rmore l xs.length s1).2
      have hrun' : rargs (rterm f l (n + 1)) l k (xs ++ [(rterm f l (n + 1) (rmore l xs.length s1).2).1]) (rterm f l (n + 1) (rmore l xs.length s1).2).2 = rargs (rterm f l (n + 1)) l 10 [] S3 := by
       rw [← hrun]; simp [rargs, h4', hm]
      have h8' : xs.length = 8 → (rterm f l (n + 1) (rmore l xs.length s1).2).2.err ≠ 0 := fun h8 => rterm_end (by clear key2; omega) (h82 h8)
      have hpos3 := rterm_le f (n + 1) _ (rmore_le (n := xs.length) hpos)
      clear hrun hmove he2 hp2 h82 hm
      have hmove : ∀ s3, AccAt (upd (rset Z r l s3) b5 (.var [.d (.int .i64 3), .d (.str w), .d (.int .i64 0), a])) 39 4 (xs.map Tm.d) a (rset (rset G r l (rmore l xs.length s1).2) r l s3) := fun s3 => by
       have := hm2.set (o' := .var (rdA l s3)) (hTr _ a)
       rw [hTs] at this; exact this
      generalize (rmore l xs.length s1).2 = s2 at hR2 hm2 hrun' h8' hpos3 hmove ⊢
      have hG52 := hm2.le b5 _ (upd_same ..)
      simp -dsimp only [go_sem, gS, hG52, hw]
      refine term_ok f _ r l s2 (n + 1) (by clear key2; omega) hn66 hR2 _ ?_
      have hm3 := hmove (rterm f l (n + 1) s2).2
      have hG53 := hm3.le b5 _ (upd_same ..)
      rw [rset_rset] at hm3 hG53 ⊢
      generalize (rterm f l (n + 1) s2).1 = t at hrun' ⊢
      generalize (rterm f l (n + 1) s2).2 = s3 at hm3 hG53 hrun' h8' hpos3 ⊢
      have hcs := t.cs_length
      simp -dsimp only [go_sem, gS, hG53, Tm.d, hcs]
      refine newV_intro (fun bn vn hbn hnn hmn hvn => ?_)
      have e5n : eqn b5 bn = false := hnn b5 (by rw [hG53]; rfl)
      simp -dsimp only [go_sem, gS, e5n, hG53, hcs]
      refine appTo_acc (hm3.up hbn) ?_ (fun a' H' h' => ?_)
      ·clear key2; simp only [List.length_map, List.length_cons, List.length_nil]; omega
      have hH5 := h'.le b5 _ (upd_same ..)
      obtain ⟨hag, hac⟩ := h'.one
      simp -dsimp only [go_sem, gS, hH5, hag, hac]
      refine roundQ_next (k, xs ++ [t], s3, a') _ ⟨hpos3, hrun', ?_, ?_, ?_⟩ ?_ (by simp -dsimp only [go_sem, gS]) (.refl _)
      ·clear key2; simp only [List.length_append, List.length_cons, List.length_nil]; omega
      ·intro h0
       refine ⟨?_, Nat.le_of_succ_le_succ hn66⟩
       have : xs.length ≠ 8 := fun h8 => h8' h8 h0
       clear key2; simp only [List.length_append, List.length_cons, List.length_nil]; omega
      ·have := h'.set (o' := .var [.d (.int .i64 3), .d (.str w), .d (.int .i64 0), a']) (upd_same ..)
       rw [upd_upd] at this
       simpa [Tm.d] using this
      ·exact Nat.lt_succ_self k
    ·have h4' : s1.err ≠ 0 := of_decide_eq_false h4
     simp -dsimp only [go_sem, gS, h4]
     exact key2 s1 G hacc (by rw [← hrun]; exact rargs_stop h4')
   case rest2 =>
    intro s' G' hacc' hfin
    have hle' := hacc'.le
    have hG5' := hle' b5 _ (upd_same ..)
    have hG4' := hle' b4 _ (hT4 s' a)
    have hal : allD [a] = none := hacc'.allD
    simp -dsimp only [go_sem, gS, hG5', hG4', hal, upd_upd]
    refine retW_deep ?_
    simp -dsimp only [go_sem, gS]
    have hset := hacc'.set (o' := .var [.d (.int .i64 3), .d (.str w), .d (.int .i64 0), a]) (hT4 s' a)
    refine AccAt.deep hset (fun H3 h3' => ?_)
    simp -dsimp only [go_sem, gS]
    rw [hfin] at hK
    refine retW_drop (G := rset H r l s') ?_ (retW_is ?_)
    ·refine LeH.trans ?_ h3'
     have hb : LeH (rset H r l s') (rset Z r l s') := leH_both hHZ
     exact leH_upd (hfr s') (leH_upd (hb.free (hZ5 s')) hb)
    ·rw [show Tm.d (Tm.mk 3 w 0 xs) = .agg [.int .i64 3, .str w, .int .i64 0, .slice (xs.map Tm.d)] by simp only [Tm.d, Tm.cs, Tm.ds_map]] at hK
     exact hK

theorem type_ok {eb : EbG} : ∀ (f : Nat) (H : Heap) (r : Nat) (l : List Tok) (s : RdS) (n : Nat) (_ : 67 ≤ f + n) (_ : n ≤ 66) (_ : RdAt H r l s) (K : A → Heap → Prop) (_ : K (.d (rtype f l n s).1.d) (rset H r l (rtype f l n s).2)),
  ACall Tryz.prog (seatV eb) 89 [.ref r 0, .d (.int .i64 n)] H K
 | 0, H, r, l, s, n, hf, hn, h, K, hK => by omega
 | f + 1, H, r, l, s, n, hf, hn, h, K, hK => by
  refine ACall.by mixed fn89 (by simp) ?_
  conv in s89 => cbv
  refine svc_start ?_
  simp -dsimp only [go_sem, gS]
  refine newK_intro (fun b4 hb4 hn4 hm4 => ?_)
  have er4 : eqn r b4 = false := hn4 r (by rw [h.at_]; rfl)
  simp -dsimp only [go_sem, gS]
  have h1 : RdAt (upd H b4 (.var [.d (.bool false), .d (.str ⟨#[]⟩), .nils])) r l s := ⟨by rw [upd_ne _ _ (of_decide_eq_false er4)]; exact h.at_, h.short, h.le⟩
  refine nest_ok _ r l s n h1 _ ?_
  have h2 := h1.to (s' := rnest l n s) (by rw [rnest_pos]; exact h.le)
  simp -dsimp only [go_sem, gS]
  refine end_ok _ r l _ h2 _ ?_
  have hr2 := h2.at_
  have hfr : ∀ s', rset H r l s' b4 = none := fun s' => by rw [rset, upd_ne _ _ (Ne.symm (of_decide_eq_false er4))]; exact hb4
  refine (fun (key : varTok l (rnest l n s) = none → ?T) => ?main) ?rest
  case main =>
   cases he : rend l (rnest l n s) with
   | true =>
    simp -dsimp only [go_sem, gS]
    exact key (by simp [varTok, he])
   | false =>
    obtain ⟨h0, hlt, k, hk⟩ := rend_tok he
    have hw := wrapN (k := (rnest l n s).pos) (by have := h.short; clear key; omega)
    have hw2 : IntKind.i64.wrap ((((rnest l n s).pos + 1 : Nat) : Int) - 1) = ((rnest l n s).pos : Int) := by clear key; rw [wrap64 (by omega) (by have := h.short; omega)]; omega
    have er4' : eqn b4 r = false := hm4 r (by rw [h.at_]; rfl)
    simp -dsimp only [go_sem, gS, hr2, rdA, hk, hlt, Tok.d, Tok.cs]
    refine gif_split (fun h3 => ?_) (fun h3 => ?_)
    ·have h3' : k.kind = 2 := of_decide_eq_true h3
     simp -dsimp only [go_sem, gS, h3, hr2, rdA, hk, hlt, Tok.d, Tok.cs, hw, hw2, rset, er4, er4', upd_upd]
     have hv : rtype (f + 1) l n s = (.mk true k.text [], ⟨(rnest l n s).pos + 1, (rnest l n s).err⟩) := by simp [rtype, varTok, he, hk, h3']
     rw [hv] at hK
     refine retW_deep ?_
     simp -dsimp only [go_sem, gS]
     refine retW_drop ?_ (retW_is hK)
     exact leH_upd (hfr _) (leH_both (leH_upd hb4 (.refl _)))
    ·have h3' : ¬ k.kind = 2 := of_decide_eq_false h3
     simp -dsimp only [go_sem, gS, h3]
     exact key (by simp [varTok, he, hk, h3'])
  case rest =>
   intro hvt
   refine got_ok _ r l _ kInt h2 _ ?_
   rw [rset_rset]
   cases hg : (rgot l kInt (rnest l n s)).1 with
   | true =>
    have hv : rtype (f + 1) l n s = (.mk false kInt [], (rgot l kInt (rnest l n s)).2) := by simp [rtype, hvt, hg]
    rw [hv] at hK
    have hg4 : rset (upd H b4 (.var [.d (.bool false), .d (.str ⟨#[]⟩), .nils])) r l (rgot l kInt (rnest l n s)).2 b4 = some (.var [.d (.bool false), .d (.str ⟨#[]⟩), .nils]) := by
     rw [rset, upd_ne _ _ (Ne.symm (of_decide_eq_false er4)), upd_same]
    simp -dsimp only [go_sem, gS, hg4]
    refine retW_deep ?_
    simp -dsimp only [go_sem, gS]
    refine retW_drop ?_ (retW_is hK)
    exact leH_upd (hfr _) (leH_both (leH_upd hb4 (.refl _)))
   | false =>
   have hval : rtype (f + 1) l n s = (.mk false (rword l 1 (rnest l n s)).1 (rargs (rtype f l (n + 1)) l 10 [] (rword l 1 (rnest l n s)).2).1, (rargs (rtype f l (n + 1)) l 10 [] (rword l 1 (rnest l n s)).2).2) := by simp [rtype, hvt, hg]
   rw [hval] at hK
   rw [rgot_false hg]
   simp -dsimp only [go_sem, gS]
   refine word_ok _ r l _ 1 h2 _ ?_
   rw [rset_rset]
   have h3 := h1.to (s' := (rword l 1 (rnest l n s)).2) (rword_le (by rw [rnest_pos]; exact h.le))
   have hw65 : (rword l 1 (rnest l n s)).2.err = 0 → n + 1 ≤ 66 := fun h0 => by
    have := (rword_ok h0).2.2
    by_cases hx : 64 < n
    ·rw [rnest_deep hx] at this; cases this
    ·omega
   clear hval h2 hr2
   generalize (rword l 1 (rnest l n s)).1 = w at hK ⊢
   generalize (rword l 1 (rnest l n s)).2 = S3 at hK h3 hw65 ⊢
   simp -dsimp only [go_sem, gS]
   refine newK_intro (fun b5 hb5 hn5 hm5 => ?_)
   have er5 : eqn r b5 = false := hn5 r (by rw [h3.at_]; rfl)
   have e45 : eqn b4 b5 = false := hn5 b4 (by rw [rset, upd_ne _ _ (Ne.symm (of_decide_eq_false er4)), upd_same]; rfl)
   have er4' : r ≠ b4 := of_decide_eq_false er4
   have er5' : r ≠ b5 := of_decide_eq_false er5
   have e45' : b4 ≠ b5 := of_decide_eq_false e45
   have hw := wrapN (k := n) (by omega)
   simp -dsimp only [go_sem, gS, upd_upd]
   generalize hZ : upd H b4 (.var [.d (.bool false), .d (.str ⟨#[]⟩), .nils]) = Z at h1 h3 hb5 hn5 hm5 ⊢
   have hZ4 : Z b4 = some (.var [.d (.bool false), .d (.str ⟨#[]⟩), .nils]) := by rw [← hZ, upd_same]
   have hHZ : LeH H Z := by rw [← hZ]; exact leH_upd hb4 (.refl _)
   have hZ5 : ∀ s', rset Z r l s' b5 = none := fun s' => by
    rw [rset, upd_ne _ _ (Ne.symm er5')] at hb5 ⊢; exact hb5
   have hTr : ∀ s1 a, upd (rset Z r l s1) b5 (.var [.d (.bool false), .d (.str w), a]) r = some (.var (rdA l s1)) := fun s1 a => by rw [upd_ne _ _ er5', rset, upd_same]
   have hT4 : ∀ s1 a, upd (rset Z r l s1) b5 (.var [.d (.bool false), .d (.str w), a]) b4 = some (.var [.d (.bool false), .d (.str ⟨#[]⟩), .nils]) := fun s1 a => by
    rw [upd_ne _ _ e45', rset, upd_ne _ _ (Ne.symm er4'), hZ4]
   have hTs : ∀ s1 s2 a, upd (upd (rset Z r l s1) b5 (.var [.d (.bool false), .d (.str w), a])) r (.var (rdA l s2)) = upd (rset Z r l s2) b5 (.var [.d (.bool false), .d (.str w), a]) := fun s1 s2 a => by
    rw [upd_comm (Ne.symm er5'), rset, upd_upd]; rfl
   refine svc_loop (X := Nat × List Ty × RdS × A) (fun x => [(0, .ref r 0), (1, .d (.int .i64 n)), (4, .ref b4 0), (5, .ref b5 0)])
    (fun x G => x.2.2.1.pos ≤ l.length ∧ rargs (rtype f l (n + 1)) l x.1 x.2.1 x.2.2.1 = rargs (rtype f l (n + 1)) l 10 [] S3 ∧ x.2.1.length + x.1 = 10 ∧ (x.2.2.1.err = 0 → x.2.1.length ≤ 8 ∧ n + 1 ≤ 66) ∧
     AccAt (upd (rset Z r l x.2.2.1) b5 (.var [.d (.bool false), .d (.str w), x.2.2.2])) 63 3 (x.2.1.map Ty.d) x.2.2.2 G) (fun x => x.1) (10, [], S3, .nils) _
    ⟨h3.le, rfl, rfl, fun h0 => ⟨by simp, hw65 h0⟩, .nils ..⟩ (by simp -dsimp only [go_sem, gS]) (.refl _) ?_
   rintro ⟨k, xs, s1, a⟩ G ⟨hpos, hrun, hlen, herr, hacc⟩
   simp only at hpos hrun hlen herr hacc
   have hle := hacc.le
   have hGr := hle _ _ (hTr s1 a)
   have hG5 := hle b5 _ (upd_same ..)
   have hR : RdAt G r l s1 := ⟨hGr, h.short, hpos⟩
   have hln := aLen_acc_eq hacc
   have hlb : lenable Tryz.prog 35 a = true := lenable_acc hacc q_isSliceT_35
   have hmove : ∀ s2, AccAt (upd (rset Z r l s2) b5 (.var [.d (.bool false), .d (.str w), a])) 63 3 (xs.map Ty.d) a (rset G r l s2) := fun s2 => by
    have := hacc.set (o' := .var (rdA l s2)) (hTr s1 a)
    rw [hTs] at this; exact this
   simp -dsimp only [go_sem, gS, hGr, rdA]
   refine (fun (key2 : ∀ (s' : RdS) (G' : Heap), AccAt (upd (rset Z r l s') b5 (.var [.d (.bool false), .d (.str w), a])) 63 3 (xs.map Ty.d) a G' → rargs (rtype f l (n + 1)) l 10 [] S3 = (xs, s') → (?T2 : Heap → Prop) G') => ?main2) ?rest2
   case main2 =>
    refine gif_split (fun h4 => ?_) (fun h4 => ?_)
    ·have h4' : s1.err = 0 := of_decide_eq_true h4
     obtain ⟨hl8, hn66⟩ := herr h4'
     obtain ⟨k, rfl⟩ : ∃ k', k = k' + 1 := ⟨k - 1, by clear key2; omega⟩
     simp -dsimp only [go_sem, gS, h4, hG5, hlb, hln]
     refine more_ok _ r l s1 xs.length hR _ ?_
     have hR2 := hR.to (rmore_le (n := xs.length) hpos)
     cases hm : (rmore l xs.length s1).1 with
     | false =>
      have hfin : rargs (rtype f l (n + 1)) l 10 [] S3 = (xs, (rmore l xs.length s1).2) := by rw [← hrun]; simp [rargs, h4', hm]
      have hm2 := hmove (rmore l xs.length s1).2
      simp -dsimp only [go_sem, gS]
      generalize (rmore l xs.length s1).2 = s2 at hfin hm2 ⊢
      generalize rset G r l s2 = G' at hm2 ⊢
      exact key2 s2 G' hm2 hfin
     | true =>
      obtain ⟨he2, hp2, h82⟩ := rmore_true hm
      have hm2 := hmove (rmore l xs.length s1).2
      have hrun' : rargs (rtype f l (n + 1)) l k (xs ++ [(rtype f l (n + 1) (rmore l xs.length s1).2).1]) (rtype f l (n + 1) (rmore l xs.length s1).2).2 = rargs (rtype f l (n + 1)) l 10 [] S3 := by
       rw [← hrun]; simp [rargs, h4', hm]
      have h8' : xs.length = 8 → (rtype f l (n + 1) (rmore l xs.length s1).2).2.err ≠ 0 := fun h8 => rtype_end (by clear key2; omega) (h82 h8)
      have hpos3 := rtype_le f (n + 1) _ (rmore_le (n := xs.length) hpos)
      clear hrun hmove he2 hp2 h82 hm
      have hmove : ∀ s3, AccAt (upd (rset Z r l s3) b5 (.var [.d (.bool false), .d (.str w), a])) 63 3 (xs.map Ty.d) a (rset (rset G r l (rmore l xs.length s1).2) r l s3) := fun s3 => by
       have := hm2.set (o' := .var (rdA l s3)) (hTr _ a)
       rw [hTs] at this; exact this
      generalize (rmore l xs.length s1).2 = s2 at hR2 hm2 hrun' h8' hpos3 hmove ⊢
      have hG52 := hm2.le b5 _ (upd_same ..)
      simp -dsimp only [go_sem, gS, hG52, hw]
      refine type_ok f _ r l s2 (n + 1) (by clear key2; omega) hn66 hR2 _ ?_
      have hm3 := hmove (rtype f l (n + 1) s2).2
      have hG53 := hm3.le b5 _ (upd_same ..)
      rw [rset_rset] at hm3 hG53 ⊢
      generalize (rtype f l (n + 1) s2).1 = t at hrun' ⊢
      generalize (rtype f l (n + 1) s2).2 = s3 at hm3 hG53 hrun' h8' hpos3 ⊢
      have hcs := t.cs_length
      simp -dsimp only [go_sem, gS, hG53, Ty.d, hcs]
      refine newV_intro (fun bn vn hbn hnn hmn hvn => ?_)
      have e5n : eqn b5 bn = false := hnn b5 (by rw [hG53]; rfl)
      simp -dsimp only [go_sem, gS, e5n, hG53, hcs]
      refine appTo_acc (hm3.up hbn) ?_ (fun a' H' h' => ?_)
      ·clear key2; simp only [List.length_map, List.length_cons, List.length_nil]; omega
      have hH5 := h'.le b5 _ (upd_same ..)
      obtain ⟨hag, hac⟩ := h'.one
      simp -dsimp only [go_sem, gS, hH5, hag, hac]
      refine roundQ_next (k, xs ++ [t], s3, a') _ ⟨hpos3, hrun', ?_, ?_, ?_⟩ ?_ (by simp -dsimp only [go_sem, gS]) (.refl _)
      ·clear key2; simp only [List.length_append, List.length_cons, List.length_nil]; omega
      ·intro h0
       refine ⟨?_, Nat.le_of_succ_le_succ hn66⟩
       have : xs.length ≠ 8 := fun h8 => h8' h8 h0
       clear key2; simp only [List.length_append, List.length_cons, List.length_nil]; omega
      ·have := h'.set (o' := .var [.d (.bool false), .d (.str w), a']) (upd_same ..)
       rw [upd_upd] at this
       simpa [Ty.d] using this
      ·exact Nat.lt_succ_self k
    ·have h4' : s1.err ≠ 0 := of_decide_eq_false h4
     simp -dsimp only [go_sem, gS, h4]
     exact key2 s1 G hacc (by rw [← hrun]; exact rargs_stop h4')
   case rest2 =>
    intro s' G' hacc' hfin
    have hle' := hacc'.le
    have hG5' := hle' b5 _ (upd_same ..)
    have hG4' := hle' b4 _ (hT4 s' a)
    have hal : allD [a] = none := hacc'.allD
    simp -dsimp only [go_sem, gS, hG5', hG4', hal, upd_upd]
    refine retW_deep ?_
    simp -dsimp only [go_sem, gS]
    have hset := hacc'.set (o' := .var [.d (.bool false), .d (.str w), a]) (hT4 s' a)
    refine AccAt.deep hset (fun H3 h3' => ?_)
    simp -dsimp only [go_sem, gS]
    rw [hfin] at hK
    refine retW_drop (G := rset H r l s') ?_ (retW_is ?_)
    ·refine LeH.trans ?_ h3'
     have hb : LeH (rset H r l s') (rset Z r l s') := leH_both hHZ
     exact leH_upd (hfr s') (leH_upd (hb.free (hZ5 s')) hb)
    ·rw [show Ty.d (Ty.mk false w xs) = .agg [.bool false, .str w, .slice (xs.map Ty.d)] by simp only [Ty.d, Ty.cs, Ty.ds_map]] at hK
     exact hK
end Go.Aug

/- Walks of ParE. -/
namespace Go.Aug
open Go.Proofs
set_option maxRecDepth 100000
set_option linter.unusedSimpArgs false
end Go.Aug

/- Walks of ParG. -/
namespace Go.Aug
open Go.Proofs
set_option maxRecDepth 100000
set_option linter.unusedSimpArgs false
attribute [local irreducible] hid andK letA onSome onVar onArr arrOnly onInt onBool onTup idxA ldV ldD addO ofPart appTo fillL slA srcK nilQ retW gif sgd sguard svc sops sdops sagain aopO aLoad aStore aBin aUn aConv aLen aIndexAddr aIndex aIndexAddrS aIndexS aSlice aAppend aBuild aBuildSlice aMakeSlice aField aFieldOf aCallOp deepK deepL frzM putE newK newV growV ACall roundQ thenQ inBlockQ sret cnd szs nilC onRow aLookup aMapUpdate aMakeMap
attribute [local go_sem] Int.natCast_zero
set_option maxHeartbeats 4000000 in
theorem goal_ok {eb : EbG} (l : List Tok) (n : Nat) (p : RdS → Gl × RdS) (hp : Steps l p)
  (hprim : ∀ (H : Heap) (r : Nat) (s : RdS), RdAt H r l s → ∀ K : A → Heap → Prop, K (.d (p s).1.d) (rset H r l (p s).2) → ACall Tryz.prog (seatV eb) 119 [.ref r 0, .d (.int .i64 n)] H K)
  (H : Heap) (r : Nat) (s : RdS) (h : RdAt H r l s) (K : A → Heap → Prop) (hK : K (.d (rgoalW p l s).1.d) (rset H r l (rgoalW p l s).2)) : ACall Tryz.prog (seatV eb) 91 [.ref r 0, .d (.int .i64 n)] H K := by
 refine ACall.by mixed fn91 (by simp) ?_
 conv in s91 => cbv
 refine svc_start ?_
 simp -dsimp only [go_sem, gS]
 refine newK_intro (fun b4 hb4 hn4 hm4 => ?_)
 have er4 : eqn r b4 = false := hn4 r (by rw [h.at_]; rfl)
 simp -dsimp only [go_sem, gS]
 refine newV_intro (fun b5 v5 hb5 hn5 hm5 hv5 => ?_)
 have er5 : eqn r b5 = false := hn5 r (by rw [upd_ne _ _ (of_decide_eq_false er4), h.at_]; rfl)
 have e45 : eqn b4 b5 = false := hn5 b4 (by rw [upd_same]; rfl)
 simp -dsimp only [go_sem, gS]
 have h1 : RdAt (upd H b4 (.var zGoal)) r l s := ⟨by rw [upd_ne _ _ (of_decide_eq_false er4)]; exact h.at_, h.short, h.le⟩
 have hfr : ∀ s', rset H r l s' b4 = none := fun s' => by rw [rset, upd_ne _ _ (Ne.symm (of_decide_eq_false er4))]; exact hb4
 generalize hZ : upd H b4 (.var zGoal) = Z at h1
 have hZ4 : Z b4 = some (.var zGoal) := by rw [← hZ, upd_same]
 have hHZ : LeH H Z := by rw [← hZ]; exact leH_upd hb4 (.refl _)
 have hZ5 : Z b5 = none := by rw [← hZ]; exact hb5
 have er4' : r ≠ b4 := of_decide_eq_false er4
 have er5' : r ≠ b5 := of_decide_eq_false er5
 refine (fun (key : ∀ (os' : List Gl) (s' : RdS) (d' : Nat) (v' : Value) (G' : Heap), AccAt (rset Z r l s') 42 12 (os'.map Gl.d) (.own d' v') G' → rors p l (l.length + 1) [] s = (os', s') → (?T : Nat → Value → Heap → Prop) d' v' G') => ?main) ?rest
 case main =>
  refine svc_loop (X := Nat × List Gl × RdS × Nat × Value) (fun x => [(0, .ref r 0), (1, .d (.int .i64 n)), (4, .ref b4 0), (5, .own x.2.2.2.1 x.2.2.2.2)])
   (fun x G => x.2.2.1.pos ≤ l.length ∧ rors p l x.1 x.2.1 x.2.2.1 = rors p l (l.length + 1) [] s ∧ l.length + 1 ≤ x.1 + x.2.2.1.pos ∧ x.2.1.length ≤ x.2.2.1.pos ∧ AccAt (rset Z r l x.2.2.1) 42 12 (x.2.1.map Gl.d) (.own x.2.2.2.1 x.2.2.2.2) G)
   (fun x => x.1) (l.length + 1, [], s, b5, v5) _ ⟨h.le, rfl, by simp, by simp, ?_⟩ (by simp -dsimp only [go_sem, gS]) (.refl _) ?_
  ·have : upd H b4 (.var zGoal) = rset Z r l s := by rw [hZ, h1.self]
   rw [show (upd H b4 (AObj.var [A.d (D.int IntKind.i64 0), A.d (D.int IntKind.i64 0), A.d (D.str { data := #[] }), A.d (D.int IntKind.i64 0), A.nils, A.d (D.int IntKind.i64 0), A.d (D.str { data := #[] }), A.d (D.int IntKind.i64 0), A.nils, A.d (D.str { data := #[] }), A.nils, A.nils])) = rset Z r l s from this]
   exact AccAt.own (leH_upd (by rw [← this]; exact hb5) (.refl _)) (by rw [← this]; exact hb5) hv5 (upd_same ..)
  rintro ⟨k, os, s1, d5, w5⟩ G ⟨hpos, hrun, hfuel, hol, hacc⟩
  simp only at hpos hrun hfuel hol hacc
  have hle := hacc.le
  have hGr : G r = some (.var (rdA l s1)) := hle _ _ (by rw [rset, upd_same])
  have hR : RdAt G r l s1 := ⟨hGr, h.short, hpos⟩
  simp -dsimp only [go_sem, gS, hGr, rdA]
  have hmove : ∀ s2, AccAt (rset Z r l s2) 42 12 (os.map Gl.d) (.own d5 w5) (rset G r l s2) := fun s2 => by
   have := hacc.set (b := r) (o' := .var (rdA l s2)) (by rw [rset, upd_same])
   rw [rset, upd_upd] at this
   exact this
  obtain ⟨hZd, hw5, hGd⟩ : (∀ s', rset Z r l s' d5 = none) ∧ w5.ownBlock = some d5 ∧ G d5 = some (.arr 42 12 w5 (os.map Gl.d)) := by
   rcases hacc.2 with ⟨_, hh⟩ | ⟨d, v, hh, h1, h2, h3⟩
   ·cases hh
   ·cases hh
    refine ⟨fun s' => ?_, h2, h3⟩
    have : d5 ≠ r := by rintro rfl; rw [rset, upd_same] at h1; cases h1
    rw [rset, upd_ne _ _ this] at h1 ⊢; exact h1
  refine gif_split (fun h2 => ?_) (fun h2 => ?_)
  ·have h2' : s1.err = 0 := of_decide_eq_true h2
   obtain ⟨k, rfl⟩ : ∃ k', k = k' + 1 := ⟨k - 1, by clear key; omega⟩
   simp -dsimp only [go_sem, gS, h2]
   refine hprim _ r s1 hR _ ?_
   have hm2 := hmove (p s1).2
   have hR2 := hR.to (hp.le s1 hpos)
   have hge2 := hp.ge s1
   have hcs := (p s1).1.cs_length
   simp -dsimp only [go_sem, gS, Gl.d, hcs]
   refine newV_intro (fun b6 v6 hb6 hn6 hm6 hv6 => ?_)
   simp -dsimp only [go_sem, gS]
   refine svc_loop (X := Nat × List Gl × RdS × A) (fun x => [(0, .ref r 0), (1, .d (.int .i64 n)), (4, .ref b4 0), (5, .own d5 w5), (6, x.2.2.2)])
    (fun x G => x.2.2.1.pos ≤ l.length ∧ rands p l x.1 x.2.1 x.2.2.1 = rands p l l.length [(p s1).1] (p s1).2 ∧ l.length ≤ x.1 + x.2.2.1.pos ∧ 1 ≤ x.2.1.length ∧ x.2.1.length ≤ x.2.2.1.pos + 1 ∧ s1.pos ≤ x.2.2.1.pos ∧
     AccAt (upd (rset Z r l x.2.2.1) d5 (.arr 42 12 w5 (os.map Gl.d))) 42 12 (x.2.1.map Gl.d) x.2.2.2 G)
    (fun x => x.1) (l.length, [(p s1).1], (p s1).2, .own b6 v6) _ ⟨hp.le s1 hpos, rfl, by simp, by simp, by simp, hge2, ?_⟩ (by simp -dsimp only [go_sem, gS]) (.refl _) ?_
   ·have hleN : LeH (upd (rset Z r l (p s1).2) d5 (.arr 42 12 w5 (os.map Gl.d))) (rset G r l (p s1).2) := leH_add hm2.le (by
     rcases hm2.2 with ⟨_, hh⟩ | ⟨d, v, hh, _, _, h3⟩
     ·cases hh
     ·cases hh; exact h3)
    exact AccAt.own (hleN.up hb6) (hleN.free hb6) hv6 (upd_same ..)
   rintro ⟨q, gs, s3, a6⟩ G3 ⟨hpos3, hrun3, hfuel3, hg1, hgl, hge3, hacc3⟩
   simp only at hpos3 hrun3 hfuel3 hg1 hgl hge3 hacc3
   have hG3r : G3 r = some (.var (rdA l s3)) := hacc3.le _ _ (by
    have : r ≠ d5 := by rintro rfl; have := hZd s1; rw [rset, upd_same] at this; cases this
    rw [upd_ne _ _ this, rset, upd_same])
   have hR3 : RdAt G3 r l s3 := ⟨hG3r, h.short, hpos3⟩
   simp -dsimp only [go_sem, gS]
   refine got_ok _ r l s3 kComma hR3 _ ?_
   cases hg : (rgot l kComma s3).1 with
   | true =>
    obtain ⟨he3, hp4, hlt3⟩ := rgot_true hg
    obtain ⟨q, rfl⟩ : ∃ q', q = q' + 1 := ⟨q - 1, by clear key; omega⟩
    have hrun4 : rands p l q (gs ++ [(p (rgot l kComma s3).2).1]) (p (rgot l kComma s3).2).2 = rands p l l.length [(p s1).1] (p s1).2 := by
     rw [← hrun3]; simp [rands, hg]
    have hle4 := rgot_le (t := kComma) hpos3
    have hR4 := hR3.to hle4
    have hmove4 : ∀ s4, AccAt (upd (rset Z r l s4) d5 (.arr 42 12 w5 (os.map Gl.d))) 42 12 (gs.map Gl.d) a6 (rset G3 r l s4) := fun s4 => by
     have hne : d5 ≠ r := by rintro rfl; have := hZd s1; rw [rset, upd_same] at this; cases this
     have := hacc3.set (b := r) (o' := .var (rdA l s4)) (by rw [upd_ne _ _ (Ne.symm hne), rset, upd_same])
     rw [upd_comm hne, rset, upd_upd] at this
     exact this
    generalize (rgot l kComma s3).2 = s4 at hrun4 hp4 hle4 hR4 ⊢
    simp -dsimp only [go_sem, gS]
    refine hprim _ r s4 hR4 _ ?_
    rw [rset_rset]
    have hm5 := hmove4 (p s4).2
    have hle5 := hp.le s4 hle4
    have hge5 := hp.ge s4
    generalize (p s4).1 = t at hrun4 ⊢
    generalize (p s4).2 = s5 at hrun4 hm5 hle5 hge5 ⊢
    have hcs' := t.cs_length
    simp -dsimp only [go_sem, gS, Gl.d, hcs']
    refine newV_intro (fun b7 v7 hb7 hn7 hm7 hv7 => ?_)
    simp -dsimp only [go_sem, gS, hcs']
    refine appTo_acc (hm5.up hb7) ?_ (fun a' H' h' => ?_)
    ·have := h.short
     clear key; simp only [List.length_map, List.length_cons, List.length_nil]; omega
    simp -dsimp only [go_sem, gS]
    refine roundQ_next (q, gs ++ [t], s5, a') _ ⟨hle5, hrun4, ?_, ?_, ?_, ?_, by simpa [Gl.d] using h'⟩ (Nat.lt_succ_self q) (by simp -dsimp only [go_sem, gS]) (.refl _)
    ·clear key; simp only; omega
    ·simp
    ·clear key; simp only [List.length_append, List.length_cons, List.length_nil]; omega
    ·clear key; simp only; omega
   | false =>
    rw [rgot_false hg, hR3.self]
    have hfin3 : rands p l l.length [(p s1).1] (p s1).2 = (gs, s3) := by
     rw [← hrun3]; cases q with
     | zero => rfl
     | succ q => simp [rands, hg]
    obtain ⟨d6, w6, rfl, hN6, hw6, hG6⟩ := hacc3.some (by intro h0; rw [List.map_eq_nil_iff] at h0; rw [h0] at hg1; simp at hg1)
    have hN6' := (upd_eq_none.1 hN6)
    have hG35 : G3 d5 = some (.arr 42 12 w5 (os.map Gl.d)) := hacc3.le d5 _ (upd_same ..)
    have hleZ : LeH (rset Z r l s3) G3 := (leH_upd (hZd s3) (.refl _)).trans hacc3.le
    have e56 : eqn d5 d6 = false := decide_eq_false (Ne.symm hN6'.1)
    have e65 : eqn d6 d5 = false := decide_eq_false hN6'.1
    simp -dsimp only [go_sem, gS, hG6]
    refine (fun (key2 : ∀ (d' : Nat) (v' : Value) (H' : Heap), AccAt (rset Z r l s3) 42 12 ((os ++ [allOf gs]).map Gl.d) (.own d' v') H' → (?T2 : Nat → Value → Heap → Prop) d' v' H') => ?main2) ?rest2
    case main2 =>
     refine gif_split (fun h3 => ?_) (fun h3 => ?_)
     ·have h3' : 1 < gs.length := by have := of_decide_eq_true h3; clear key key2; omega
      simp -dsimp only [go_sem, gS, hG6, e56, e65]
      refine newV_intro (fun b7 v7 hb7 hn7 hm7 hv7 => ?_)
      have e57 : eqn d5 b7 = false := hn7 d5 (by rw [upd_ne _ _ (of_decide_eq_false e56), hG35]; rfl)
      simp -dsimp only [go_sem, gS, e57, e56, hG35]
      have hle7 : LeH (rset Z r l s3) (upd G3 d6 (.frz w6 (gs.map Gl.d))) := leH_upd hN6'.2 hleZ
      refine andK_split (by have := h.short; clear key key2; omega) ?_
      refine growV_intro (fun b8 v8 hb8 hn8 hm8 hv8 => ?_)
      simp -dsimp only [go_sem, gS]
      have hall : Gl.d (allOf gs) = .agg [.int .i64 5, .int .i64 0, .str ⟨#[]⟩, .int .i64 0, .slice [], .int .i64 0, .str ⟨#[]⟩, .int .i64 0, .slice [], .str ⟨#[]⟩, .slice [], .slice (gs.map Gl.d)] := by
       simp [allOf, h3', Gl.d, Gl.cs, Tm.none, Tm.cs, Tm.ds, Gl.ds_map]
      have hacc8 := AccAt.own (E := 42) (sz := 12) (l := (os ++ [allOf gs]).map Gl.d) (b := b8) (v := v8) (G := rset Z r l s3) (H := upd (del (upd (upd G3 d6 (.frz w6 (gs.map Gl.d))) b7 (.arr 42 12 v7 [Gl.d (allOf gs)])) d5) b8 (.arr 42 12 v8 (os.map Gl.d ++ [Gl.d (allOf gs)])))
       (leH_grow (hle7.up hb7) (hZd s3) (by rw [hall]; exact hb8)) (leH_fresh (hle7.up hb7) hb8 (hZd s3)) hv8 (by rw [upd_same, List.map_append]; rfl)
      rw [hall] at hacc8
      generalize upd (del (upd (upd G3 d6 (AObj.frz w6 (gs.map Gl.d))) b7 _) d5) b8 _ = H' at hacc8 ⊢
      exact key2 b8 v8 H' hacc8
     ·have h3' : ¬ 1 < gs.length := by have := of_decide_eq_false h3; clear key key2; omega
      obtain ⟨g0, rfl⟩ : ∃ g0, gs = [g0] := by
       rcases gs with _ | ⟨g0, _ | ⟨g1, gs⟩⟩
       ·simp at hg1
       ·exact ⟨g0, rfl⟩
       ·simp at h3'
      simp only [List.map_cons, List.map_nil] at hG6
      have hcs0 := g0.cs_length
      have htk : g0.cs.take 12 = g0.cs := by exact List.take_of_length_le (by rw [hcs0]; exact Nat.le_refl _)
      have ht0 : Int.toNat 0 = 0 := rfl
      simp -dsimp only [go_sem, gS, hG6, Gl.d, hcs0, List.drop_zero, htk, ht0, List.length_cons, List.length_nil, List.getElem?_cons_zero]
      refine newV_intro (fun b7 v7 hb7 hn7 hm7 hv7 => ?_)
      have e57 : eqn d5 b7 = false := hn7 d5 (by rw [hG35]; rfl)
      simp -dsimp only [go_sem, gS, e57, hG35, hcs0]
      refine andK_split (by have := h.short; clear key key2; omega) ?_
      refine growV_intro (fun b8 v8 hb8 hn8 hm8 hv8 => ?_)
      simp -dsimp only [go_sem, gS]
      have hall : Gl.d (allOf [g0]) = .agg g0.cs := rfl
      have hacc8 := AccAt.own (E := 42) (sz := 12) (l := (os ++ [allOf [g0]]).map Gl.d) (b := b8) (v := v8) (G := rset Z r l s3) (H := upd (del (upd G3 b7 (.arr 42 12 v7 [Gl.d (allOf [g0])])) d5) b8 (.arr 42 12 v8 (os.map Gl.d ++ [Gl.d (allOf [g0])])))
       (leH_grow (hleZ.up hb7) (hZd s3) (by rw [hall]; exact hb8)) (leH_fresh (hleZ.up hb7) hb8 (hZd s3)) hv8 (by rw [upd_same, List.map_append]; rfl)
      rw [hall] at hacc8
      generalize upd (del (upd G3 b7 _) d5) b8 _ = H' at hacc8 ⊢
      exact key2 b8 v8 H' hacc8
    case rest2 =>
     intro d' v' H' hacc'
     have hH'r : H' r = some (.var (rdA l s3)) := hacc'.le _ _ (by rw [rset, upd_same])
     have hR' : RdAt H' r l s3 := ⟨hH'r, h.short, hpos3⟩
     refine got_ok _ r l s3 kSemi hR' _ ?_
     have hway : rway p l s1 = (allOf gs, s3) := by simp only [rway, hfin3]
     cases hg5 : (rgot l kSemi s3).1 with
     | true =>
      obtain ⟨he6, hp6, hlt6⟩ := rgot_true hg5
      have hrun' : rors p l k (os ++ [allOf gs]) (rgot l kSemi s3).2 = rors p l (l.length + 1) [] s := by rw [← hrun]; simp [rors, h2', hway, hg5]
      have hle6 := rgot_le (t := kSemi) hpos3
      have hmv := hacc'.set (b := r) (o' := .var (rdA l (rgot l kSemi s3).2)) (by rw [rset, upd_same])
      rw [rset, upd_upd] at hmv
      simp -dsimp only [go_sem, gS]
      refine roundQ_next (k, os ++ [allOf gs], (rgot l kSemi s3).2, d', v') _ ⟨hle6, hrun', ?_, ?_, hmv⟩ (Nat.lt_succ_self k) (by simp -dsimp only [go_sem, gS]) (.refl _)
      ·clear key; simp only; omega
      ·clear key; simp only [List.length_append, List.length_cons, List.length_nil]; omega
     | false =>
      rw [rgot_false hg5, hR'.self]
      simp -dsimp only [go_sem, gS]
      exact key (os ++ [allOf gs]) s3 d' v' H' hacc' (by rw [← hrun]; simp [rors, h2', hway, hg5])
  ·have h2' : s1.err ≠ 0 := of_decide_eq_false h2
   simp -dsimp only [go_sem, gS, h2]
   have hfin : rors p l (l.length + 1) [] s = (os, s1) := by
    rw [← hrun]; cases k with
    | zero => rfl
    | succ k => simp [rors, h2']
   exact key os s1 d5 w5 G hacc hfin
 case rest =>
  intro os s' d v G hacc hfin
  obtain ⟨hdn, hv, hGd⟩ : rset Z r l s' d = none ∧ v.ownBlock = some d ∧ G d = some (.arr 42 12 v (os.map Gl.d)) := by
   rcases hacc.2 with ⟨_, hh⟩ | ⟨d', v', hh, h1, h2, h3⟩
   ·cases hh
   ·cases hh; exact ⟨h1, h2, h3⟩
  have hle := hacc.le
  have hZ4' : rset Z r l s' b4 = some (.var zGoal) := by rw [rset, upd_ne _ _ (Ne.symm er4'), hZ4]
  have hG4 := hle b4 _ hZ4'
  have hbase : ∀ o, LeH (rset H r l s') (upd (rset Z r l s') b4 o) := fun o => leH_upd (hfr s') (leH_both hHZ)
  simp only [rgoalW, hfin] at hK
  have e4d : eqn b4 d = false := decide_eq_false (by rintro rfl; rw [hdn] at hZ4'; cases hZ4')
  have ed4 : eqn d b4 = false := decide_eq_false (by rintro rfl; rw [hdn] at hZ4'; cases hZ4')
  simp -dsimp only [go_sem, gS, hGd]
  refine gif_split (fun h2 => ?_) (fun h2 => ?_)
  ·have h2' : os.length = 1 := by have := of_decide_eq_true h2; omega
   obtain ⟨g0, rfl⟩ : ∃ g0, os = [g0] := List.length_eq_one_iff.1 h2'
   simp only [List.map_cons, List.map_nil] at hGd
   have hcs0 := g0.cs_length
   have htk : g0.cs.take 12 = g0.cs := List.take_of_length_le (by rw [hcs0]; exact Nat.le_refl _)
   have ht0 : Int.toNat 0 = 0 := rfl
   have hres : resD (some (.var (setMany zGoal 0 (g0.cs.map A.d)))) 0 (some (true, 12)) = some (.d (.agg g0.cs)) := by
    have hsm : setMany zGoal 0 (g0.cs.map A.d) = g0.cs.map A.d := by
     simp [setMany, hcs0, zGoal]
    rw [hsm, resD_agg (by simp [hcs0]), List.drop_zero, List.take_of_length_le (by simp [hcs0])]
    simp [aggN, allD_map]
   simp only [zGoal] at hres
   simp -dsimp only [go_sem, gS, hGd, Gl.d, hcs0, List.drop_zero, htk, ht0, List.length_cons, List.length_nil, List.getElem?_cons_zero, hG4, zGoal, hres]
   refine retW_drop (G := rset H r l s') ((hbase _).trans (leH_both hle)) (retW_is ?_)
   simpa [anyOf, Gl.d] using hK
  ·have h2' : ¬ os.length = 1 := by have := of_decide_eq_false h2; omega
   simp -dsimp only [go_sem, gS, hGd, hG4, zGoal]
   refine retW_deep ?_
   simp -dsimp only [go_sem, gS, hGd, ed4, e4d]
   have hd4 : rset H r l s' d = none := (show LeH (rset H r l s') (rset Z r l s') from leH_both hHZ).free hdn
   refine retW_drop (G := rset H r l s') ?_ (retW_is ?_)
   ·exact leH_upd hd4 ((hbase _).trans (leH_both hle))
   ·have hall : Gl.d (anyOf os) = .agg [.int .i64 6, .int .i64 0, .str ⟨#[]⟩, .int .i64 0, .slice [], .int .i64 0, .str ⟨#[]⟩, .int .i64 0, .slice [], .str ⟨#[]⟩, .slice [], .slice (os.map Gl.d)] := by
     simp [anyOf, h2', Gl.d, Gl.cs, Tm.none, Tm.cs, Tm.ds, Gl.ds_map]
    rw [hall] at hK
    exact hK

theorem prim_ok {eb : EbG} (l : List Tok) : ∀ (f : Nat) (n : Nat) (_ : 67 ≤ f + n) (_ : n ≤ 65) (H : Heap) (r : Nat) (s : RdS) (_ : RdAt H r l s) (K : A → Heap → Prop) (_ : K (.d (rprim f l n s).1.d) (rset H r l (rprim f l n s).2)),
  ACall Tryz.prog (seatV eb) 119 [.ref r 0, .d (.int .i64 n)] H K
 | 0, n, hf, hn, H, r, s, h, K, hK => by omega
 | f + 1, n, hf, hn, H, r, s, h, K, hK => by
  refine ACall.hp_in h.at_ ?_
  refine ACall.by mixed fn119 (by simp) ?_
  conv in s119 => cbv
  refine svc_start ?_
  simp -dsimp only [go_sem, gS]
  refine newK_hp (fun b4 f4 => ?_)
  simp only [off_cons, off_nil] at f4
  simp -dsimp only [go_sem, gS]
  refine nest_ok _ r l s n (h.len h.le (by simp only [hpS, eq_self, implies_true, f4])) _ ?_
  have hle0 : (rnest l n s).pos ≤ l.length := by rw [rnest_pos]; exact h.le
  have hdeep : ∀ t, (rgot l t (rnest l n s)).1 = true → n ≤ 64 := fun t ht => rgot_nest ht
  simp only [rprim] at hK
  simp -dsimp only [go_sem, gS, f4]
  refine got_ok _ r l _ kTrue (h.len hle0 (by simp only [hpS, eq_self, implies_true, f4])) _ ?_
  have hend : ∀ s' o, LeH (rset H r l s') (hp H [(r, .var (rdA l s')), (b4, o)]) := fun s' o => (leH_hp (l1 := [(r, .var (rdA l s'))]) (by simp only [hpS, eq_self, implies_true, f4]) (by simp only [hpS, eq_self, implies_true, f4]))
  have hw := wrapN (k := n) (by omega)
  cases hg1 : (rgot l kTrue (rnest l n s)).1 with
  | true =>
   simp only [hg1, if_true] at hK
   simp -dsimp only [go_sem, gS, f4, zGoal]
   refine retW_deep ?_
   simp -dsimp only [go_sem, gS, f4]
   refine retW_drop (hend _ _) (retW_is ?_)
   rw [Gl.none_d] at hK; exact hK
  | false =>
   simp only [hg1, Bool.false_eq_true, if_false] at hK
   rw [rgot_false hg1]
   simp -dsimp only [go_sem, gS, f4]
   refine got_ok _ r l _ kFail (h.len hle0 (by simp only [hpS, eq_self, implies_true, f4])) _ ?_
   cases hg2 : (rgot l kFail (rnest l n s)).1 with
   | true =>
    simp only [hg2, if_true] at hK
    simp -dsimp only [go_sem, gS, f4]
    refine retW_deep ?_
    simp -dsimp only [go_sem, gS, f4]
    refine retW_drop (hend _ _) (retW_is ?_)
    rw [Gl.none_d] at hK; exact hK
   | false =>
    simp only [hg2, Bool.false_eq_true, if_false] at hK
    rw [rgot_false hg2]
    simp -dsimp only [go_sem, gS, f4]
    refine got_ok _ r l _ kNot (h.len hle0 (by simp only [hpS, eq_self, implies_true, f4])) _ ?_
    cases hg3 : (rgot l kNot (rnest l n s)).1 with
    | true =>
     simp only [hg3, if_true] at hK
     have hn64 := hdeep _ hg3
     simp -dsimp only [go_sem, gS, f4, hw]
     refine prim_ok l f (n + 1) (by omega) (by omega) _ r _ (h.len (rgot_le (t := kNot) hle0) (by simp only [hpS, eq_self, implies_true, f4])) _ ?_
     generalize (rprim f l (n + 1) (rgot l kNot (rnest l n s)).2).1 = g at hK ⊢
     generalize (rprim f l (n + 1) (rgot l kNot (rnest l n s)).2).2 = s' at hK ⊢
     have hcs := g.cs_length
     simp -dsimp only [go_sem, gS, f4, Gl.d, hcs]
     refine newV_hp (fun b5 v5 f5 w5 => ?_)
     simp only [off_cons, off_nil] at f5
     simp -dsimp only [go_sem, gS, f4, f5]
     refine retW_deep ?_
     simp -dsimp only [go_sem, gS, f4, f5]
     refine retW_drop (G := rset H r l s') (leH_hp (l1 := [(r, .var (rdA l s'))]) (by simp only [hpS, eq_self, implies_true, f4, f5]) (by simp only [hpS, eq_self, implies_true, f4, f5])) (retW_is ?_)
     have hall : Gl.d (.mk 7 .none .none ⟨#[]⟩ [] [g]) = .agg [.int .i64 7, .int .i64 0, .str ⟨#[]⟩, .int .i64 0, .slice [], .int .i64 0, .str ⟨#[]⟩, .int .i64 0, .slice [], .str ⟨#[]⟩, .slice [], .slice [.agg g.cs]] := by
      simp [Gl.d, Gl.cs, Tm.none, Tm.cs, Tm.ds, Gl.ds]
     rw [hall] at hK; exact hK
    | false =>
     simp only [hg3, Bool.false_eq_true, if_false] at hK
     rw [rgot_false hg3]
     simp -dsimp only [go_sem, gS, f4]
     refine got_ok _ r l _ kThrow (h.len hle0 (by simp only [hpS, eq_self, implies_true, f4])) _ ?_
     cases hg4 : (rgot l kThrow (rnest l n s)).1 with
     | true =>
      simp only [hg4, if_true] at hK
      have hn64 := hdeep _ hg4
      simp -dsimp only [go_sem, gS, f4, hw]
      refine term_ok f _ r l _ (n + 1) (by omega) (by omega) (h.len (rgot_le (t := kThrow) hle0) (by simp only [hpS, eq_self, implies_true, f4])) _ ?_
      generalize (rterm f l (n + 1) (rgot l kThrow (rnest l n s)).2).1 = t at hK ⊢
      generalize (rterm f l (n + 1) (rgot l kThrow (rnest l n s)).2).2 = s' at hK ⊢
      obtain ⟨k1, n1, i1, x1⟩ := t
      simp -dsimp only [go_sem, gS, f4, Tm.d, Tm.cs]
      refine retW_deep ?_
      simp -dsimp only [go_sem, gS, f4]
      refine retW_drop (hend _ _) (retW_is ?_)
      have hall : Gl.d (.mk 8 (.mk k1 n1 i1 x1) .none ⟨#[]⟩ [] []) = .agg [.int .i64 8, .int .i64 k1, .str n1, .int .i64 i1, .slice (Tm.ds x1), .int .i64 0, .str ⟨#[]⟩, .int .i64 0, .slice [], .str ⟨#[]⟩, .slice [], .slice []] := by
       simp [Gl.d, Gl.cs, Tm.none, Tm.cs, Tm.ds, Gl.ds]
      rw [hall] at hK; exact hK
     | false =>
      simp only [hg4, Bool.false_eq_true, if_false] at hK
      rw [rgot_false hg4]
      simp -dsimp only [go_sem, gS, f4]
      refine got_ok _ r l _ kTry (h.len hle0 (by simp only [hpS, eq_self, implies_true, f4])) _ ?_
      cases hg5 : (rgot l kTry (rnest l n s)).1 with
      | true =>
       simp only [hg5, if_true] at hK
       have hn64 := hdeep _ hg5
       simp -dsimp only [go_sem, gS, f4, hw]
       refine newK_hp (fun b5 f5 => ?_)
       simp only [off_cons, off_nil] at f5
       simp -dsimp only [go_sem, gS, f4, f5, hw]
       have hle5 := rgot_le (t := kTry) hle0
       refine prim_ok l f (n + 1) (by omega) (by omega) _ r _ (h.len hle5 (by simp only [hpS, eq_self, implies_true, f4, f5])) _ ?_
       have hle6 := (rprim_steps l f (n + 1)).le _ hle5
       generalize hg : rprim f l (n + 1) (rgot l kTry (rnest l n s)).2 = a at hle6 ⊢
       obtain ⟨a, s1⟩ := a
       simp only at hle6
       obtain ⟨x1, x2, x3, x4, x5, x6, x7, x8, x9, x10, x11, x12, hca⟩ := a.opn
       simp -dsimp only [go_sem, gS, f4, f5, Gl.d, hca]
       refine newK_hp (fun b6 f6 => ?_)
       simp only [off_cons, off_nil] at f6
       simp -dsimp only [go_sem, gS, f4, f5, f6]
       refine need_ok _ r l s1 kCatch (h.len hle6 (by simp only [hpS, eq_self, implies_true, f4, f5, f6])) _ ?_
       have hle7 := rneed_le (t := kCatch) hle6
       simp -dsimp only [go_sem, gS, f4, f5, f6]
       refine word_ok _ r l _ 2 (h.len hle7 (by simp only [hpS, eq_self, implies_true, f4, f5, f6])) _ ?_
       have hle8 := rword_le (kind := 2) hle7
       simp -dsimp only [go_sem, gS, f4, f5, f6]
       refine need_ok _ r l _ kThen (h.len hle8 (by simp only [hpS, eq_self, implies_true, f4, f5, f6])) _ ?_
       have hle9 := rneed_le (t := kThen) hle8
       simp -dsimp only [go_sem, gS, f4, f5, f6, hw]
       refine prim_ok l f (n + 1) (by omega) (by omega) _ r _ (h.len hle9 (by simp only [hpS, eq_self, implies_true, f4, f5, f6])) _ ?_
       simp only [rtry, hg] at hK
       generalize hg2 : rprim f l (n + 1) (rneed l kThen (rword l 2 (rneed l kCatch s1)).2) = c at hK ⊢
       obtain ⟨c, s2⟩ := c
       obtain ⟨y1, y2, y3, y4, y5, y6, y7, y8, y9, y10, y11, y12, hcc⟩ := c.opn
       simp -dsimp only [go_sem, gS, f4, f5, f6, hcc, hca, Gl.d]
       refine newV_hp (fun b7 v7 f7 w7 => ?_)
       simp only [off_cons, off_nil] at f7
       simp -dsimp only [go_sem, gS, f4, f5, f6, f7]
       refine retW_deep ?_
       simp -dsimp only [go_sem, gS, f4, f5, f6, f7]
       refine retW_drop (G := rset H r l s2) (leH_hp (l1 := [(r, .var (rdA l s2))]) (by simp only [hpS, eq_self, implies_true, f4, f5, f6, f7]) (by simp only [hpS, eq_self, implies_true, f4, f5, f6, f7])) (retW_is ?_)
       have hall : Gl.d (.mk 9 .none .none (rword l 2 (rneed l kCatch s1)).1 [] [a, c]) = .agg [.int .i64 9, .int .i64 0, .str ⟨#[]⟩, .int .i64 0, .slice [], .int .i64 0, .str ⟨#[]⟩, .int .i64 0, .slice [], .str (rword l 2 (rneed l kCatch s1)).1, .slice [], .slice [.agg a.cs, .agg c.cs]] := by
        simp [Gl.d, Gl.cs, Tm.none, Tm.cs, Tm.ds, Gl.ds]
       simp only [hall, hca, hcc] at hK; exact hK
      | false =>
       simp only [hg5, Bool.false_eq_true, if_false] at hK
       rw [rgot_false hg5]
       simp -dsimp only [go_sem, gS, f4]
       refine got_ok _ r l _ kOpen (h.len hle0 (by simp only [hpS, eq_self, implies_true, f4])) _ ?_
       cases hg6 : (rgot l kOpen (rnest l n s)).1 with
       | true =>
        simp only [hg6, if_true] at hK
        have hn64 := hdeep _ hg6
        have hle6 := rgot_le (t := kOpen) hle0
        simp -dsimp only [go_sem, gS, f4, hw]
        refine goal_ok l (n + 1) (rprim f l (n + 1)) (rprim_steps l f (n + 1)) (fun H r s h K hK => prim_ok l f (n + 1) (by omega) (by omega) H r s h K hK) _ r _ (h.len hle6 (by simp only [hpS, eq_self, implies_true, f4])) _ ?_
        have hle7 := (rgoalW_steps (rprim_steps l f (n + 1))).le _ hle6
        generalize (rgoalW (rprim f l (n + 1)) l (rgot l kOpen (rnest l n s)).2).1 = g at hK ⊢
        generalize (rgoalW (rprim f l (n + 1)) l (rgot l kOpen (rnest l n s)).2).2 = s' at hK hle7 ⊢
        obtain ⟨x1, x2, x3, x4, x5, x6, x7, x8, x9, x10, x11, x12, hca⟩ := g.opn
        simp -dsimp only [go_sem, gS, f4, Gl.d, hca]
        refine newK_hp (fun b7 f7 => ?_)
        simp only [off_cons, off_nil] at f7
        simp -dsimp only [go_sem, gS, f4, f7]
        refine need_ok _ r l s' kClose (h.len hle7 (by simp only [hpS, eq_self, implies_true, f4, f7])) _ ?_
        simp -dsimp only [go_sem, gS, f4, f7]
        refine retW_drop (G := rset H r l (rneed l kClose s')) (leH_hp (l1 := [(r, .var (rdA l (rneed l kClose s')))]) (by simp only [hpS, eq_self, implies_true, f4, f7]) (by simp only [hpS, eq_self, implies_true, f4, f7])) (retW_is ?_)
        simp only [Gl.d, hca] at hK; exact hK
       | false =>
        simp only [hg6, Bool.false_eq_true, if_false] at hK
        rw [rgot_false hg6]
        simp -dsimp only [go_sem, gS, f4, hw]
        have hnt : n + 1 ≤ 66 := by omega
        refine term_ok f _ r l _ (n + 1) (by omega) hnt (h.len hle0 (by simp only [hpS, eq_self, implies_true, f4])) _ ?_
        have hle1 := (rterm_steps l f (n + 1)).le _ hle0
        simp only [rcall] at hK
        generalize hg : rterm f l (n + 1) (rnest l n s) = a at hK hle1 ⊢
        obtain ⟨⟨ak, an, ai, ax⟩, s1⟩ := a
        simp only at hle1
        simp -dsimp only [go_sem, gS, f4, Tm.d, Tm.cs]
        refine newK_hp (fun b8 f8 => ?_)
        simp only [off_cons, off_nil] at f8
        simp -dsimp only [go_sem, gS, f4, f8]
        refine got_ok _ r l s1 kEq (h.len hle1 (by simp only [hpS, eq_self, implies_true, f4, f8])) _ ?_
        cases hg7 : (rgot l kEq s1).1 with
        | true =>
         simp only [hg7, if_true] at hK
         simp -dsimp only [go_sem, gS, f4, f8, hw]
         refine term_ok f _ r l _ (n + 1) (by omega) hnt (h.len (rgot_le (t := kEq) hle1) (by simp only [hpS, eq_self, implies_true, f4, f8])) _ ?_
         generalize hg2 : rterm f l (n + 1) (rgot l kEq s1).2 = c at hK ⊢
         obtain ⟨⟨ck, cn, ci, cx⟩, s2⟩ := c
         simp -dsimp only [go_sem, gS, f4, f8, Tm.d, Tm.cs]
         refine retW_deep ?_
         simp -dsimp only [go_sem, gS, f4, f8]
         refine retW_drop (G := rset H r l s2) (leH_hp (l1 := [(r, .var (rdA l s2))]) (by simp only [hpS, eq_self, implies_true, f4, f8]) (by simp only [hpS, eq_self, implies_true, f4, f8])) (retW_is ?_)
         have hall : Gl.d (.mk 3 (.mk ak an ai ax) (.mk ck cn ci cx) ⟨#[]⟩ [] []) = .agg [.int .i64 3, .int .i64 ak, .str an, .int .i64 ai, .slice (Tm.ds ax), .int .i64 ck, .str cn, .int .i64 ci, .slice (Tm.ds cx), .str ⟨#[]⟩, .slice [], .slice []] := by
          simp [Gl.d, Gl.cs, Tm.cs, Gl.ds]
         simp only [hall] at hK; exact hK
        | false =>
         simp only [hg7, Bool.false_eq_true, if_false] at hK
         rw [rgot_false hg7]
         have hall : Gl.d (.mk 4 .none .none an ax []) = .agg [.int .i64 4, .int .i64 0, .str ⟨#[]⟩, .int .i64 0, .slice [], .int .i64 0, .str ⟨#[]⟩, .int .i64 0, .slice [], .str an, .slice (Tm.ds ax), .slice []] := by
          simp [Gl.d, Gl.cs, Tm.none, Tm.cs, Tm.ds, Gl.ds, Tm.ds_map]
         simp -dsimp only [go_sem, gS, f4, f8]
         refine gif_split (fun h3 => ?_) (fun h3 => ?_)
         ·have h3' : ak ≠ 3 := by simpa using h3
          simp only [Tm.name, Tm.args, Tm.kind, h3', ↓reduceIte, hall] at hK
          simp -dsimp only [go_sem, gS, f4, f8]
          refine fail_ok _ r l s1 2 (h.len hle1 (by simp only [hpS, eq_self, implies_true, f4, f8])) _ ?_
          simp -dsimp only [go_sem, gS, f4, f8]
          refine retW_deep ?_
          simp -dsimp only [go_sem, gS, f4, f8]
          exact retW_drop (G := rset H r l (rfail 2 s1)) (leH_hp (l1 := [(r, .var (rdA l (rfail 2 s1)))]) (by simp only [hpS, eq_self, implies_true, f4, f8]) (by simp only [hpS, eq_self, implies_true, f4, f8])) (retW_is hK)
         ·have h3' : ak = 3 := by simpa using h3
          subst h3'
          simp only [Tm.name, Tm.args, Tm.kind, ↓reduceIte, hall] at hK
          simp -dsimp only [go_sem, gS, f4, f8]
          refine retW_deep ?_
          simp -dsimp only [go_sem, gS, f4, f8]
          exact retW_drop (G := rset H r l s1) (leH_hp (l1 := [(r, .var (rdA l s1))]) (by simp only [hpS, eq_self, implies_true, f4, f8]) (by simp only [hpS, eq_self, implies_true, f4, f8])) (retW_is hK)
end Go.Aug

/- Walks of ParI. -/
namespace Go.Aug
open Go.Proofs
set_option maxRecDepth 100000
set_option linter.unusedSimpArgs false
end Go.Aug

/- Walks of ParJ. -/
namespace Go.Aug
open Go.Proofs
set_option maxRecDepth 100000
set_option linter.unusedSimpArgs false
attribute [local irreducible] hid andK letA onSome onVar onArr arrOnly onInt onBool onTup idxA ldV ldD addO ofPart appTo fillL slA srcK nilQ retW gif sgd sguard svc sops sdops sagain aopO aLoad aStore aBin aUn aConv aLen aIndexAddr aIndex aIndexAddrS aIndexS aSlice aAppend aBuild aBuildSlice aMakeSlice aField aFieldOf aCallOp deepK deepL frzM putE newK newV growV ACall roundQ thenQ inBlockQ sret cnd szs nilC onRow aLookup aMapUpdate aMakeMap
attribute [local go_sem] Int.natCast_zero
set_option maxHeartbeats 4000000 in
theorem ctor_ok {eb : EbG} (H : Heap) (r : Nat) (l : List Tok) (s : RdS) (h : RdAt H r l s) (K : A → Heap → Prop) (hK : K (.d (rctor l s).1.d) (rset H r l (rctor l s).2)) :
  ACall Tryz.prog (seatV eb) 88 [.ref r 0] H K := by
 refine ACall.hp_in h.at_ ?_
 refine ACall.by mixed fn88 (by simp) ?_
 conv in s88 => cbv
 refine svc_start ?_
 simp -dsimp only [go_sem, gS]
 refine newK_hp (fun b4 f4 => ?_)
 simp only [off_cons, off_nil] at f4
 simp -dsimp only [go_sem, gS, f4]
 refine word_ok _ r l s 1 (h.len h.le (by simp only [hpS, eq_self, implies_true, f4])) _ ?_
 have hle1 := rword_le (kind := 1) h.le
 simp only [rctor] at hK
 generalize (rword l 1 s).1 = w at hK ⊢
 generalize (rword l 1 s).2 = s1 at hK hle1 ⊢
 simp -dsimp only [go_sem, gS, f4]
 refine newK_hp (fun b5 f5 => ?_)
 simp only [off_cons, off_nil] at f5
 simp -dsimp only [go_sem, gS, f4, f5]
 refine (fun (key : ∀ (xs' : List Ty) (s' : RdS) (a' : A) (R' : Heap), Acc H [r, b4, b5] 63 3 (xs'.map Ty.d) a' R' → rargs (rtype 66 l 1) l 10 [] s1 = (xs', s') → (?T : List Ty → RdS → A → Heap → Prop) xs' s' a' R') => ?main) ?rest
 case main =>
  refine svc_loop (X := RowX Ty) (fun x => [(0, .ref r 0), (2, .ref b4 0), (3, .ref b5 0)])
   (fun x G => G = hp x.R [(r, .var (rdA l x.s)), (b4, .var [.d (.str ⟨#[]⟩), .nils]), (b5, .var [.d (.str w), x.a])] ∧ RowJ H [r, b4, b5] 63 3 Ty.d (rtype 66 l 1) l s1 x)
   (fun x => x.k) ⟨10, [], s1, .nils, H⟩ _ ⟨rfl, RowJ.first hle1⟩ (by simp -dsimp only [go_sem, gS]) (leH_hp (by simp only [hpS, eq_self, implies_true, f4, f5]) (by simp only [hpS, eq_self, implies_true, f4, f5])) ?_
  rintro ⟨k, xs, s2, a, R⟩ G ⟨rfl, hJ⟩
  have hle2 := hJ.le
  have hone := hJ.acc.one
  have hok : okK [r, b4, b5] R [(r, .var (rdA l s2)), (b4, .var [.d (.str ⟨#[]⟩), .nils]), (b5, .var [.d (.str w), a])] := by simp only [hpS, eq_self, implies_true, f4, f5]
  simp only at hle2 hone
  simp -dsimp only [go_sem, gS, rdA, f4, f5]
  refine gif_split (fun h2 => ?_) (fun h2 => ?_)
  ·have h2' : s2.err = 0 := of_decide_eq_true h2
   simp -dsimp only [go_sem, gS, f4, f5, h2]
   refine andK_split (hJ.acc.lenable (by simp -dsimp only [go_sem, gS])) ?_
   rw [hJ.acc.len hok]
   simp -dsimp only [go_sem, gS, f4, f5]
   refine more_ok _ r l s2 xs.length (h.len hle2 (by simp only [hpS, eq_self, implies_true, f4, f5])) _ ?_
   cases hm : (rmore l xs.length s2).1 with
   | false =>
    have hfin := hJ.done h2' hm
    generalize (rmore l xs.length s2).2 = s3 at hfin ⊢
    simp -dsimp only [go_sem, gS, f4, f5]
    exact key xs s3 a R hJ.acc hfin
   | true =>
    simp -dsimp only [go_sem, gS, f4, f5]
    have hle3 := rmore_le (n := xs.length) hle2
    refine type_ok 66 _ r l _ 1 (by omega) (by omega) (h.len hle3 (by simp only [hpS, eq_self, implies_true, f4, f5])) _ ?_
    have hnext := fun a' R' hacc => hJ.next (rtype_steps l 66 1) (fun s hs => rtype_end (by omega) hs) h2' hm (a' := a') (R' := R') hacc
    simp only at hnext
    generalize (rmore l xs.length s2).2 = s3 at hnext ⊢
    generalize (rtype 66 l 1 s3).1 = t at hnext ⊢
    generalize (rtype 66 l 1 s3).2 = s4 at hnext ⊢
    obtain ⟨tv, tn, ta⟩ := t
    simp -dsimp only [go_sem, gS, f4, f5, Ty.d, Ty.cs]
    refine newV_hp (fun b6 v6 f6 w6 => ?_)
    simp only [off_cons, off_nil] at f6
    simp -dsimp only [go_sem, gS, f4, f5, f6]
    have hsz := hJ.nine
    simp only at hsz
    refine hJ.acc.appTo (by simp only [hpS, eq_self, implies_true, f4, f5, f6]) (by simp only [hpS, eq_self, implies_true, f4]) (by simp only [List.length_map, List.length_cons, List.length_nil]; omega) (fun a' R' hacc' hn => ?_)
    have hone' := hacc'.one
    have f6' := hn b6 (by simp only [hpS, eq_self, implies_true, f4, f5, f6]) f6.2.2.2.2.2.2
    rw [show xs.map Ty.d ++ [D.agg [D.bool tv, D.str tn, D.slice (Ty.ds ta)]] = (xs ++ [Ty.mk tv tn ta]).map Ty.d by simp [Ty.d, Ty.cs]] at hacc'
    simp -dsimp only [go_sem, gS, f4, f5, f6, hone']
    refine roundQ_next ⟨k - 1, xs ++ [.mk tv tn ta], s4, a', R'⟩ _ ⟨rfl, (hnext a' R' hacc').1⟩ (hnext a' R' hacc').2 (by simp -dsimp only [go_sem, gS]) (leH_hp (by simp only [hpS, eq_self, implies_true, f4, f5, f6, f6']) (by simp only [hpS, eq_self, implies_true, f4, f5, f6, f6']))
  ·have h2' : s2.err ≠ 0 := of_decide_eq_false h2
   simp -dsimp only [go_sem, gS, f4, f5, h2]
   exact key xs s2 a R hJ.acc (hJ.stop h2')
 case rest =>
  intro xs' s' a' R' hacc hfin
  rw [hfin] at hK
  simp -dsimp only [go_sem, gS, f4, f5, hacc.allD, hacc.one]
  refine retW_deep ?_
  simp -dsimp only [go_sem, gS, f4, f5]
  refine hacc.deep (by simp only [hpS, eq_self, implies_true, f4, f5]) (fun R'' hle'' hn => ?_)
  simp -dsimp only [go_sem, gS, f4, f5]
  exact retW_drop (G := rset H r l s') (leH_hp2 (l1 := [(r, .var (rdA l s'))]) hle'' (by simp only [hpS, eq_self, implies_true, f4, f5]) (by simp only [hpS, eq_self, implies_true, f4, f5])) (retW_is hK)
end Go.Aug

/- Walks of ParK. -/
namespace Go.Aug
open Go.Proofs
set_option maxRecDepth 100000
set_option linter.unusedSimpArgs false
attribute [local irreducible] hid andK letA onSome onVar onArr arrOnly onInt onBool onTup idxA ldV ldD addO ofPart appTo fillL slA srcK nilQ retW gif sgd sguard svc sops sdops sagain aopO aLoad aStore aBin aUn aConv aLen aIndexAddr aIndex aIndexAddrS aIndexS aSlice aAppend aBuild aBuildSlice aMakeSlice aField aFieldOf aCallOp deepK deepL frzM putE newK newV growV ACall roundQ thenQ inBlockQ sret cnd szs nilC onRow aLookup aMapUpdate aMakeMap
attribute [local go_sem] Int.natCast_zero
set_option maxHeartbeats 16000000 in
theorem item_ok {eb : EbG} (H : Heap) (r : Nat) (l : List Tok) (s : RdS) (h : RdAt H r l s) (K : A → Heap → Prop) (hK : K (.d (ritem l s).1.d) (rset H r l (ritem l s).2)) :
  ACall Tryz.prog (seatV eb) 39 [.ref r 0] H K := by
 refine ACall.hp_in h.at_ ?_
 refine ACall.by mixed fn39 (by simp) ?_
 conv in s39 => cbv
 refine svc_start ?_
 simp -dsimp only [go_sem, gS]
 refine newK_hp (fun b2 f2 => ?_)
 simp only [off_cons, off_nil] at f2
 simp -dsimp only [go_sem, gS, f2]
 refine newK_hp (fun b3 f3 => ?_)
 simp only [off_cons, off_nil] at f3
 simp -dsimp only [go_sem, gS, f2, f3]
 refine got_ok _ r l s kType (h.len h.le (by simp only [hpS, eq_self, implies_true, f2, f3])) _ ?_
 have hle0 := h.le
 cases hg1 : (rgot l kType s).1 with
 | true =>
  simp only [ritem, hg1, if_true, ritType] at hK
  have hle1 := rgot_le (t := kType) h.le
  simp -dsimp only [go_sem, gS, f2, f3]
  refine word_ok _ r l _ 1 (h.len hle1 (by simp only [hpS, eq_self, implies_true, f2, f3])) _ ?_
  have hle5 := rword_le (kind := 1) hle1
  generalize (rword l 1 (rgot l kType s).2).1 = w at hK ⊢
  generalize (rword l 1 (rgot l kType s).2).2 = s5 at hK hle5 ⊢
  simp -dsimp only [go_sem, gS, f2, f3]

  refine (fun (key : ∀ (xs' : List ByteArray) (s' : RdS) (a' : A) (R' : Heap), Acc H [r, b2, b3] 9 1 (xs'.map D.str) a' R' → rargs (rword l 2) l 10 [] s5 = (xs', s') → (?T1 : List ByteArray → RdS → A → Heap → Prop) xs' s' a' R') => ?main) ?rest
  case main =>
   refine svc_loop (X := RowX ByteArray) (fun x => [(0, .ref r 0), (2, .ref b2 0), (3, .ref b3 0)])
    (fun x G => G = hp x.R [(r, .var (rdA l x.s)), (b2, .var [.d (.int .i64 0), .d (.str ⟨#[]⟩), .nils, .nils, .nils, .nils, .d (.int .i64 0), .nils, .d (.int .i64 0), .d (.int .i64 0), .d (.str ⟨#[]⟩), .d (.int .i64 0), .nils, .d (.int .i64 0), .d (.str ⟨#[]⟩), .d (.int .i64 0), .nils, .d (.str ⟨#[]⟩), .nils, .nils]), (b3, .var [.d (.int .i64 1), .d (.str w), x.a, .nils, .nils, .nils, .d (.int .i64 0), .nils, .d (.int .i64 0), .d (.int .i64 0), .d (.str ⟨#[]⟩), .d (.int .i64 0), .nils, .d (.int .i64 0), .d (.str ⟨#[]⟩), .d (.int .i64 0), .nils, .d (.str ⟨#[]⟩), .nils, .nils])] ∧ RowJ H [r, b2, b3] 9 1 D.str (rword l 2) l s5 x)
    (fun x => x.k) ⟨10, [], s5, .nils, H⟩ _ ⟨rfl, RowJ.first hle5⟩ (by simp -dsimp only [go_sem, gS]) (leH_hp (by simp only [hpS, eq_self, implies_true, f2, f3]) (by simp only [hpS, eq_self, implies_true, f2, f3])) ?_
   rintro ⟨k, xs, s2, a, R⟩ G ⟨rfl, hJ⟩
   have hle2 := hJ.le
   have hone := hJ.acc.one
   have hok : okK [r, b2, b3] R [(r, .var (rdA l s2)), (b2, .var [.d (.int .i64 0), .d (.str ⟨#[]⟩), .nils, .nils, .nils, .nils, .d (.int .i64 0), .nils, .d (.int .i64 0), .d (.int .i64 0), .d (.str ⟨#[]⟩), .d (.int .i64 0), .nils, .d (.int .i64 0), .d (.str ⟨#[]⟩), .d (.int .i64 0), .nils, .d (.str ⟨#[]⟩), .nils, .nils]), (b3, .var [.d (.int .i64 1), .d (.str w), a, .nils, .nils, .nils, .d (.int .i64 0), .nils, .d (.int .i64 0), .d (.int .i64 0), .d (.str ⟨#[]⟩), .d (.int .i64 0), .nils, .d (.int .i64 0), .d (.str ⟨#[]⟩), .d (.int .i64 0), .nils, .d (.str ⟨#[]⟩), .nils, .nils])] := by simp only [hpS, eq_self, implies_true, f2, f3]
   simp only at hle2 hone
   simp -dsimp only [go_sem, gS, rdA, f2, f3]
   refine gif_split (fun h2 => ?_) (fun h2 => ?_)
   ·have h2' : s2.err = 0 := of_decide_eq_true h2
    simp -dsimp only [go_sem, gS, f2, f3, h2]
    refine andK_split (hJ.acc.lenable (by simp -dsimp only [go_sem, gS])) ?_
    rw [hJ.acc.len hok]
    simp -dsimp only [go_sem, gS, f2, f3]
    refine more_ok _ r l s2 xs.length (h.len hle2 (by simp only [hpS, eq_self, implies_true, f2, f3])) _ ?_
    cases hm : (rmore l xs.length s2).1 with
    | false =>
     have hfin := hJ.done h2' hm
     generalize (rmore l xs.length s2).2 = s3 at hfin ⊢
     simp -dsimp only [go_sem, gS, f2, f3]
     exact key xs s3 a R hJ.acc hfin
    | true =>
     simp -dsimp only [go_sem, gS, f2, f3]
     have hle3 := rmore_le (n := xs.length) hle2
     have hsz := hJ.nine
     simp only at hsz
     have hnext := fun a' R' hacc => hJ.next (rword_steps l 2) (fun s hs => rword_end hs) h2' hm (a' := a') (R' := R') hacc
     simp only at hnext
     generalize (rmore l xs.length s2).2 = s3 at hnext hle3 ⊢
     refine word_ok _ r l _ 2 (h.len hle3 (by simp only [hpS, eq_self, implies_true, f2, f3])) _ ?_
     generalize (rword l 2 s3).1 = t at hnext ⊢
     generalize (rword l 2 s3).2 = s4 at hnext ⊢
     simp -dsimp only [go_sem, gS, f2, f3]

     refine newV_hp (fun b6 v6 f6 w6 => ?_)
     simp only [off_cons, off_nil] at f6
     simp -dsimp only [go_sem, gS, f2, f3, f6]
     refine hJ.acc.appTo (by simp only [hpS, eq_self, implies_true, f2, f3, f6]) (by simp only [hpS, eq_self, implies_true, f2]) (by simp only [List.length_map, List.length_cons, List.length_nil]; omega) (fun a' R' hacc' hn => ?_)
     have hone' := hacc'.one
     have f6' := hn b6 (by simp only [hpS, eq_self, implies_true, f2, f3, f6]) f6.2.2.2.2.2.2
     rw [show xs.map D.str ++ [D.str t] = (xs ++ [t]).map D.str by simp] at hacc'
     simp -dsimp only [go_sem, gS, f2, f3, f6, hone']
     refine roundQ_next ⟨k - 1, xs ++ [t], s4, a', R'⟩ _ ⟨rfl, (hnext a' R' hacc').1⟩ (hnext a' R' hacc').2 (by simp -dsimp only [go_sem, gS]) (leH_hp (by simp only [hpS, eq_self, implies_true, f2, f3, f6, f6']) (by simp only [hpS, eq_self, implies_true, f2, f3, f6, f6']))
   ·have h2' : s2.err ≠ 0 := of_decide_eq_false h2
    simp -dsimp only [go_sem, gS, f2, f3, h2]
    exact key xs s2 a R hJ.acc (hJ.stop h2')
  case rest =>
   intro xs' s' a' R' hacc hfin
   have hall : ∀ cs, It.d { (default : It) with kind := 1, name := w, vars := xs', ctors := cs } = .agg [.int .i64 1, .str w, .slice (xs'.map D.str), .slice (cs.map Ct.d), .slice [], .slice [], .int .i64 0, .slice [], .int .i64 0, .int .i64 0, .str ⟨#[]⟩, .int .i64 0, .slice [], .int .i64 0, .str ⟨#[]⟩, .int .i64 0, .slice [], .str ⟨#[]⟩, .slice [], .slice []] := fun cs => by
    simp [It.d, It.cs, Gl.cs, Tm.none, Tm.cs, Tm.ds, Gl.ds, default, instInhabitedIt]
   have hle6 : s'.pos ≤ l.length := by have := (rargs_steps (rword_steps l 2) 10 []).le _ hle5; rw [hfin] at this; exact this
   have hone := hacc.one
   rw [hfin] at hK
   simp only [hall] at hK
   try simp -dsimp only [go_sem, gS, f2, f3]
   refine need_ok _ r l s' kEq (h.len hle6 (by simp only [hpS, eq_self, implies_true, f2, f3])) _ ?_
   have hle7 := rneed_le (t := kEq) hle6
   generalize rneed l kEq s' = s6 at hK hle7 ⊢
   simp -dsimp only [go_sem, gS, f2, f3]
   refine ctor_ok _ r l s6 (h.len hle7 (by simp only [hpS, eq_self, implies_true, f2, f3])) _ ?_
   have hle8 := (rctor_steps l).le _ hle7
   have hge8 := (rctor_steps l).ge s6
   generalize (rctor l s6).1 = c at hK ⊢
   generalize (rctor l s6).2 = s7 at hK hle8 hge8 ⊢
   obtain ⟨cn, ca⟩ := c
   simp -dsimp only [go_sem, gS, f2, f3, Ct.d, Ct.cs]
   refine newV_hp (fun b6 v6 f6 w6 => ?_)
   simp only [off_cons, off_nil] at f6
   simp -dsimp only [go_sem, gS, f2, f3, f6]
   refine newV_hp (fun b8 v8 f8 w8 => ?_)
   simp only [off_cons, off_nil] at f8
   simp -dsimp only [go_sem, gS, f2, f3, f6, f8]
   have hacc2 : Acc R' [r, b2, b3] 120 2 ([Ct.mk cn ca].map Ct.d) (.own b8 v8) (upd R' b8 (.arr 120 2 v8 [.agg [.str cn, .slice (ca.map Ty.d)]])) := Acc.new (by simp only [hpS, eq_self, implies_true, f8]) f8.2.2.2.2.2.2.2.2 w8
   refine svc_loop (X := Nat × List Ct × RdS × A × Heap) (fun x => [(0, .ref r 0), (2, .ref b2 0), (3, .ref b3 0)])
    (fun x G => G = hp x.2.2.2.2 [(r, .var (rdA l x.2.2.1)), (b2, .var [.d (.int .i64 0), .d (.str ⟨#[]⟩), .nils, .nils, .nils, .nils, .d (.int .i64 0), .nils, .d (.int .i64 0), .d (.int .i64 0), .d (.str ⟨#[]⟩), .d (.int .i64 0), .nils, .d (.int .i64 0), .d (.str ⟨#[]⟩), .d (.int .i64 0), .nils, .d (.str ⟨#[]⟩), .nils, .nils]), (b3, .var [.d (.int .i64 1), .d (.str w), a', x.2.2.2.1, .nils, .nils, .d (.int .i64 0), .nils, .d (.int .i64 0), .d (.int .i64 0), .d (.str ⟨#[]⟩), .d (.int .i64 0), .nils, .d (.int .i64 0), .d (.str ⟨#[]⟩), .d (.int .i64 0), .nils, .d (.str ⟨#[]⟩), .nils, .nils])] ∧ Acc R' [r, b2, b3] 120 2 (x.2.1.map Ct.d) x.2.2.2.1 x.2.2.2.2 ∧ x.2.2.1.pos ≤ l.length ∧ x.2.1.length ≤ x.2.2.1.pos + 1 ∧ l.length ≤ x.1 + x.2.2.1.pos ∧ rbars l x.1 x.2.1 x.2.2.1 = rbars l l.length [Ct.mk cn ca] s7)
    (fun x => x.1) (l.length, [Ct.mk cn ca], s7, .own b8 v8, upd R' b8 (.arr 120 2 v8 [.agg [.str cn, .slice (ca.map Ty.d)]])) _ ⟨rfl, hacc2, hle8, by simp, by simp, rfl⟩ (by simp -dsimp only [go_sem, gS]) (by rw [hp_base (by simp only [hpS, eq_self, implies_true, f8])]; exact (leH_hp (by simp only [hpS, eq_self, implies_true, f2, f3, f6, f8, setL_cons, setL_nil]) (by simp only [hpS, eq_self, implies_true, f2, f3, f6, f8, setL_cons, setL_nil]))) ?_
   rintro ⟨k, cs, s8, a3, R3⟩ G ⟨rfl, hacc3, hle9, hcl, hfu, hrun⟩
   simp only at hacc3 hle9 hcl hfu hrun
   have hone3 := hacc3.one
   have hsh := h.short
   simp -dsimp only [go_sem, gS, f2, f3]
   refine got_ok _ r l s8 kBar (h.len hle9 (by simp only [hpS, eq_self, implies_true, f2, f3])) _ ?_
   cases hg : (rgot l kBar s8).1 with
   | true =>
    obtain ⟨hz0, hz1, hz2⟩ := rgot_true hg
    obtain ⟨k, rfl⟩ : ∃ k', k = k' + 1 := ⟨k - 1, by omega⟩
    have hle10 := rgot_le (t := kBar) hle9
    have hrun' : rbars l k (cs ++ [(rctor l (rgot l kBar s8).2).1]) (rctor l (rgot l kBar s8).2).2 = rbars l l.length [Ct.mk cn ca] s7 := by rw [← hrun]; simp [rbars, hg]
    generalize (rgot l kBar s8).2 = s9 at hrun' hle10 hz1 ⊢
    simp -dsimp only [go_sem, gS, f2, f3]
    refine ctor_ok _ r l s9 (h.len hle10 (by simp only [hpS, eq_self, implies_true, f2, f3])) _ ?_
    have hle11 := (rctor_steps l).le _ hle10
    have hge11 := (rctor_steps l).ge s9
    generalize (rctor l s9).1 = c at hrun' ⊢
    generalize (rctor l s9).2 = s10 at hrun' hle11 hge11 ⊢
    obtain ⟨dn, da⟩ := c
    simp -dsimp only [go_sem, gS, f2, f3, Ct.d, Ct.cs]
    refine newV_hp (fun b7 v7 f7 w7 => ?_)
    simp only [off_cons, off_nil] at f7
    simp -dsimp only [go_sem, gS, f2, f3, f7]
    refine hacc3.appTo (by simp only [hpS, eq_self, implies_true, f2, f3, f7]) (by simp only [hpS, eq_self, implies_true, f2]) (by simp only [List.length_map, List.length_cons, List.length_nil]; omega) (fun a4 R4 hacc4 hn4 => ?_)
    have hone4 := hacc4.one
    have f7' := hn4 b7 (by simp only [hpS, eq_self, implies_true, f2, f3, f7]) f7.2.2.2.2.2.2
    rw [show cs.map Ct.d ++ [D.agg [D.str dn, D.slice (da.map Ty.d)]] = (cs ++ [Ct.mk dn da]).map Ct.d by simp [Ct.d, Ct.cs]] at hacc4
    simp -dsimp only [go_sem, gS, f2, f3, f7, hone4]
    refine roundQ_next (k, cs ++ [Ct.mk dn da], s10, a4, R4) (hp R4 [(r, .var (rdA l s10)), (b2, .var [.d (.int .i64 0), .d (.str ⟨#[]⟩), .nils, .nils, .nils, .nils, .d (.int .i64 0), .nils, .d (.int .i64 0), .d (.int .i64 0), .d (.str ⟨#[]⟩), .d (.int .i64 0), .nils, .d (.int .i64 0), .d (.str ⟨#[]⟩), .d (.int .i64 0), .nils, .d (.str ⟨#[]⟩), .nils, .nils]), (b3, .var [.d (.int .i64 1), .d (.str w), a', a4, .nils, .nils, .d (.int .i64 0), .nils, .d (.int .i64 0), .d (.int .i64 0), .d (.str ⟨#[]⟩), .d (.int .i64 0), .nils, .d (.int .i64 0), .d (.str ⟨#[]⟩), .d (.int .i64 0), .nils, .d (.str ⟨#[]⟩), .nils, .nils])]) ⟨rfl, hacc4, hle11, ?_, ?_, hrun'⟩ (Nat.lt_succ_self k) (by simp -dsimp only [go_sem, gS]) (leH_hp (by simp only [hpS, eq_self, implies_true, f2, f3, f7, f7']) (by simp only [hpS, eq_self, implies_true, f2, f3, f7, f7']))
    ·simp only [List.length_append, List.length_cons, List.length_nil]; omega
    ·simp only; omega
   | false =>
    have hfin2 : rbars l l.length [Ct.mk cn ca] s7 = (cs, s8) := by
     rw [← hrun]; cases k with
     | zero => rfl
     | succ k => simp [rbars, hg]
    rw [hfin2] at hK
    rw [rgot_false hg]
    try simp -dsimp only [go_sem, gS, f2, f3, hacc.allD]
    refine retW_deep ?_
    simp -dsimp only [go_sem, gS, f2, f3]
    refine hacc.deep2 hacc3 (by simp only [hpS, eq_self, implies_true, f2, f3]) (fun R4 hacc4 hn4 => ?_)
    simp -dsimp only [go_sem, gS, f2, f3]
    refine hacc4.deep (by simp only [hpS, eq_self, implies_true, f2, f3]) (fun R'' hle'' hn => ?_)
    simp -dsimp only [go_sem, gS, f2, f3]
    exact retW_drop (G := rset H r l s8) (leH_hp2 (l1 := [(r, .var (rdA l s8))]) hle'' (by simp only [hpS, eq_self, implies_true, f2, f3]) (by simp only [hpS, eq_self, implies_true, f2, f3])) (retW_is hK)
 | false =>
  rw [rgot_false hg1]
  simp -dsimp only [go_sem, gS, f2, f3]
  refine got_ok _ r l s kPred (h.len h.le (by simp only [hpS, eq_self, implies_true, f2, f3])) _ ?_
  cases hg2 : (rgot l kPred s).1 with
  | true =>
   simp only [ritem, hg1, hg2, Bool.false_eq_true, if_false, if_true, ritPred] at hK
   have hle1 := rgot_le (t := kPred) h.le
   simp -dsimp only [go_sem, gS, f2, f3]
   refine word_ok _ r l _ 1 (h.len hle1 (by simp only [hpS, eq_self, implies_true, f2, f3])) _ ?_
   have hle5 := rword_le (kind := 1) hle1
   generalize (rword l 1 (rgot l kPred s).2).1 = w at hK ⊢
   generalize (rword l 1 (rgot l kPred s).2).2 = s5 at hK hle5 ⊢
   simp -dsimp only [go_sem, gS, f2, f3]

   refine (fun (key : ∀ (xs' : List Ty) (s' : RdS) (a' : A) (R' : Heap), Acc H [r, b2, b3] 63 3 (xs'.map Ty.d) a' R' → rargs (rtype 66 l 1) l 10 [] s5 = (xs', s') → (?T2 : List Ty → RdS → A → Heap → Prop) xs' s' a' R') => ?main) ?rest
   case main =>
    refine svc_loop (X := RowX Ty) (fun x => [(0, .ref r 0), (2, .ref b2 0), (3, .ref b3 0)])
     (fun x G => G = hp x.R [(r, .var (rdA l x.s)), (b2, .var [.d (.int .i64 0), .d (.str ⟨#[]⟩), .nils, .nils, .nils, .nils, .d (.int .i64 0), .nils, .d (.int .i64 0), .d (.int .i64 0), .d (.str ⟨#[]⟩), .d (.int .i64 0), .nils, .d (.int .i64 0), .d (.str ⟨#[]⟩), .d (.int .i64 0), .nils, .d (.str ⟨#[]⟩), .nils, .nils]), (b3, .var [.d (.int .i64 2), .d (.str w), .nils, .nils, x.a, .nils, .d (.int .i64 0), .nils, .d (.int .i64 0), .d (.int .i64 0), .d (.str ⟨#[]⟩), .d (.int .i64 0), .nils, .d (.int .i64 0), .d (.str ⟨#[]⟩), .d (.int .i64 0), .nils, .d (.str ⟨#[]⟩), .nils, .nils])] ∧ RowJ H [r, b2, b3] 63 3 Ty.d (rtype 66 l 1) l s5 x)
     (fun x => x.k) ⟨10, [], s5, .nils, H⟩ _ ⟨rfl, RowJ.first hle5⟩ (by simp -dsimp only [go_sem, gS]) (leH_hp (by simp only [hpS, eq_self, implies_true, f2, f3]) (by simp only [hpS, eq_self, implies_true, f2, f3])) ?_
    rintro ⟨k, xs, s2, a, R⟩ G ⟨rfl, hJ⟩
    have hle2 := hJ.le
    have hone := hJ.acc.one
    have hok : okK [r, b2, b3] R [(r, .var (rdA l s2)), (b2, .var [.d (.int .i64 0), .d (.str ⟨#[]⟩), .nils, .nils, .nils, .nils, .d (.int .i64 0), .nils, .d (.int .i64 0), .d (.int .i64 0), .d (.str ⟨#[]⟩), .d (.int .i64 0), .nils, .d (.int .i64 0), .d (.str ⟨#[]⟩), .d (.int .i64 0), .nils, .d (.str ⟨#[]⟩), .nils, .nils]), (b3, .var [.d (.int .i64 2), .d (.str w), .nils, .nils, a, .nils, .d (.int .i64 0), .nils, .d (.int .i64 0), .d (.int .i64 0), .d (.str ⟨#[]⟩), .d (.int .i64 0), .nils, .d (.int .i64 0), .d (.str ⟨#[]⟩), .d (.int .i64 0), .nils, .d (.str ⟨#[]⟩), .nils, .nils])] := by simp only [hpS, eq_self, implies_true, f2, f3]
    simp only at hle2 hone
    simp -dsimp only [go_sem, gS, rdA, f2, f3]
    refine gif_split (fun h2 => ?_) (fun h2 => ?_)
    ·have h2' : s2.err = 0 := of_decide_eq_true h2
     simp -dsimp only [go_sem, gS, f2, f3, h2]
     refine andK_split (hJ.acc.lenable (by simp -dsimp only [go_sem, gS])) ?_
     rw [hJ.acc.len hok]
     simp -dsimp only [go_sem, gS, f2, f3]
     refine more_ok _ r l s2 xs.length (h.len hle2 (by simp only [hpS, eq_self, implies_true, f2, f3])) _ ?_
     cases hm : (rmore l xs.length s2).1 with
     | false =>
      have hfin := hJ.done h2' hm
      generalize (rmore l xs.length s2).2 = s3 at hfin ⊢
      simp -dsimp only [go_sem, gS, f2, f3]
      exact key xs s3 a R hJ.acc hfin
     | true =>
      simp -dsimp only [go_sem, gS, f2, f3]
      have hle3 := rmore_le (n := xs.length) hle2
      have hsz := hJ.nine
      simp only at hsz
      have hnext := fun a' R' hacc => hJ.next (rtype_steps l 66 1) (fun s hs => rtype_end (by omega) hs) h2' hm (a' := a') (R' := R') hacc
      simp only at hnext
      generalize (rmore l xs.length s2).2 = s3 at hnext hle3 ⊢
      refine type_ok 66 _ r l _ 1 (by omega) (by omega) (h.len hle3 (by simp only [hpS, eq_self, implies_true, f2, f3])) _ ?_
      generalize (rtype 66 l 1 s3).1 = t at hnext ⊢
      generalize (rtype 66 l 1 s3).2 = s4 at hnext ⊢
      obtain ⟨tv, tn, ta⟩ := t
      simp -dsimp only [go_sem, gS, f2, f3, Ty.d, Ty.cs]

      refine newV_hp (fun b6 v6 f6 w6 => ?_)
      simp only [off_cons, off_nil] at f6
      simp -dsimp only [go_sem, gS, f2, f3, f6]
      refine hJ.acc.appTo (by simp only [hpS, eq_self, implies_true, f2, f3, f6]) (by simp only [hpS, eq_self, implies_true, f2]) (by simp only [List.length_map, List.length_cons, List.length_nil]; omega) (fun a' R' hacc' hn => ?_)
      have hone' := hacc'.one
      have f6' := hn b6 (by simp only [hpS, eq_self, implies_true, f2, f3, f6]) f6.2.2.2.2.2.2
      rw [show xs.map Ty.d ++ [D.agg [D.bool tv, D.str tn, D.slice (Ty.ds ta)]] = (xs ++ [Ty.mk tv tn ta]).map Ty.d by simp [Ty.d, Ty.cs]] at hacc'
      simp -dsimp only [go_sem, gS, f2, f3, f6, hone']
      refine roundQ_next ⟨k - 1, xs ++ [Ty.mk tv tn ta], s4, a', R'⟩ _ ⟨rfl, (hnext a' R' hacc').1⟩ (hnext a' R' hacc').2 (by simp -dsimp only [go_sem, gS]) (leH_hp (by simp only [hpS, eq_self, implies_true, f2, f3, f6, f6']) (by simp only [hpS, eq_self, implies_true, f2, f3, f6, f6']))
    ·have h2' : s2.err ≠ 0 := of_decide_eq_false h2
     simp -dsimp only [go_sem, gS, f2, f3, h2]
     exact key xs s2 a R hJ.acc (hJ.stop h2')
   case rest =>
    intro xs' s' a' R' hacc hfin
    have hall : It.d { (default : It) with kind := 2, name := w, types := xs' } = .agg [.int .i64 2, .str w, .slice [], .slice [], .slice (xs'.map Ty.d), .slice [], .int .i64 0, .slice [], .int .i64 0, .int .i64 0, .str ⟨#[]⟩, .int .i64 0, .slice [], .int .i64 0, .str ⟨#[]⟩, .int .i64 0, .slice [], .str ⟨#[]⟩, .slice [], .slice []] := by
     simp [It.d, It.cs, Gl.cs, Tm.none, Tm.cs, Tm.ds, Gl.ds, default, instInhabitedIt]
    rw [hfin] at hK
    simp only [hall] at hK

    try simp -dsimp only [go_sem, gS, f2, f3, hacc.allD, hacc.one]
    refine retW_deep ?_
    simp -dsimp only [go_sem, gS, f2, f3]
    refine hacc.deep (by simp only [hpS, eq_self, implies_true, f2, f3]) (fun R'' hle'' hn => ?_)
    simp -dsimp only [go_sem, gS, f2, f3]
    exact retW_drop (G := rset H r l s') (leH_hp2 (l1 := [(r, .var (rdA l s'))]) hle'' (by simp only [hpS, eq_self, implies_true, f2, f3]) (by simp only [hpS, eq_self, implies_true, f2, f3])) (retW_is hK)
  | false =>
   rw [rgot_false hg2]
   simp -dsimp only [go_sem, gS, f2, f3]
   refine got_ok _ r l s kMode (h.len h.le (by simp only [hpS, eq_self, implies_true, f2, f3])) _ ?_
   cases hg3 : (rgot l kMode s).1 with
   | true =>
    simp only [ritem, hg1, hg2, hg3, Bool.false_eq_true, if_false, if_true, ritMode] at hK
    have hle1 := rgot_le (t := kMode) h.le
    simp -dsimp only [go_sem, gS, f2, f3]
    refine word_ok _ r l _ 1 (h.len hle1 (by simp only [hpS, eq_self, implies_true, f2, f3])) _ ?_
    have hle5 := rword_le (kind := 1) hle1
    generalize (rword l 1 (rgot l kMode s).2).1 = w at hK ⊢
    generalize (rword l 1 (rgot l kMode s).2).2 = s5 at hK hle5 ⊢
    simp -dsimp only [go_sem, gS, f2, f3]

    refine (fun (key : ∀ (xs' : List Bool) (s' : RdS) (a' : A) (R' : Heap), Acc H [r, b2, b3] 4 1 (xs'.map D.bool) a' R' → rargs (rwayIn l) l 10 [] s5 = (xs', s') → (?T3 : List Bool → RdS → A → Heap → Prop) xs' s' a' R') => ?main) ?rest
    case main =>
     refine svc_loop (X := RowX Bool) (fun x => [(0, .ref r 0), (2, .ref b2 0), (3, .ref b3 0)])
      (fun x G => G = hp x.R [(r, .var (rdA l x.s)), (b2, .var [.d (.int .i64 0), .d (.str ⟨#[]⟩), .nils, .nils, .nils, .nils, .d (.int .i64 0), .nils, .d (.int .i64 0), .d (.int .i64 0), .d (.str ⟨#[]⟩), .d (.int .i64 0), .nils, .d (.int .i64 0), .d (.str ⟨#[]⟩), .d (.int .i64 0), .nils, .d (.str ⟨#[]⟩), .nils, .nils]), (b3, .var [.d (.int .i64 3), .d (.str w), .nils, .nils, .nils, x.a, .d (.int .i64 0), .nils, .d (.int .i64 0), .d (.int .i64 0), .d (.str ⟨#[]⟩), .d (.int .i64 0), .nils, .d (.int .i64 0), .d (.str ⟨#[]⟩), .d (.int .i64 0), .nils, .d (.str ⟨#[]⟩), .nils, .nils])] ∧ RowJ H [r, b2, b3] 4 1 D.bool (rwayIn l) l s5 x)
      (fun x => x.k) ⟨10, [], s5, .nils, H⟩ _ ⟨rfl, RowJ.first hle5⟩ (by simp -dsimp only [go_sem, gS]) (leH_hp (by simp only [hpS, eq_self, implies_true, f2, f3]) (by simp only [hpS, eq_self, implies_true, f2, f3])) ?_
     rintro ⟨k, xs, s2, a, R⟩ G ⟨rfl, hJ⟩
     have hle2 := hJ.le
     have hone := hJ.acc.one
     have hok : okK [r, b2, b3] R [(r, .var (rdA l s2)), (b2, .var [.d (.int .i64 0), .d (.str ⟨#[]⟩), .nils, .nils, .nils, .nils, .d (.int .i64 0), .nils, .d (.int .i64 0), .d (.int .i64 0), .d (.str ⟨#[]⟩), .d (.int .i64 0), .nils, .d (.int .i64 0), .d (.str ⟨#[]⟩), .d (.int .i64 0), .nils, .d (.str ⟨#[]⟩), .nils, .nils]), (b3, .var [.d (.int .i64 3), .d (.str w), .nils, .nils, .nils, a, .d (.int .i64 0), .nils, .d (.int .i64 0), .d (.int .i64 0), .d (.str ⟨#[]⟩), .d (.int .i64 0), .nils, .d (.int .i64 0), .d (.str ⟨#[]⟩), .d (.int .i64 0), .nils, .d (.str ⟨#[]⟩), .nils, .nils])] := by simp only [hpS, eq_self, implies_true, f2, f3]
     simp only at hle2 hone
     simp -dsimp only [go_sem, gS, rdA, f2, f3]
     refine gif_split (fun h2 => ?_) (fun h2 => ?_)
     ·have h2' : s2.err = 0 := of_decide_eq_true h2
      simp -dsimp only [go_sem, gS, f2, f3, h2]
      refine andK_split (hJ.acc.lenable (by simp -dsimp only [go_sem, gS])) ?_
      rw [hJ.acc.len hok]
      simp -dsimp only [go_sem, gS, f2, f3]
      refine more_ok _ r l s2 xs.length (h.len hle2 (by simp only [hpS, eq_self, implies_true, f2, f3])) _ ?_
      cases hm : (rmore l xs.length s2).1 with
      | false =>
       have hfin := hJ.done h2' hm
       generalize (rmore l xs.length s2).2 = s3 at hfin ⊢
       simp -dsimp only [go_sem, gS, f2, f3]
       exact key xs s3 a R hJ.acc hfin
      | true =>
       simp -dsimp only [go_sem, gS, f2, f3]
       have hle3 := rmore_le (n := xs.length) hle2
       have hsz := hJ.nine
       simp only at hsz
       have hnext := fun a' R' hacc => hJ.next (rwayIn_steps l) (fun s hs => rwayIn_end hs) h2' hm (a' := a') (R' := R') hacc
       simp only at hnext
       generalize (rmore l xs.length s2).2 = s3 at hnext hle3 ⊢
       refine got_ok _ r l s3 kIn (h.len hle3 (by simp only [hpS, eq_self, implies_true, f2, f3])) _ ?_
       cases hi : (rgot l kIn s3).1 with
       | true =>
        simp only [rwayIn, hi, if_true] at hnext
        generalize (rgot l kIn s3).2 = s4 at hnext ⊢
        simp -dsimp only [go_sem, gS, f2, f3]
        refine newV_hp (fun b6 v6 f6 w6 => ?_)
        simp only [off_cons, off_nil] at f6
        simp -dsimp only [go_sem, gS, f2, f3, f6]
        refine hJ.acc.appTo (by simp only [hpS, eq_self, implies_true, f2, f3, f6]) (by simp only [hpS, eq_self, implies_true, f2]) (by simp only [List.length_map, List.length_cons, List.length_nil]; omega) (fun a' R' hacc' hn => ?_)
        have hone' := hacc'.one
        have f6' := hn b6 (by simp only [hpS, eq_self, implies_true, f2, f3, f6]) f6.2.2.2.2.2.2
        rw [show xs.map D.bool ++ [D.bool true] = (xs ++ [true]).map D.bool by simp] at hacc'
        simp -dsimp only [go_sem, gS, f2, f3, f6, hone']
        refine roundQ_next ⟨k - 1, xs ++ [true], s4, a', R'⟩ _ ⟨rfl, (hnext a' R' hacc').1⟩ (hnext a' R' hacc').2 (by simp -dsimp only [go_sem, gS]) (leH_hp (by simp only [hpS, eq_self, implies_true, f2, f3, f6, f6']) (by simp only [hpS, eq_self, implies_true, f2, f3, f6, f6']))
       | false =>
        simp only [rwayIn, hi, Bool.false_eq_true, if_false] at hnext
        rw [rgot_false hi]
        simp -dsimp only [go_sem, gS, f2, f3]
        refine need_ok _ r l s3 kOut (h.len hle3 (by simp only [hpS, eq_self, implies_true, f2, f3])) _ ?_
        generalize rneed l kOut s3 = s4 at hnext ⊢
        simp -dsimp only [go_sem, gS, f2, f3]
        refine newV_hp (fun b6 v6 f6 w6 => ?_)
        simp only [off_cons, off_nil] at f6
        simp -dsimp only [go_sem, gS, f2, f3, f6]
        refine hJ.acc.appTo (by simp only [hpS, eq_self, implies_true, f2, f3, f6]) (by simp only [hpS, eq_self, implies_true, f2]) (by simp only [List.length_map, List.length_cons, List.length_nil]; omega) (fun a' R' hacc' hn => ?_)
        have hone' := hacc'.one
        have f6' := hn b6 (by simp only [hpS, eq_self, implies_true, f2, f3, f6]) f6.2.2.2.2.2.2
        rw [show xs.map D.bool ++ [D.bool false] = (xs ++ [false]).map D.bool by simp] at hacc'
        simp -dsimp only [go_sem, gS, f2, f3, f6, hone']
        refine roundQ_next ⟨k - 1, xs ++ [false], s4, a', R'⟩ _ ⟨rfl, (hnext a' R' hacc').1⟩ (hnext a' R' hacc').2 (by simp -dsimp only [go_sem, gS]) (leH_hp (by simp only [hpS, eq_self, implies_true, f2, f3, f6, f6']) (by simp only [hpS, eq_self, implies_true, f2, f3, f6, f6']))
     ·have h2' : s2.err ≠ 0 := of_decide_eq_false h2
      simp -dsimp only [go_sem, gS, f2, f3, h2]
      exact key xs s2 a R hJ.acc (hJ.stop h2')
    case rest =>
     intro xs' s' a' R' hacc hfin
     have hall : ∀ d, It.d { (default : It) with kind := 3, name := w, ways := xs', det := d } = .agg [.int .i64 3, .str w, .slice [], .slice [], .slice [], .slice (xs'.map D.bool), .int .i64 d, .slice [], .int .i64 0, .int .i64 0, .str ⟨#[]⟩, .int .i64 0, .slice [], .int .i64 0, .str ⟨#[]⟩, .int .i64 0, .slice [], .str ⟨#[]⟩, .slice [], .slice []] := fun d => by
      simp [It.d, It.cs, Gl.cs, Tm.none, Tm.cs, Tm.ds, Gl.ds, default, instInhabitedIt]
     rw [hfin] at hK
     have hle6 : s'.pos ≤ l.length := by have := (rargs_steps (rwayIn_steps l) 10 []).le _ hle5; rw [hfin] at this; exact this
     have hle7 := rneed_le (t := kIs) hle6
     have hone := hacc.one
     simp only [hall, rdet] at hK
     try simp -dsimp only [go_sem, gS, f2, f3]
     refine need_ok _ r l s' kIs (h.len hle6 (by simp only [hpS, eq_self, implies_true, f2, f3])) _ ?_
     generalize rneed l kIs s' = s6 at hK hle7 ⊢
     simp -dsimp only [go_sem, gS, f2, f3]
     refine got_ok _ r l s6 kDet (h.len hle7 (by simp only [hpS, eq_self, implies_true, f2, f3])) _ ?_
     cases g1 : (rgot l kDet s6).1 with
     | true =>
      simp only [g1, if_true] at hK
      try simp -dsimp only [go_sem, gS, f2, f3, hacc.allD, hacc.one]
      refine retW_deep ?_
      simp -dsimp only [go_sem, gS, f2, f3]
      refine hacc.deep (by simp only [hpS, eq_self, implies_true, f2, f3]) (fun R'' hle'' hn => ?_)
      simp -dsimp only [go_sem, gS, f2, f3]
      exact retW_drop (G := rset H r l (rgot l kDet s6).2) (leH_hp2 (l1 := [(r, .var (rdA l (rgot l kDet s6).2))]) hle'' (by simp only [hpS, eq_self, implies_true, f2, f3]) (by simp only [hpS, eq_self, implies_true, f2, f3])) (retW_is hK)
     | false =>
      simp only [g1, Bool.false_eq_true, if_false] at hK
      rw [rgot_false g1]
      simp -dsimp only [go_sem, gS, f2, f3]
      refine got_ok _ r l s6 kSemi2 (h.len hle7 (by simp only [hpS, eq_self, implies_true, f2, f3])) _ ?_
      cases g2 : (rgot l kSemi2 s6).1 with
      | true =>
       simp only [g2, if_true] at hK
       try simp -dsimp only [go_sem, gS, f2, f3, hacc.allD, hacc.one]
       refine retW_deep ?_
       simp -dsimp only [go_sem, gS, f2, f3]
       refine hacc.deep (by simp only [hpS, eq_self, implies_true, f2, f3]) (fun R'' hle'' hn => ?_)
       simp -dsimp only [go_sem, gS, f2, f3]
       exact retW_drop (G := rset H r l (rgot l kSemi2 s6).2) (leH_hp2 (l1 := [(r, .var (rdA l (rgot l kSemi2 s6).2))]) hle'' (by simp only [hpS, eq_self, implies_true, f2, f3]) (by simp only [hpS, eq_self, implies_true, f2, f3])) (retW_is hK)
      | false =>
       simp only [g2, Bool.false_eq_true, if_false] at hK
       rw [rgot_false g2]
       simp -dsimp only [go_sem, gS, f2, f3]
       refine got_ok _ r l s6 kMulti (h.len hle7 (by simp only [hpS, eq_self, implies_true, f2, f3])) _ ?_
       cases g3 : (rgot l kMulti s6).1 with
       | true =>
        simp only [g3, if_true] at hK
        try simp -dsimp only [go_sem, gS, f2, f3, hacc.allD, hacc.one]
        refine retW_deep ?_
        simp -dsimp only [go_sem, gS, f2, f3]
        refine hacc.deep (by simp only [hpS, eq_self, implies_true, f2, f3]) (fun R'' hle'' hn => ?_)
        simp -dsimp only [go_sem, gS, f2, f3]
        exact retW_drop (G := rset H r l (rgot l kMulti s6).2) (leH_hp2 (l1 := [(r, .var (rdA l (rgot l kMulti s6).2))]) hle'' (by simp only [hpS, eq_self, implies_true, f2, f3]) (by simp only [hpS, eq_self, implies_true, f2, f3])) (retW_is hK)
       | false =>
        simp only [g3, Bool.false_eq_true, if_false] at hK
        rw [rgot_false g3]
        simp -dsimp only [go_sem, gS, f2, f3]
        refine got_ok _ r l s6 kNon (h.len hle7 (by simp only [hpS, eq_self, implies_true, f2, f3])) _ ?_
        cases g4 : (rgot l kNon s6).1 with
        | true =>
         simp only [g4, if_true] at hK
         try simp -dsimp only [go_sem, gS, f2, f3, hacc.allD, hacc.one]
         refine retW_deep ?_
         simp -dsimp only [go_sem, gS, f2, f3]
         refine hacc.deep (by simp only [hpS, eq_self, implies_true, f2, f3]) (fun R'' hle'' hn => ?_)
         simp -dsimp only [go_sem, gS, f2, f3]
         exact retW_drop (G := rset H r l (rgot l kNon s6).2) (leH_hp2 (l1 := [(r, .var (rdA l (rgot l kNon s6).2))]) hle'' (by simp only [hpS, eq_self, implies_true, f2, f3]) (by simp only [hpS, eq_self, implies_true, f2, f3])) (retW_is hK)
        | false =>
         simp only [g4, Bool.false_eq_true, if_false] at hK
         rw [rgot_false g4]
         simp -dsimp only [go_sem, gS, f2, f3]
         refine fail_ok _ r l s6 2 (h.len hle7 (by simp only [hpS, eq_self, implies_true, f2, f3])) _ ?_
         try simp -dsimp only [go_sem, gS, f2, f3, hacc.allD, hacc.one]
         refine retW_deep ?_
         simp -dsimp only [go_sem, gS, f2, f3]
         refine hacc.deep (by simp only [hpS, eq_self, implies_true, f2, f3]) (fun R'' hle'' hn => ?_)
         simp -dsimp only [go_sem, gS, f2, f3]
         exact retW_drop (G := rset H r l (rfail 2 s6)) (leH_hp2 (l1 := [(r, .var (rdA l (rfail 2 s6)))]) hle'' (by simp only [hpS, eq_self, implies_true, f2, f3]) (by simp only [hpS, eq_self, implies_true, f2, f3])) (retW_is hK)
   | false =>
    rw [rgot_false hg3]
    simp only [ritem, hg1, hg2, hg3, Bool.false_eq_true, if_false, if_true, ritClause] at hK
    simp -dsimp only [go_sem, gS, f2, f3]
    refine word_ok _ r l _ 1 (h.len h.le (by simp only [hpS, eq_self, implies_true, f2, f3])) _ ?_
    have hle5 := rword_le (kind := 1) h.le
    generalize (rword l 1 s).1 = w at hK ⊢
    generalize (rword l 1 s).2 = s5 at hK hle5 ⊢
    simp -dsimp only [go_sem, gS, f2, f3]

    refine (fun (key : ∀ (xs' : List Tm) (s' : RdS) (a' : A) (R' : Heap), Acc H [r, b2, b3] 39 4 (xs'.map Tm.d) a' R' → rargs (rterm 66 l 1) l 10 [] s5 = (xs', s') → (?T4 : List Tm → RdS → A → Heap → Prop) xs' s' a' R') => ?main) ?rest
    case main =>
     refine svc_loop (X := RowX Tm) (fun x => [(0, .ref r 0), (2, .ref b2 0), (3, .ref b3 0)])
      (fun x G => G = hp x.R [(r, .var (rdA l x.s)), (b2, .var [.d (.int .i64 0), .d (.str ⟨#[]⟩), .nils, .nils, .nils, .nils, .d (.int .i64 0), .nils, .d (.int .i64 0), .d (.int .i64 0), .d (.str ⟨#[]⟩), .d (.int .i64 0), .nils, .d (.int .i64 0), .d (.str ⟨#[]⟩), .d (.int .i64 0), .nils, .d (.str ⟨#[]⟩), .nils, .nils]), (b3, .var [.d (.int .i64 4), .d (.str w), .nils, .nils, .nils, .nils, .d (.int .i64 0), x.a, .d (.int .i64 0), .d (.int .i64 0), .d (.str ⟨#[]⟩), .d (.int .i64 0), .nils, .d (.int .i64 0), .d (.str ⟨#[]⟩), .d (.int .i64 0), .nils, .d (.str ⟨#[]⟩), .nils, .nils])] ∧ RowJ H [r, b2, b3] 39 4 Tm.d (rterm 66 l 1) l s5 x)
      (fun x => x.k) ⟨10, [], s5, .nils, H⟩ _ ⟨rfl, RowJ.first hle5⟩ (by simp -dsimp only [go_sem, gS]) (leH_hp (by simp only [hpS, eq_self, implies_true, f2, f3]) (by simp only [hpS, eq_self, implies_true, f2, f3])) ?_
     rintro ⟨k, xs, s2, a, R⟩ G ⟨rfl, hJ⟩
     have hle2 := hJ.le
     have hone := hJ.acc.one
     have hok : okK [r, b2, b3] R [(r, .var (rdA l s2)), (b2, .var [.d (.int .i64 0), .d (.str ⟨#[]⟩), .nils, .nils, .nils, .nils, .d (.int .i64 0), .nils, .d (.int .i64 0), .d (.int .i64 0), .d (.str ⟨#[]⟩), .d (.int .i64 0), .nils, .d (.int .i64 0), .d (.str ⟨#[]⟩), .d (.int .i64 0), .nils, .d (.str ⟨#[]⟩), .nils, .nils]), (b3, .var [.d (.int .i64 4), .d (.str w), .nils, .nils, .nils, .nils, .d (.int .i64 0), a, .d (.int .i64 0), .d (.int .i64 0), .d (.str ⟨#[]⟩), .d (.int .i64 0), .nils, .d (.int .i64 0), .d (.str ⟨#[]⟩), .d (.int .i64 0), .nils, .d (.str ⟨#[]⟩), .nils, .nils])] := by simp only [hpS, eq_self, implies_true, f2, f3]
     simp only at hle2 hone
     simp -dsimp only [go_sem, gS, rdA, f2, f3]
     refine gif_split (fun h2 => ?_) (fun h2 => ?_)
     ·have h2' : s2.err = 0 := of_decide_eq_true h2
      simp -dsimp only [go_sem, gS, f2, f3, h2]
      refine andK_split (hJ.acc.lenable (by simp -dsimp only [go_sem, gS])) ?_
      rw [hJ.acc.len hok]
      simp -dsimp only [go_sem, gS, f2, f3]
      refine more_ok _ r l s2 xs.length (h.len hle2 (by simp only [hpS, eq_self, implies_true, f2, f3])) _ ?_
      cases hm : (rmore l xs.length s2).1 with
      | false =>
       have hfin := hJ.done h2' hm
       generalize (rmore l xs.length s2).2 = s3 at hfin ⊢
       simp -dsimp only [go_sem, gS, f2, f3]
       exact key xs s3 a R hJ.acc hfin
      | true =>
       simp -dsimp only [go_sem, gS, f2, f3]
       have hle3 := rmore_le (n := xs.length) hle2
       have hsz := hJ.nine
       simp only at hsz
       have hnext := fun a' R' hacc => hJ.next (rterm_steps l 66 1) (fun s hs => rterm_end (by omega) hs) h2' hm (a' := a') (R' := R') hacc
       simp only at hnext
       generalize (rmore l xs.length s2).2 = s3 at hnext hle3 ⊢
       refine term_ok 66 _ r l _ 1 (by omega) (by omega) (h.len hle3 (by simp only [hpS, eq_self, implies_true, f2, f3])) _ ?_
       generalize (rterm 66 l 1 s3).1 = t at hnext ⊢
       generalize (rterm 66 l 1 s3).2 = s4 at hnext ⊢
       obtain ⟨tk, tn, ti, ta⟩ := t
       simp -dsimp only [go_sem, gS, f2, f3, Tm.d, Tm.cs]

       refine newV_hp (fun b6 v6 f6 w6 => ?_)
       simp only [off_cons, off_nil] at f6
       simp -dsimp only [go_sem, gS, f2, f3, f6]
       refine hJ.acc.appTo (by simp only [hpS, eq_self, implies_true, f2, f3, f6]) (by simp only [hpS, eq_self, implies_true, f2]) (by simp only [List.length_map, List.length_cons, List.length_nil]; omega) (fun a' R' hacc' hn => ?_)
       have hone' := hacc'.one
       have f6' := hn b6 (by simp only [hpS, eq_self, implies_true, f2, f3, f6]) f6.2.2.2.2.2.2
       rw [show xs.map Tm.d ++ [D.agg [D.int .i64 tk, D.str tn, D.int .i64 ti, D.slice (Tm.ds ta)]] = (xs ++ [Tm.mk tk tn ti ta]).map Tm.d by simp [Tm.d, Tm.cs]] at hacc'
       simp -dsimp only [go_sem, gS, f2, f3, f6, hone']
       refine roundQ_next ⟨k - 1, xs ++ [Tm.mk tk tn ti ta], s4, a', R'⟩ _ ⟨rfl, (hnext a' R' hacc').1⟩ (hnext a' R' hacc').2 (by simp -dsimp only [go_sem, gS]) (leH_hp (by simp only [hpS, eq_self, implies_true, f2, f3, f6, f6']) (by simp only [hpS, eq_self, implies_true, f2, f3, f6, f6']))
     ·have h2' : s2.err ≠ 0 := of_decide_eq_false h2
      simp -dsimp only [go_sem, gS, f2, f3, h2]
      exact key xs s2 a R hJ.acc (hJ.stop h2')
    case rest =>
     intro xs' s' a' R' hacc hfin
     have hall : ∀ g, It.d { (default : It) with kind := 4, name := w, args := xs', body := g } = .agg ([.int .i64 4, .str w, .slice [], .slice [], .slice [], .slice [], .int .i64 0, .slice (xs'.map Tm.d)] ++ g.cs) := fun g => by
      simp [It.d, It.cs, default, instInhabitedIt]
     have hle6 : s'.pos ≤ l.length := by have := (rargs_steps (rterm_steps l 66 1) 10 []).le _ hle5; rw [hfin] at this; exact this
     have hone := hacc.one
     rw [hfin] at hK
     try simp -dsimp only [go_sem, gS, f2, f3]
     refine got_ok _ r l s' kIf (h.len hle6 (by simp only [hpS, eq_self, implies_true, f2, f3])) _ ?_
     cases g1 : (rgot l kIf s').1 with
     | false =>
      simp only [g1, Bool.false_eq_true, if_false, hall] at hK
      rw [rgot_false g1]
      have hn1 : Gl.cs (.mk 1 .none .none ⟨#[]⟩ [] []) = [.int .i64 1, .int .i64 0, .str ⟨#[]⟩, .int .i64 0, .slice [], .int .i64 0, .str ⟨#[]⟩, .int .i64 0, .slice [], .str ⟨#[]⟩, .slice [], .slice []] := by
       simp [Gl.cs, Tm.none, Tm.cs, Tm.ds, Gl.ds]
      rw [hn1] at hK
      simp -dsimp only [go_sem, gS, f2, f3]
      try simp -dsimp only [go_sem, gS, f2, f3, hacc.allD, hacc.one]
      refine retW_deep ?_
      simp -dsimp only [go_sem, gS, f2, f3]
      refine hacc.deep (by simp only [hpS, eq_self, implies_true, f2, f3]) (fun R'' hle'' hn => ?_)
      simp -dsimp only [go_sem, gS, f2, f3]
      exact retW_drop (G := rset H r l s') (leH_hp2 (l1 := [(r, .var (rdA l s'))]) hle'' (by simp only [hpS, eq_self, implies_true, f2, f3]) (by simp only [hpS, eq_self, implies_true, f2, f3])) (retW_is hK)
     | true =>
      simp only [g1, if_true, rgoal, hall] at hK
      have hle7 := rgot_le (t := kIf) hle6
      simp -dsimp only [go_sem, gS, f2, f3]
      refine goal_ok l 1 (rprim 66 l 1) (rprim_steps l 66 1) (fun H r s h K hK => prim_ok l 66 1 (by omega) (by omega) H r s h K hK) _ r _ (h.len hle7 (by simp only [hpS, eq_self, implies_true, f2, f3])) _ ?_
      generalize (rgoalW (rprim 66 l 1) l (rgot l kIf s').2).1 = g at hK ⊢
      generalize (rgoalW (rprim 66 l 1) l (rgot l kIf s').2).2 = s6 at hK ⊢
      obtain ⟨x1, x2, x3, x4, x5, x6, x7, x8, x9, x10, x11, x12, hca⟩ := g.opn
      rw [hca] at hK
      simp -dsimp only [go_sem, gS, f2, f3, Gl.d, hca]
      try simp -dsimp only [go_sem, gS, f2, f3, hacc.allD, hacc.one]
      refine retW_deep ?_
      simp -dsimp only [go_sem, gS, f2, f3]
      refine hacc.deep (by simp only [hpS, eq_self, implies_true, f2, f3]) (fun R'' hle'' hn => ?_)
      simp -dsimp only [go_sem, gS, f2, f3]
      exact retW_drop (G := rset H r l s6) (leH_hp2 (l1 := [(r, .var (rdA l s6))]) hle'' (by simp only [hpS, eq_self, implies_true, f2, f3]) (by simp only [hpS, eq_self, implies_true, f2, f3])) (retW_is hK)
end Go.Aug

/- Walks of ParL. -/
namespace Go.Aug
open Go.Proofs
set_option maxRecDepth 100000
set_option linter.unusedSimpArgs false
attribute [local irreducible] hid andK letA onSome onVar onArr arrOnly onInt onBool onTup idxA ldV ldD addO ofPart appTo fillL slA srcK nilQ retW gif sgd sguard svc sops sdops sagain aopO aLoad aStore aBin aUn aConv aLen aIndexAddr aIndex aIndexAddrS aIndexS aSlice aAppend aBuild aBuildSlice aMakeSlice aField aFieldOf aCallOp deepK deepL frzM putE newK newV growV ACall roundQ thenQ inBlockQ sret cnd szs nilC onRow aLookup aMapUpdate aMakeMap
attribute [local go_sem] Int.natCast_zero
theorem digit_ok {eb : EbG} (H : Heap) (c : UInt8) (K : A → Heap → Prop) (hK : K (.d (.bool (isDig c))) H) : ACall Tryz.prog (seatV eb) 122 [.d (.int .u8 c.toNat)] H K := by
 refine ACall.by mixed fn122 (by simp) ?_
 conv in s122 => cbv
 refine svc_start ?_
 simp -dsimp only [go_sem, gS]
 repeat' (first | (refine gif_split (fun h => ?_) (fun h => ?_) <;> (try simp -dsimp only [go_sem, gS, *])) | (refine newV_intro (fun b v hb hn hm hv => ?_); (try simp -dsimp only [go_sem, gS, *])) | (refine newK_intro (fun b hb hn hm => ?_); (try simp -dsimp only [go_sem, gS, *])) | (refine growV_intro (fun b v hb hn hm hv => ?_); (try simp -dsimp only [go_sem, gS, *])) | (refine andK_split (by omega) ?_; (try simp -dsimp only [go_sem, gS, *])) | (refine nilQ_intro ?_ (fun h => ?_) <;> (try simp -dsimp only [go_sem, gS, *])) | (refine And.intro ?_ ?_ <;> (try simp -dsimp only [go_sem, gS, *])) | (refine (fun (v : Value) (hv : v.ownBlock = some _) => ?_); (try simp -dsimp only [go_sem, gS, *])))
 all_goals refine retW_is ?_
 all_goals simp_all [isDig]
theorem letter_ok {eb : EbG} (H : Heap) (c : UInt8) (K : A → Heap → Prop) (hK : K (.d (.bool (isLet c))) H) : ACall Tryz.prog (seatV eb) 121 [.d (.int .u8 c.toNat)] H K := by
 refine ACall.by mixed fn121 (by simp) ?_
 conv in s121 => cbv
 refine svc_start ?_
 simp -dsimp only [go_sem, gS]
 repeat' (first | (refine gif_split (fun h => ?_) (fun h => ?_) <;> (try simp -dsimp only [go_sem, gS, *])) | (refine newV_intro (fun b v hb hn hm hv => ?_); (try simp -dsimp only [go_sem, gS, *])) | (refine newK_intro (fun b hb hn hm => ?_); (try simp -dsimp only [go_sem, gS, *])) | (refine growV_intro (fun b v hb hn hm hv => ?_); (try simp -dsimp only [go_sem, gS, *])) | (refine andK_split (by omega) ?_; (try simp -dsimp only [go_sem, gS, *])) | (refine nilQ_intro ?_ (fun h => ?_) <;> (try simp -dsimp only [go_sem, gS, *])) | (refine And.intro ?_ ?_ <;> (try simp -dsimp only [go_sem, gS, *])) | (refine (fun (v : Value) (hv : v.ownBlock = some _) => ?_); (try simp -dsimp only [go_sem, gS, *])))
 all_goals refine retW_is ?_
 all_goals simp_all [isLet, isSmall]
set_option maxHeartbeats 2000000 in
theorem int_ok {eb : EbG} (H : Heap) (s : ByteArray) (hs : s.size ≤ 16384) (K : A → Heap → Prop) (hK : K (.tup [.d (.int .i64 (rInt s).1), .d (.bool (rInt s).2)]) H) : ACall Tryz.prog (seatV eb) 123 [.d (.str s)] H K := by
 have t0 : Int.toNat 0 = 0 := rfl
 have t1 : Int.toNat 1 = 1 := rfl
 refine ACall.by mixed fn123 (by simp) ?_
 conv in s123 => cbv
 refine svc_start ?_
 simp -dsimp only [go_sem, gS]
 refine (fun (key : ∀ (d : ByteArray), rIntCut s = d → d.size ≤ 16384 → (0 < d.size → 0 < s.size) → (?T : ByteArray → Prop) d) => ?main) ?rest
 case main =>
  refine gif_split (fun h1 => ?_) (fun h1 => ?_)
  ·have h1' : 0 < s.size := by have := of_decide_eq_true h1; clear key; omega
   obtain ⟨c, hc⟩ := at_lt h1'
   simp -dsimp only [go_sem, gS, h1, t0, hc]
   refine gif_split (fun h2 => ?_) (fun h2 => ?_)
   ·simp -dsimp only [go_sem, gS, h2, t1]
    refine andK_split h1' ?_
    simp -dsimp only [go_sem, gS, h2, t1]
    have e : rIntCut s = s.extract 1 s.size := by simp [rIntCut, byteIs, hc, of_decide_eq_true h2]
    have hl : (s.extract 1 s.size).size ≤ 16384 := by rw [ByteArray.size_extract]; clear key; omega
    generalize s.extract 1 s.size = d at e hl ⊢
    exact key d e hl (fun _ => h1')
   ·simp -dsimp only [go_sem, gS, h2]
    exact key s (by simp [rIntCut, byteIs, hc, of_decide_eq_false h2]) hs (fun h => h)
  ·have h1' : s.size = 0 := by have := of_decide_eq_false h1; clear key; omega
   simp -dsimp only [go_sem, gS, h1]
   exact key s (by simp [rIntCut, byteIs, h1']) hs (fun h => h)
 case rest =>
  intro d hd hdl hds
  have hbad : (d.size = 0 ∨ 19 < d.size ∨ (byteIs d 0 48 = true ∧ 1 < s.size)) → K (.tup [.d (.int .i64 0), .d (.bool false)]) H := by
   intro h; simpa only [rInt, hd, if_pos h] using hK
  have hone : byteIs d 0 48 = true → 1 < s.size → K (.tup [.d (.int .i64 0), .d (.bool false)]) H := fun a b => hbad (.inr (.inr ⟨a, b⟩))
  refine (fun (key2 : (¬ (d.size = 0 ∨ 19 < d.size ∨ (byteIs d 0 48 = true ∧ 1 < s.size))) → ?T2) => ?main2) ?rest2
  case main2 =>
   refine gif_split (fun h1 => ?_) (fun h1 => ?_)
   ·simp -dsimp only [go_sem, gS, h1]
    exact retW_is (hbad (.inl (by have := of_decide_eq_true h1; clear key2; omega)))
   ·have h1' : 0 < d.size := by have := of_decide_eq_false h1; clear key2; omega
    obtain ⟨c, hc⟩ := at_lt h1'
    simp -dsimp only [go_sem, gS, h1]
    refine gif_split (fun h2 => ?_) (fun h2 => ?_)
    ·simp -dsimp only [go_sem, gS, h2]
     exact retW_is (hbad (.inr (.inl (by have := of_decide_eq_true h2; clear key2; omega))))
    ·have h2' : ¬ 19 < d.size := by have := of_decide_eq_false h2; clear key2; omega
     simp -dsimp only [go_sem, gS, h2, t0, hc]
     refine gif_split (fun h3 => ?_) (fun h3 => ?_)
     ·have hb : byteIs d 0 48 = true := by simpa [byteIs, hc] using h3
      simp -dsimp only [go_sem, gS, h3]
      refine gif_split (fun h4 => ?_) (fun h4 => ?_)
      ·simp -dsimp only [go_sem, gS, h4]
       exact retW_is (hone hb (by have := of_decide_eq_true h4; clear key2; omega))
      ·have h4' : ¬ 1 < s.size := by have := of_decide_eq_false h4; clear key2; omega
       simp -dsimp only [go_sem, gS, h4]
       exact key2 (fun h => by rcases h with h | h | h; exact absurd h1' (by rw [h]; decide); exact h2' h; exact h4' h.2)
     ·have hb : byteIs d 0 48 = false := by simpa [byteIs, hc] using h3
      simp -dsimp only [go_sem, gS, h3]
      exact key2 (fun h => by rcases h with h | h | h; exact absurd h1' (by rw [h]; decide); exact h2' h; rw [hb] at h; cases h.1)
  case rest2 =>
   intro hgood
   simp only [rInt, hd, if_neg hgood] at hK
   have hpos : 0 < s.size := hds (by apply Classical.byContradiction; intro h; exact hgood (.inl (by omega)))
   obtain ⟨c0, hc0⟩ := at_lt hpos
   refine svc_loop (X := Nat × Int × Nat) (fun x => [(0, .d (.str s)), (4, .d (.str d)), (5, .d (.int .i64 x.2.1)), (6, .d (.int .i64 x.2.2))])
    (fun x G => G = H ∧ x.2.2 ≤ d.size ∧ d.size ≤ x.1 + x.2.2 ∧ rIntLoop d x.1 x.2.1 x.2.2 = rIntLoop d d.size 0 0) (fun x => x.1) (d.size, 0, 0) _ ⟨rfl, by simp, by simp, rfl⟩ (by simp -dsimp only [go_sem, gS]) (.refl _) ?_
   rintro ⟨k, n, i⟩ G ⟨rfl, hi, hk, hrun⟩
   simp only at hi hk hrun
   simp -dsimp only [go_sem, gS]
   refine gif_split (fun h1 => ?_) (fun h1 => ?_)
   ·have h1' : i < d.size := by have := of_decide_eq_true h1; omega
    obtain ⟨k, rfl⟩ : ∃ k', k = k' + 1 := ⟨k - 1, by omega⟩
    obtain ⟨c, hc⟩ := at_lt h1'
    have hw := wrapN (k := i) (by omega)
    have hx : IntKind.i64.wrap (IntKind.u8.wrap ((c.toNat : Int) - 48)) = xOf c := rfl
    simp only [rIntLoop, hc] at hrun
    have hstop : intStop n c = true → K (.tup [.d (.int .i64 0), .d (.bool false)]) G := fun h => by
     rw [if_pos h] at hrun; rw [← hrun] at hK; exact hK
    have hgo : intStop n c = false → rIntLoop d k (IntKind.i64.wrap (IntKind.i64.wrap (10 * n) - xOf c)) (i + 1) = rIntLoop d d.size 0 0 := fun h => by
     rw [if_neg (by simp [h])] at hrun; exact hrun
    simp -dsimp only [go_sem, gS, h1, hc, hx]
    refine gif_split (fun h2 => ?_) (fun h2 => ?_)
    ·simp -dsimp only [go_sem, gS, h2]
     exact retW_is (hstop (by simp [intStop, of_decide_eq_true h2]))
    ·simp -dsimp only [go_sem, gS, h2, hc]
     refine gif_split (fun h3 => ?_) (fun h3 => ?_)
     ·simp -dsimp only [go_sem, gS, h3]
      exact retW_is (hstop (by simp [intStop, of_decide_eq_true h3]))
     ·simp -dsimp only [go_sem, gS, h3]
      refine andK_split (by decide) ?_
      simp -dsimp only [go_sem, gS]
      refine gif_split (fun h4 => ?_) (fun h4 => ?_)
      ·simp -dsimp only [go_sem, gS, h4]
       exact retW_is (hstop (by simp [intStop, of_decide_eq_true h4]))
      ·simp -dsimp only [go_sem, gS, h4, hw]
       refine roundQ_next (k, IntKind.i64.wrap (IntKind.i64.wrap (10 * n) - xOf c), i + 1) G ⟨rfl, h1', by simp only; omega, hgo (by simp only [intStop, h2, h3, h4, Bool.or_false])⟩ (Nat.lt_succ_self k) (by simp -dsimp only [go_sem, gS]) (.refl _)
   ·have hfin : rIntLoop d d.size 0 0 = some n := by
     have h1' : d.size ≤ i := by have := of_decide_eq_false h1; omega
     rw [← hrun]
     cases k with
     | zero => rfl
     | succ k => simp [rIntLoop, Nat.not_lt.2 h1']
    rw [hfin] at hK
    simp only [byteIs, hc0] at hK
    simp -dsimp only [go_sem, gS, h1, t0, hc0]
    refine gif_split (fun h2 => ?_) (fun h2 => ?_)
    ·simp -dsimp only [go_sem, gS, h2]
     refine retW_is ?_
     rw [if_pos h2] at hK; exact hK
    ·rw [if_neg (by simp [h2])] at hK
     simp -dsimp only [go_sem, gS, h2]
     refine gif_split (fun h3 => ?_) (fun h3 => ?_)
     ·simp -dsimp only [go_sem, gS, h3]
      refine retW_is ?_
      rw [if_pos (of_decide_eq_true h3)] at hK; exact hK
     ·simp -dsimp only [go_sem, gS, h3]
      refine retW_is ?_
      rw [if_neg (of_decide_eq_false h3)] at hK; exact hK
end Go.Aug

/- Walks of ParM. -/
namespace Go.Aug
open Go.Proofs
set_option maxRecDepth 100000
set_option linter.unusedSimpArgs false
attribute [local irreducible] hid andK letA onSome onVar onArr arrOnly onInt onBool onTup idxA ldV ldD addO ofPart appTo fillL slA srcK nilQ retW gif sgd sguard svc sops sdops sagain aopO aLoad aStore aBin aUn aConv aLen aIndexAddr aIndex aIndexAddrS aIndexS aSlice aAppend aBuild aBuildSlice aMakeSlice aField aFieldOf aCallOp deepK deepL frzM putE newK newV growV ACall roundQ thenQ inBlockQ sret cnd szs nilC onRow aLookup aMapUpdate aMakeMap
attribute [local go_sem] Int.natCast_zero
set_option maxHeartbeats 4000000 in
theorem word1_ok {eb : EbG} (H : Heap) (s : ByteArray) (p : Nat) (c : UInt8) (hs : s.size ≤ 16384) (hc : s[p]? = some c) (K : A → Heap → Prop) (hK : K (.tup [.d (rWord s p c).1.d, .d (.bool (rWord s p c).2)]) H) :
  ACall Tryz.prog (seatV eb) 93 [.d (.str s), .d (.int .i64 p)] H K := by
 have hpl : p < s.size := by
  apply Classical.byContradiction; intro hn
  simp [hn] at hc
 refine ACall.hp_start ?_
 refine ACall.by mixed fn93 (by simp) ?_
 conv in s93 => cbv
 refine svc_start ?_
 simp -dsimp only [go_sem, gS]
 refine newK_hp (fun b4 f4 => ?_)
 simp only [off_cons, off_nil] at f4
 simp -dsimp only [go_sem, gS, f4, hc]
 refine letter_ok _ c _ ?_
 cases hl : isLet c with
 | true =>
  simp only [rWord, hl, if_true, wordAl] at hK
  simp -dsimp only [go_sem, gS, f4]
  refine (fun (key : ∀ n, runTo (fun c => isLet c || isDig c) s s.size p = n → p ≤ n → n ≤ s.size → (?T1 : Nat → Prop) n) => ?main) ?rest
  case main =>
   refine svc_loop (X := Nat × Nat) (fun x => [(0, .d (.str s)), (1, .d (.int .i64 p)), (4, .ref b4 0), (6, .d (.int .u8 c.toNat)), (7, .d (.int .i64 x.2))])
    (fun x G => G = hp H [(b4, .var [.d (.int .i64 0), .d (.str ⟨#[]⟩), .d (.int .i64 0)])] ∧ p ≤ x.2 ∧ x.2 ≤ s.size ∧ s.size ≤ x.1 + x.2 ∧ runTo (fun c => isLet c || isDig c) s x.1 x.2 = runTo (fun c => isLet c || isDig c) s s.size p)
    (fun x => x.1) (s.size, p) _ ⟨rfl, Nat.le_refl _, Nat.le_of_lt hpl, by simp, rfl⟩ (by simp -dsimp only [go_sem, gS]) (.refl _) ?_
   rintro ⟨k, n⟩ G ⟨rfl, h1, h2, h3, hrun⟩
   simp only at h1 h2 h3 hrun
   simp -dsimp only [go_sem, gS]
   refine gif_split (fun g1 => ?_) (fun g1 => ?_)
   ·have g1' : n < s.size := by have := of_decide_eq_true g1; clear key; omega
    obtain ⟨d, hd⟩ := at_lt g1'
    obtain ⟨k, rfl⟩ : ∃ k', k = k' + 1 := ⟨k - 1, by clear key; omega⟩
    have hw := wrapN (k := n) (by clear key; omega)
    simp -dsimp only [go_sem, gS, g1, hd]
    refine letter_ok _ d _ ?_
    cases g2 : isLet d with
    | true =>
     simp -dsimp only [go_sem, gS, f4, hw]
     exact roundQ_next (k, n + 1) _ ⟨rfl, by clear key; simp only; omega, g1', by clear key; simp only; omega, by rw [← hrun]; simp [runTo, hd, g2]⟩ (Nat.lt_succ_self k) (by simp -dsimp only [go_sem, gS]) (.refl _)
    | false =>
     simp -dsimp only [go_sem, gS, f4, hd]
     refine digit_ok _ d _ ?_
     cases g3 : isDig d with
     | true =>
      simp -dsimp only [go_sem, gS, f4, hw]
      exact roundQ_next (k, n + 1) _ ⟨rfl, by clear key; simp only; omega, g1', by clear key; simp only; omega, by rw [← hrun]; simp [runTo, hd, g3]⟩ (Nat.lt_succ_self k) (by simp -dsimp only [go_sem, gS]) (.refl _)
     | false =>
      simp -dsimp only [go_sem, gS, f4]
      exact key n (by rw [← hrun]; exact runTo_no hd (by simp [g2, g3])) h1 h2
   ·have g1' : s.size ≤ n := by have := of_decide_eq_false g1; clear key; omega
    simp -dsimp only [go_sem, gS, g1]
    exact key n (by rw [← hrun]; exact runTo_end g1') h1 h2
  case rest =>
   intro n hn h1 h2
   rw [hn] at hK
   have hw : IntKind.i64.wrap ((n : Int) - (p : Int)) = ((n - p : Nat) : Int) := by rw [wrap64 (by omega) (by omega)]; omega
   have hcast : decide (((n - p : Nat) : Int) ≤ 32) = decide (n - p ≤ 32) := by simp only [decide_eq_decide]; omega
   have h2' : (n : Int).toNat ≤ s.size := by omega
   have h1' : (p : Int).toNat ≤ (n : Int).toNat := by omega
   have hkk : (isSmall c = true → K (.tup [.d (Tok.d ⟨1, s.extract p n, 0⟩), .d (.bool (decide (n - p ≤ 32)))]) H) ∧ (isSmall c = false → K (.tup [.d (Tok.d ⟨2, s.extract p n, 0⟩), .d (.bool (decide (n - p ≤ 32)))]) H) :=
    ⟨fun e => by rw [if_pos e] at hK; exact hK, fun e => by rw [if_neg (by simp [e])] at hK; exact hK⟩
   simp only [Tok.d, Tok.cs] at hkk
   try simp -dsimp only [go_sem, gS, f4]
   refine gif_split (fun g1 => ?_) (fun g1 => ?_)
   ·simp -dsimp only [go_sem, gS, g1]
    refine gif_split (fun g2 => ?_) (fun g2 => ?_)
    ·have hk := hkk.1 (by simp [isSmall, g1, g2])
     simp -dsimp only [go_sem, gS, g2]
     refine andK_split h2 ?_
     simp -dsimp only [go_sem, gS]
     refine andK_split h1 ?_
     simp -dsimp only [go_sem, gS, f4, hw]
     refine retW_drop (G := H) (leH_hp0 (by simp only [hpS, eq_self, implies_true, f4])) (retW_is ?_)
     rw [hcast]; exact hk
    ·have hk := hkk.2 (by simp [isSmall, g2])
     simp -dsimp only [go_sem, gS, g2]
     refine andK_split h2 ?_
     simp -dsimp only [go_sem, gS]
     refine andK_split h1 ?_
     simp -dsimp only [go_sem, gS, f4, hw]
     refine retW_drop (G := H) (leH_hp0 (by simp only [hpS, eq_self, implies_true, f4])) (retW_is ?_)
     rw [hcast]; exact hk
   ·have hk := hkk.2 (by simp [isSmall, g1])
    simp -dsimp only [go_sem, gS, g1]
    refine andK_split h2 ?_
    simp -dsimp only [go_sem, gS]
    refine andK_split h1 ?_
    simp -dsimp only [go_sem, gS, f4, hw]
    refine retW_drop (G := H) (leH_hp0 (by simp only [hpS, eq_self, implies_true, f4])) (retW_is ?_)
    rw [hcast]; exact hk
 | false =>
  simp -dsimp only [go_sem, gS, f4]
  refine digit_ok _ c _ ?_
  have hpp := wrapN (k := p) (by omega)
  refine (fun (key : (isDig c = true ∨ (c.toNat : Int) = 45) → (?T3 : Prop)) => ?main) ?rest
  case main =>
   cases hd : isDig c with
   | true =>
    simp -dsimp only [go_sem, gS, f4, hpp]
    refine svc_loop (X := Nat × Nat) (fun x => [(0, .d (.str s)), (1, .d (.int .i64 p)), (4, .ref b4 0), (7, .d (.int .i64 x.2))])
     (fun x G => G = hp H [(b4, .var [.d (.int .i64 0), .d (.str ⟨#[]⟩), .d (.int .i64 0)])] ∧ p < x.2 ∧ x.2 ≤ s.size ∧ s.size ≤ x.1 + x.2 ∧ runTo isDig s x.1 x.2 = runTo isDig s s.size (p + 1))
     (fun x => x.1) (s.size, p + 1) _ ⟨rfl, by simp, hpl, by simp, rfl⟩ (by simp -dsimp only [go_sem, gS]) (.refl _) ?_
    exact key (.inl hd)
   | false =>
    simp -dsimp only [go_sem, gS, f4]
    refine gif_split (fun g1 => ?_) (fun g1 => ?_)
    ·simp -dsimp only [go_sem, gS, g1, hpp]
     refine svc_loop (X := Nat × Nat) (fun x => [(0, .d (.str s)), (1, .d (.int .i64 p)), (4, .ref b4 0), (7, .d (.int .i64 x.2))])
      (fun x G => G = hp H [(b4, .var [.d (.int .i64 0), .d (.str ⟨#[]⟩), .d (.int .i64 0)])] ∧ p < x.2 ∧ x.2 ≤ s.size ∧ s.size ≤ x.1 + x.2 ∧ runTo isDig s x.1 x.2 = runTo isDig s s.size (p + 1))
      (fun x => x.1) (s.size, p + 1) _ ⟨rfl, by simp, hpl, by simp, rfl⟩ (by simp -dsimp only [go_sem, gS]) (.refl _) ?_
     exact key (.inr (of_decide_eq_true g1))
    ·have hno : ¬ (isDig c = true ∨ (c.toNat : Int) = 45) := by simp only [hd, Bool.false_eq_true, false_or]; exact of_decide_eq_false g1
     simp only [rWord, hl, Bool.false_eq_true, if_false, if_neg hno] at hK
     simp -dsimp only [go_sem, gS, g1]
     have hw1 : IntKind.i64.wrap ((s.size : Int) - 1) = (s.size : Int) - 1 := wrap64 (by omega) (by omega)
     refine (fun (key5 : ¬ ((c.toNat : Int) = 58 ∧ p + 1 < s.size ∧ byteIs s (p + 1) 45 = true) → (?T5 : Prop)) => ?main5) ?rest5
     case main5 =>
      refine gif_split (fun g2 => ?_) (fun g2 => ?_)
      ·simp -dsimp only [go_sem, gS, g2, hw1]
       refine gif_split (fun g3 => ?_) (fun g3 => ?_)
       ·have g3' : p + 1 < s.size := by have := of_decide_eq_true g3; clear key key5; omega
        obtain ⟨d, hd⟩ := at_lt g3'
        simp -dsimp only [go_sem, gS, g3, hpp, hd]
        refine gif_split (fun g4 => ?_) (fun g4 => ?_)
        ·have : ((c.toNat : Int) = 58 ∧ p + 1 < s.size ∧ byteIs s (p + 1) 45 = true) := ⟨of_decide_eq_true g2, g3', by simp [byteIs, hd, of_decide_eq_true g4]⟩
         rw [if_pos this] at hK
         simp -dsimp only [go_sem, gS, g4]
         exact retW_drop (G := H) (leH_hp0 (by simp only [hpS, eq_self, implies_true, f4])) (retW_is hK)
        ·simp -dsimp only [go_sem, gS, g4]
         exact key5 (fun h => by have := h.2.2; simp [byteIs, hd, of_decide_eq_false g4] at this)
       ·simp -dsimp only [go_sem, gS, g3]
        exact key5 (fun h => by have := of_decide_eq_false g3; have := h.2.1; clear key key5; omega)
      ·simp -dsimp only [go_sem, gS, g2]
       exact key5 (fun h => of_decide_eq_false g2 h.1)
     case rest5 =>
      intro h5
      rw [if_neg h5] at hK
      refine newK_hp (fun b5 f5 => ?_)
      simp only [off_cons, off_nil] at f5
      simp -dsimp only [go_sem, gS, f4, f5]
      refine aMark_intro (by simp only [hpS, eq_self, implies_true, f4, f5]; rfl) ?_
      simp -dsimp only [go_sem, gS, f4, f5]
      refine svc_loop (X := Nat) (fun k => [(0, .d (.str s)), (1, .d (.int .i64 p)), (4, .ref b4 0), (6, .d (.int .u8 c.toNat)), (119, .own b5 (litV b5 7)), (120, .d (.int .i64 7)), (121, .d (.int .i64 k))])
       (fun k G => G = hp H [(b4, .var [.d (.int .i64 0), .d (.str ⟨#[]⟩), .d (.int .i64 0)]), (b5, .frz (litV b5 7) (kMarks.map fun (m : Nat) => D.int .u8 m))] ∧ k ≤ 7 ∧ (kMarks.take k).contains c.toNat = false)
       (fun k => 7 - k) 0 _ ⟨rfl, by omega, rfl⟩ (by simp -dsimp only [go_sem, gS]; rfl) (.refl _) ?_
      rintro k G ⟨rfl, h1, h2⟩
      simp -dsimp only [go_sem, gS]
      refine gif_split (fun g1 => ?_) (fun g1 => ?_)
      ·have g1' : k < 7 := by have := of_decide_eq_true g1; omega
       obtain ⟨m, hm⟩ : ∃ m, kMarks[k]? = some m := ⟨_, List.getElem?_eq_getElem (show k < kMarks.length from g1')⟩
       have hmm : m ∈ kMarks := List.mem_of_getElem? hm
       have hwk := wrapN (k := k) (by omega)
       simp -dsimp only [go_sem, gS, g1, f4, f5, hm]
       refine gif_split (fun g2 => ?_) (fun g2 => ?_)
       ·have hin : kMarks.contains c.toNat = true := by
         have : m = c.toNat := by have := of_decide_eq_true g2; omega
         rw [← this]; simpa using hmm
        rw [if_pos hin] at hK
        simp -dsimp only [go_sem, gS, g2, hpp]
        refine andK_split (by omega) ?_
        simp -dsimp only [go_sem, gS, f4, f5]
        refine andK_split (by omega) ?_
        simp -dsimp only [go_sem, gS, f4, f5]
        exact retW_drop (G := H) (leH_hp0 (by simp only [hpS, eq_self, implies_true, f4, f5])) (retW_is hK)
       ·simp -dsimp only [go_sem, gS, g2, hwk]
        refine roundQ_next (k + 1) _ ⟨rfl, g1', ?_⟩ (by omega) (by simp -dsimp only [go_sem, gS]) (.refl _)
        have : m ≠ c.toNat := by have := of_decide_eq_false g2; omega
        rw [List.take_add_one, hm]
        simp only [List.contains_eq_mem, decide_eq_false_iff_not] at h2
        simp [h2, Ne.symm this]
      ·have hno : kMarks.contains c.toNat = false := by
        have : k = 7 := by have := of_decide_eq_false g1; omega
        subst this; exact h2
       rw [hno, if_neg (by decide)] at hK
       simp -dsimp only [go_sem, gS, g1, f4, f5]
       exact retW_drop (G := H) (leH_hp0 (by simp only [hpS, eq_self, implies_true, f4, f5])) (retW_is hK)
  case rest =>
   intro hyes
   rintro ⟨k, n⟩ G ⟨rfl, h1, h2, h3, hrun⟩
   simp only at h1 h2 h3 hrun
   simp only [rWord, hl, Bool.false_eq_true, if_false, if_pos hyes] at hK
   refine (fun (key2 : runTo isDig s s.size (p + 1) = n → (?T4 : Prop)) => ?main2) ?rest2
   case main2 =>
    simp -dsimp only [go_sem, gS]
    refine gif_split (fun g1 => ?_) (fun g1 => ?_)
    ·have g1' : n < s.size := by have := of_decide_eq_true g1; clear key2; omega
     obtain ⟨d, hd⟩ := at_lt g1'
     obtain ⟨k, rfl⟩ : ∃ k', k = k' + 1 := ⟨k - 1, by clear key2; omega⟩
     have hw := wrapN (k := n) (by clear key2; omega)
     simp -dsimp only [go_sem, gS, g1, hd]
     refine digit_ok _ d _ ?_
     cases g3 : isDig d with
     | true =>
      simp -dsimp only [go_sem, gS, f4, hw]
      exact roundQ_next (k, n + 1) _ ⟨rfl, by clear key2; simp only; omega, g1', by clear key2; simp only; omega, by rw [← hrun]; simp [runTo, hd, g3]⟩ (Nat.lt_succ_self k) (by simp -dsimp only [go_sem, gS]) (.refl _)
     | false =>
      simp -dsimp only [go_sem, gS, f4]
      exact key2 (by rw [← hrun]; exact runTo_no hd g3)
    ·have g1' : s.size ≤ n := by have := of_decide_eq_false g1; clear key2; omega
     simp -dsimp only [go_sem, gS, g1]
     exact key2 (by rw [← hrun]; exact runTo_end g1')
   case rest2 =>
    intro hn
    simp only [wordInt, hn] at hK
    have h2' : (n : Int).toNat ≤ s.size := by omega
    refine andK_split h2 ?_
    simp -dsimp only [go_sem, gS]
    refine andK_split (by omega) ?_
    simp -dsimp only [go_sem, gS]
    refine int_ok _ _ (by rw [ByteArray.size_extract]; omega) _ ?_
    generalize rInt (s.extract p n) = v at hK ⊢
    obtain ⟨v, ok⟩ := v
    have ha : n ≤ s.size := h2
    have hb : (p : Int).toNat ≤ (n : Int).toNat := by omega
    have hfin : ∀ b : Bool, (ok && (decide (n = s.size) || !letAt s n)) = b → K (.tup [.d (.agg [.int .i64 3, .str (s.extract p n), .int .i64 v]), .d (.bool b)]) H := fun b e => by
     rw [e] at hK; exact hK
    clear hK hrun hyes
    cases ok with
    | false =>
     have hK := hfin false rfl
     simp -dsimp only [go_sem, gS, f4]
     repeat' (first | (refine andK_split (by omega) ?_; (try simp -dsimp only [go_sem, gS, f4])) | (refine And.intro ?_ ?_ <;> (try simp -dsimp only [go_sem, gS, f4])))
     all_goals exact retW_drop (G := H) (leH_hp0 (by simp only [hpS, eq_self, implies_true, f4])) (retW_is hK)
    | true =>
     simp -dsimp only [go_sem, gS, f4]
     refine gif_split (fun g1 => ?_) (fun g1 => ?_)
     ·have g1' : n = s.size := by have := of_decide_eq_true g1; omega
      have hK := hfin true (by simp [g1'])
      simp -dsimp only [go_sem, gS, g1]
      repeat' (first | (refine andK_split (by omega) ?_; (try simp -dsimp only [go_sem, gS, f4, g1])) | (refine And.intro ?_ ?_ <;> (try simp -dsimp only [go_sem, gS, f4, g1])))
      all_goals exact retW_drop (G := H) (leH_hp0 (by simp only [hpS, eq_self, implies_true, f4])) (retW_is hK)
     ·have g1' : n < s.size := by have := of_decide_eq_false g1; omega
      obtain ⟨d, hd⟩ := at_lt g1'
      have hK := hfin (!isLet d) (by simp [letAt, hd, Nat.ne_of_lt g1'])
      simp -dsimp only [go_sem, gS, g1, hd]
      repeat' (first | (refine andK_split (by omega) ?_; (try simp -dsimp only [go_sem, gS, f4, g1, hd])) | (refine And.intro ?_ ?_ <;> (try simp -dsimp only [go_sem, gS, f4, g1, hd])) | (refine letter_ok _ d _ ?_; (try simp -dsimp only [go_sem, gS, f4, g1, hd])))
      all_goals exact retW_drop (G := H) (leH_hp0 (by simp only [hpS, eq_self, implies_true, f4])) (retW_is hK)
end Go.Aug

/- Walks of ParN. -/
namespace Go.Aug
open Go.Proofs
set_option maxRecDepth 100000
set_option linter.unusedSimpArgs false
attribute [local irreducible] hid andK letA onSome onVar onArr arrOnly onInt onBool onTup idxA ldV ldD addO ofPart appTo fillL slA srcK nilQ retW gif sgd sguard svc sops sdops sagain aopO aLoad aStore aBin aUn aConv aLen aIndexAddr aIndex aIndexAddrS aIndexS aSlice aAppend aBuild aBuildSlice aMakeSlice aField aFieldOf aCallOp deepK deepL frzM putE newK newV growV ACall roundQ thenQ inBlockQ sret cnd szs nilC onRow aLookup aMapUpdate aMakeMap
attribute [local go_sem] Int.natCast_zero
structure AllJ (H : Heap) (s : ByteArray) (x : AllX) (G : Heap) : Prop where
 is : G = hp H [(x.b, .arr 3 1 x.v (x.pl.map (.int .i64))), (x.c, .arr 50 3 x.w (x.ts.map Tok.d))]
 f : (eqn x.b x.c = false ∧ eqn x.c x.b = false) ∧ H x.b = none ∧ H x.c = none
 v : x.v.ownBlock = some x.b ∧ x.w.ownBlock = some x.c
 le : x.p ≤ s.size ∧ s.size ≤ x.k + x.p
 len : x.pl.length ≤ x.p ∧ x.ts.length ≤ x.p
 run : rAll s x.k x.p x.cm x.pl x.ts = rAll s s.size 0 false [] []
set_option maxHeartbeats 4000000 in
theorem all_ok {eb : EbG} (H : Heap) (s : ByteArray) (hs : s.size ≤ 16384) (K : A → Heap → Prop)
  (hK : K (.tup [.d (.slice ((rAll s s.size 0 false [] []).1.map (.int .i64))), .d (.slice ((rAll s s.size 0 false [] []).2.1.map Tok.d)), .d (.bool (rAll s s.size 0 false [] []).2.2)]) H) :
  ACall Tryz.prog (seatV eb) 50 [.d (.str s)] H K := by
 refine ACall.hp_start ?_
 refine ACall.by mixed fn50 (by simp) ?_
 conv in s50 => cbv
 refine svc_start ?_
 simp -dsimp only [go_sem, gS]
 refine newV_hp (fun b5 v5 f5 w5 => ?_)
 simp only [off_cons, off_nil] at f5
 simp -dsimp only [go_sem, gS, f5]
 refine newV_hp (fun b6 v6 f6 w6 => ?_)
 simp only [off_cons, off_nil] at f6
 simp -dsimp only [go_sem, gS, f5, f6]
 refine svc_loop (X := AllX) (fun x => [(0, .d (.str s)), (5, .own x.b x.v), (6, .own x.c x.w), (7, .d (.bool x.cm)), (8, .d (.int .i64 x.p))])
  (AllJ H s) (fun x => x.k) ⟨s.size, 0, false, [], [], b5, v5, b6, v6⟩ _ ⟨rfl, by simp only [hpS, eq_self, implies_true, f5, f6], ⟨w5, w6⟩, by simp, by simp, rfl⟩ (by simp -dsimp only [go_sem, gS]) (.refl _) ?_
 rintro ⟨k, p, cm, pl, ts, b1, v1, b2, v2⟩ G hJ
 obtain ⟨hG, f, ⟨hv, hw⟩, ⟨hle, hk⟩, ⟨hpl, hts⟩, hrun⟩ := hJ
 simp only at hG f hv hw hle hk hpl hts hrun
 subst hG
 simp -dsimp only [go_sem, gS, f]
 refine gif_split (fun g1 => ?_) (fun g1 => ?_)
 ·have g1' : p < s.size := by have := of_decide_eq_true g1; omega
  obtain ⟨k, rfl⟩ : ∃ k', k = k' + 1 := ⟨k - 1, by omega⟩
  obtain ⟨ch, hc⟩ := at_lt g1'
  have hp1 := wrapN (k := p) (by omega)
  simp only [rAll, hc] at hrun
  have hnext : ∀ cm', rAll s k (p + 1) cm' pl ts = rAll s s.size 0 false [] [] → AllJ H s ⟨k, p + 1, cm', pl, ts, b1, v1, b2, v2⟩ (hp H [(b1, .arr 3 1 v1 (pl.map (.int .i64))), (b2, .arr 50 3 v2 (ts.map Tok.d))]) := fun cm' h =>
   ⟨rfl, f, ⟨hv, hw⟩, ⟨g1', by simp only; omega⟩, ⟨by simp only; omega, by simp only; omega⟩, h⟩
  simp -dsimp only [go_sem, gS, g1, hc]
  cases cm with
  | true =>
   simp only [if_true] at hrun
   simp -dsimp only [go_sem, gS, hp1]
   exact roundQ_next ⟨k, p + 1, _, pl, ts, b1, v1, b2, v2⟩ _ (hnext _ hrun) (Nat.lt_succ_self k) (by simp -dsimp only [go_sem, gS]) (.refl _)
  | false =>
   simp only [Bool.false_eq_true, if_false] at hrun
   have hblank : isBlank ch = true → AllJ H s ⟨k, p + 1, false, pl, ts, b1, v1, b2, v2⟩ (hp H [(b1, .arr 3 1 v1 (pl.map (.int .i64))), (b2, .arr 50 3 v2 (ts.map Tok.d))]) := fun h =>
    hnext _ (by rw [if_pos h] at hrun; exact hrun)
   simp -dsimp only [go_sem, gS]
   refine gif_split (fun g2 => ?_) (fun g2 => ?_)
   ·simp -dsimp only [go_sem, gS, g2, hp1]
    exact roundQ_next ⟨k, p + 1, false, pl, ts, b1, v1, b2, v2⟩ _ (hblank (by simp [isBlank, of_decide_eq_true g2])) (Nat.lt_succ_self k) (by simp -dsimp only [go_sem, gS]) (.refl _)
   simp -dsimp only [go_sem, gS, g2]
   refine gif_split (fun g3 => ?_) (fun g3 => ?_)
   ·simp -dsimp only [go_sem, gS, g3, hp1]
    exact roundQ_next ⟨k, p + 1, false, pl, ts, b1, v1, b2, v2⟩ _ (hblank (by simp [isBlank, of_decide_eq_true g3])) (Nat.lt_succ_self k) (by simp -dsimp only [go_sem, gS]) (.refl _)
   simp -dsimp only [go_sem, gS, g3]
   refine gif_split (fun g4 => ?_) (fun g4 => ?_)
   ·simp -dsimp only [go_sem, gS, g4, hp1]
    exact roundQ_next ⟨k, p + 1, false, pl, ts, b1, v1, b2, v2⟩ _ (hblank (by simp [isBlank, of_decide_eq_true g4])) (Nat.lt_succ_self k) (by simp -dsimp only [go_sem, gS]) (.refl _)
   simp -dsimp only [go_sem, gS, g4]
   refine gif_split (fun g5 => ?_) (fun g5 => ?_)
   ·simp -dsimp only [go_sem, gS, g5, hp1]
    exact roundQ_next ⟨k, p + 1, false, pl, ts, b1, v1, b2, v2⟩ _ (hblank (by simp [isBlank, of_decide_eq_true g5])) (Nat.lt_succ_self k) (by simp -dsimp only [go_sem, gS]) (.refl _)
   have hnb : ¬ isBlank ch = true := by simp [isBlank, of_decide_eq_false g2, of_decide_eq_false g3, of_decide_eq_false g4, of_decide_eq_false g5]
   rw [if_neg hnb] at hrun
   simp -dsimp only [go_sem, gS, g5]
   refine gif_split (fun g6 => ?_) (fun g6 => ?_)
   ·rw [if_pos (of_decide_eq_true g6)] at hrun
    simp -dsimp only [go_sem, gS, g6, hp1]
    exact roundQ_next ⟨k, p + 1, true, pl, ts, b1, v1, b2, v2⟩ _ (hnext _ hrun) (Nat.lt_succ_self k) (by simp -dsimp only [go_sem, gS]) (.refl _)
   rw [if_neg (of_decide_eq_false g6)] at hrun
   simp -dsimp only [go_sem, gS, g6]
   refine word1_ok _ s p ch hs hc _ ?_
   have hsz := rWord_size hc
   generalize rWord s p ch = tk at hrun hsz ⊢
   obtain ⟨⟨tkind, ttext, tint⟩, ok⟩ := tk
   simp -dsimp only [go_sem, gS, f, Tok.d, Tok.cs]
   refine newK_hp (fun b10 f10 => ?_)
   simp only [off_cons, off_nil] at f10
   simp -dsimp only [go_sem, gS, f, f10]
   cases ok with
   | false =>
    simp only [Bool.false_eq_true, if_false] at hrun
    rw [← hrun] at hK
    simp -dsimp only [go_sem, gS, f, f10]
    refine retW_tup [true, true, true] ?_
    simp -dsimp only [go_sem, gS, f, f10]
    exact retW_drop (G := H) (leH_hp0 (by simp only [hpS, eq_self, implies_true, f, f10])) (retW_is hK)
   | true =>
    simp only [if_true] at hrun hsz
    obtain ⟨hz1, hz2⟩ := hsz trivial
    simp -dsimp only [go_sem, gS, f, f10]
    refine And.intro ?_ ?_
    ·refine newV_hp (fun b33 v33 f33 w33 => ?_)
     simp only [off_cons, off_nil] at f33
     simp -dsimp only [go_sem, gS, f, f10, f33]
     refine And.intro ?_ ?_
     ·refine andK_split (by omega) ?_
      refine growV_hp (b0 := b1) (by simp only [hpS, eq_self, implies_true, f, f10, f33]) (by simp only [hpS, eq_self, implies_true, f, f10, f33]) (fun b34 v34 f34 w34 => ?_)
      simp only [delL_cons, delL_nil, eqn_self, cnd_true, cnd_false, off_cons, off_nil, f, f10, f33] at f34
      simp -dsimp only [go_sem, gS, f, f10, f33, f34]
      refine newV_hp (fun b37 v37 f37 w37 => ?_)
      simp only [off_cons, off_nil] at f37
      simp -dsimp only [go_sem, gS, f, f10, f33, f34, f37]
      refine andK_split (by omega) ?_
      refine growV_hp (b0 := b2) (by simp only [hpS, eq_self, implies_true, f, f10, f33, f34, f37]) (by simp only [hpS, eq_self, implies_true, f, f10, f33, f34, f37]) (fun b38 v38 f38 w38 => ?_)
      simp only [delL_cons, delL_nil, eqn_self, cnd_true, cnd_false, off_cons, off_nil, f, f10, f33, f34, f37] at f38
      simp -dsimp only [go_sem, gS, f, f10, f33, f34, f37, f38]
      have hw34 : IntKind.i64.wrap ((p : Int) + (ttext.size : Int)) = ((p + ttext.size : Nat) : Int) := by rw [wrap64 (by omega) (by omega)]; omega
      simp -dsimp only [go_sem, gS, f, f10, f33, f34, f37, f38, hw34]
      refine roundQ_next ⟨k, p + ttext.size, false, pl ++ [(p : Int)], ts ++ [Tok.mk tkind ttext tint], b34, v34, b38, v38⟩ (hp H [(b34, .arr 3 1 v34 ((pl ++ [(p : Int)]).map (.int .i64))), (b38, .arr 50 3 v38 ((ts ++ [Tok.mk tkind ttext tint]).map Tok.d))])
       ⟨rfl, by simp only [hpS, eq_self, implies_true, f, f10, f33, f34, f37, f38], ⟨w34, w38⟩, ⟨hz2, by simp only; omega⟩, ⟨by simp only [List.length_append, List.length_cons, List.length_nil]; omega, by simp only [List.length_append, List.length_cons, List.length_nil]; omega⟩, hrun⟩ (Nat.lt_succ_self k) (by simp -dsimp only [go_sem, gS]) ?_
      simp only [List.map_append, List.map_cons, List.map_nil, Tok.d, Tok.cs]
      exact (leH_hp (by simp only [hpS, eq_self, implies_true, f, f10, f33, f34, f37, f38]) (by simp only [hpS, eq_self, implies_true, f, f10, f33, f34, f37, f38]))
     ·refine newV_hp (fun b37 v37 f37 w37 => ?_)
      simp only [off_cons, off_nil] at f37
      simp -dsimp only [go_sem, gS, f, f10, f33, f37]
      refine andK_split (by omega) ?_
      refine growV_hp (b0 := b1) (by simp only [hpS, eq_self, implies_true, f, f10, f33, f37]) (by simp only [hpS, eq_self, implies_true, f, f10, f33, f37]) (fun b34 v34 f34 w34 => ?_)
      simp only [delL_cons, delL_nil, eqn_self, cnd_true, cnd_false, off_cons, off_nil, f, f10, f33, f37] at f34
      simp -dsimp only [go_sem, gS, f, f10, f33, f37, f34]
      refine andK_split (by omega) ?_
      refine growV_hp (b0 := b2) (by simp only [hpS, eq_self, implies_true, f, f10, f33, f37, f34]) (by simp only [hpS, eq_self, implies_true, f, f10, f33, f37, f34]) (fun b38 v38 f38 w38 => ?_)
      simp only [delL_cons, delL_nil, eqn_self, cnd_true, cnd_false, off_cons, off_nil, f, f10, f33, f37, f34] at f38
      simp -dsimp only [go_sem, gS, f, f10, f33, f37, f34, f38]
      have hw34 : IntKind.i64.wrap ((p : Int) + (ttext.size : Int)) = ((p + ttext.size : Nat) : Int) := by rw [wrap64 (by omega) (by omega)]; omega
      simp -dsimp only [go_sem, gS, f, f10, f33, f37, f34, f38, hw34]
      refine roundQ_next ⟨k, p + ttext.size, false, pl ++ [(p : Int)], ts ++ [Tok.mk tkind ttext tint], b34, v34, b38, v38⟩ (hp H [(b34, .arr 3 1 v34 ((pl ++ [(p : Int)]).map (.int .i64))), (b38, .arr 50 3 v38 ((ts ++ [Tok.mk tkind ttext tint]).map Tok.d))])
       ⟨rfl, by simp only [hpS, eq_self, implies_true, f, f10, f33, f37, f34, f38], ⟨w34, w38⟩, ⟨hz2, by simp only; omega⟩, ⟨by simp only [List.length_append, List.length_cons, List.length_nil]; omega, by simp only [List.length_append, List.length_cons, List.length_nil]; omega⟩, hrun⟩ (Nat.lt_succ_self k) (by simp -dsimp only [go_sem, gS]) ?_
      simp only [List.map_append, List.map_cons, List.map_nil, Tok.d, Tok.cs]
      exact (leH_hp (by simp only [hpS, eq_self, implies_true, f, f10, f33, f37, f34, f38]) (by simp only [hpS, eq_self, implies_true, f, f10, f33, f37, f34, f38]))
    ·refine newV_hp (fun b37 v37 f37 w37 => ?_)
     simp only [off_cons, off_nil] at f37
     simp -dsimp only [go_sem, gS, f, f10, f37]
     refine newV_hp (fun b33 v33 f33 w33 => ?_)
     simp only [off_cons, off_nil] at f33
     simp -dsimp only [go_sem, gS, f, f10, f37, f33]
     refine andK_split (by omega) ?_
     refine growV_hp (b0 := b1) (by simp only [hpS, eq_self, implies_true, f, f10, f37, f33]) (by simp only [hpS, eq_self, implies_true, f, f10, f37, f33]) (fun b34 v34 f34 w34 => ?_)
     simp only [delL_cons, delL_nil, eqn_self, cnd_true, cnd_false, off_cons, off_nil, f, f10, f37, f33] at f34
     simp -dsimp only [go_sem, gS, f, f10, f37, f33, f34]
     refine andK_split (by omega) ?_
     refine growV_hp (b0 := b2) (by simp only [hpS, eq_self, implies_true, f, f10, f37, f33, f34]) (by simp only [hpS, eq_self, implies_true, f, f10, f37, f33, f34]) (fun b38 v38 f38 w38 => ?_)
     simp only [delL_cons, delL_nil, eqn_self, cnd_true, cnd_false, off_cons, off_nil, f, f10, f37, f33, f34] at f38
     simp -dsimp only [go_sem, gS, f, f10, f37, f33, f34, f38]
     have hw34 : IntKind.i64.wrap ((p : Int) + (ttext.size : Int)) = ((p + ttext.size : Nat) : Int) := by rw [wrap64 (by omega) (by omega)]; omega
     simp -dsimp only [go_sem, gS, f, f10, f37, f33, f34, f38, hw34]
     refine roundQ_next ⟨k, p + ttext.size, false, pl ++ [(p : Int)], ts ++ [Tok.mk tkind ttext tint], b34, v34, b38, v38⟩ (hp H [(b34, .arr 3 1 v34 ((pl ++ [(p : Int)]).map (.int .i64))), (b38, .arr 50 3 v38 ((ts ++ [Tok.mk tkind ttext tint]).map Tok.d))])
      ⟨rfl, by simp only [hpS, eq_self, implies_true, f, f10, f37, f33, f34, f38], ⟨w34, w38⟩, ⟨hz2, by simp only; omega⟩, ⟨by simp only [List.length_append, List.length_cons, List.length_nil]; omega, by simp only [List.length_append, List.length_cons, List.length_nil]; omega⟩, hrun⟩ (Nat.lt_succ_self k) (by simp -dsimp only [go_sem, gS]) ?_
     simp only [List.map_append, List.map_cons, List.map_nil, Tok.d, Tok.cs]
     exact (leH_hp (by simp only [hpS, eq_self, implies_true, f, f10, f37, f33, f34, f38]) (by simp only [hpS, eq_self, implies_true, f, f10, f37, f33, f34, f38]))
 ·have hfin : rAll s s.size 0 false [] [] = (pl, ts, true) := by
   have h1' : s.size ≤ p := by have := of_decide_eq_false g1; omega
   rw [← hrun]
   cases k with
   | zero => rfl
   | succ k => simp [rAll, Nat.not_lt.2 h1']
  rw [hfin] at hK
  simp -dsimp only [go_sem, gS, g1]
  refine retW_tup [true, true, true] ?_
  simp -dsimp only [go_sem, gS, f]
  exact retW_drop (G := H) (leH_hp0 (by simp only [hpS, eq_self, implies_true, f])) (retW_is hK)

theorem lex_ok {eb : EbG} (H : Heap) (s : ByteArray) (K : A → Heap → Prop) (hK : K (.tup [.d (.slice ((rlex s).1.map Tok.d)), .d (.int .i64 (rlex s).2)]) H) :
  ACall Tryz.prog (seatV eb) 15 [.d (.str s)] H K := by
 refine ACall.by mixed fn15 (by simp) ?_
 conv in s15 => cbv
 refine svc_start ?_
 simp -dsimp only [go_sem, gS]
 refine gif_split (fun g1 => ?_) (fun g1 => ?_)
 ·have g1' : 16384 < s.size := by have := of_decide_eq_true g1; omega
  simp only [rlex, if_pos g1'] at hK
  simp -dsimp only [go_sem, gS, g1]
  refine retW_tup [true, true] ?_
  simp -dsimp only [go_sem, gS]
  exact retW_is hK
 ·have g1' : ¬ 16384 < s.size := by have := of_decide_eq_false g1; omega
  simp only [rlex, if_neg g1'] at hK
  simp -dsimp only [go_sem, gS, g1]
  refine all_ok _ s (by omega) _ ?_
  generalize rAll s s.size 0 false [] [] = x at hK ⊢
  obtain ⟨pl, ts, ok⟩ := x
  simp -dsimp only [go_sem, gS]
  cases ok with
  | true =>
   simp only [if_true] at hK
   simp -dsimp only [go_sem, gS]
   exact retW_is hK
  | false =>
   simp only [Bool.false_eq_true, if_false] at hK
   simp -dsimp only [go_sem, gS]
   refine retW_tup [true, true] ?_
   simp -dsimp only [go_sem, gS]
   exact retW_is hK
theorem read_ok {eb : EbG} (H : Heap) (s : ByteArray) (K : A → Heap → Prop) (hK : ∀ b, H b = none → K (.ref b 0) (upd H b (.var (rdA (rlex s).1 ⟨0, (rlex s).2⟩)))) :
  ACall Tryz.prog (seatV eb) 36 [.d (.str s)] H K := by
 refine ACall.by mixed fn36 (by simp) ?_
 conv in s36 => cbv
 refine svc_start ?_
 simp -dsimp only [go_sem, gS]
 refine lex_ok _ s _ ?_
 simp -dsimp only [go_sem, gS]
 refine newK_intro (fun b hb _ _ => ?_)
 simp -dsimp only [go_sem, gS]
 exact retW_is (hK b hb)
theorem done_ok {eb : EbG} (H : Heap) (r : Nat) (l : List Tok) (s : RdS) (h : RdAt H r l s) (K : A → Heap → Prop) (hK : K (.d (.int .i64 (rdone l s).err)) (rset H r l (rdone l s))) :
  ACall Tryz.prog (seatV eb) 41 [.ref r 0] H K := by
 refine ACall.hp_in h.at_ ?_
 refine ACall.by mixed fn41 (by simp) ?_
 conv in s41 => cbv
 refine svc_start ?_
 simp -dsimp only [go_sem, gS, rdA]
 have h0 : ∀ e, e = s.err → ¬ (s.err = 0 ∧ s.pos < l.length) → K (.d (.int .i64 e)) (hp H [(r, .var (rdA l s))]) := fun e he hn => by
  rw [rdone, if_neg hn] at hK; subst he; exact hK
 refine gif_split (fun g1 => ?_) (fun g1 => ?_)
 ·simp -dsimp only [go_sem, gS, g1]
  refine gif_split (fun g2 => ?_) (fun g2 => ?_)
  ·have hn : s.err = 0 ∧ s.pos < l.length := ⟨of_decide_eq_true g1, by have := of_decide_eq_true g2; omega⟩
   rw [rdone, if_pos hn] at hK
   simp -dsimp only [go_sem, gS, g2]
   exact retW_is hK
  ·simp -dsimp only [go_sem, gS, g2]
   exact retW_is (h0 _ rfl (fun hn => by have := of_decide_eq_false g2; have := hn.2; omega))
 ·simp -dsimp only [go_sem, gS, g1]
  exact retW_is (h0 _ rfl (fun hn => of_decide_eq_false g1 hn.1))
set_option maxHeartbeats 4000000 in
theorem source_ok {eb : EbG} (H : Heap) (s : ByteArray) (K : A → Heap → Prop) (hK : K (.tup [.d (.slice ((rsource (rlex s).1 (rlex s).2).1.map It.d)), .d (.int .i64 (rsource (rlex s).1 (rlex s).2).2)]) H) :
  ACall Tryz.prog (seatV eb) 13 [.d (.str s)] H K := by
 refine ACall.hp_start ?_
 refine ACall.by mixed fn13 (by simp) ?_
 conv in s13 => cbv
 refine svc_start ?_
 simp -dsimp only [go_sem, gS]
 have hlen := rlex_len s
 refine read_ok _ s _ (fun b4 hb4 => ?_)
 have f4 := off_of hb4
 simp only [off_nil] at f4
 generalize (rlex s).1 = l at hlen hK ⊢
 generalize (rlex s).2 = e at hK ⊢
 simp -dsimp only [go_sem, gS]
 refine newV_hp (fun b5 v5 f5 w5 => ?_)
 simp only [off_cons, off_nil] at f5
 simp -dsimp only [go_sem, gS, f4, f5]
 refine (fun (key : ∀ (is : List It) (s1 : RdS) (b : Nat) (v : Value), (eqn b b4 = false ∧ eqn b4 b = false ∧ H b = none) → v.ownBlock = some b → s1.pos ≤ l.length → ritems l (l.length + 1) [] ⟨0, e⟩ = (is, s1) → (?T1 : List It → RdS → Nat → Value → Prop) is s1 b v) => ?main) ?rest
 case main =>
  refine svc_loop (X := Nat × List It × RdS × Nat × Value) (fun x => [(4, .ref b4 0), (5, .own x.2.2.2.1 x.2.2.2.2)])
   (fun x G => G = hp H [(b4, .var (rdA l x.2.2.1)), (x.2.2.2.1, .arr 44 20 x.2.2.2.2 (x.2.1.map It.d))] ∧ (eqn x.2.2.2.1 b4 = false ∧ eqn b4 x.2.2.2.1 = false ∧ H x.2.2.2.1 = none) ∧ x.2.2.2.2.ownBlock = some x.2.2.2.1 ∧ x.2.2.1.pos ≤ l.length ∧ x.2.1.length ≤ 512 ∧ (x.2.2.1.err = 0 → l.length + 1 ≤ x.1 + x.2.2.1.pos) ∧ ritems l x.1 x.2.1 x.2.2.1 = ritems l (l.length + 1) [] ⟨0, e⟩)
   (fun x => x.1) (l.length + 1, [], ⟨0, e⟩, b5, v5) _ ⟨rfl, f5, w5, by simp, by simp, by simp, rfl⟩ (by simp -dsimp only [go_sem, gS]) (.refl _) ?_
  rintro ⟨k, is, s1, b6, v6⟩ G ⟨hG, f6, w6, hle, hn, hk, hrun⟩
  simp only at hG f6 w6 hle hn hk hrun
  subst hG
  have hsh : l.length < 1073741824 := by clear key; omega
  simp -dsimp only [go_sem, gS]
  refine end_ok _ b4 l s1 ⟨by simp only [hpS, eq_self, implies_true, f4, f6], hsh, hle⟩ _ ?_
  cases hend : rend l s1 with
  | true =>
   simp -dsimp only [go_sem, gS]
   refine key is s1 b6 v6 f6 w6 hle ?_
   rw [← hrun]
   cases k with
   | zero => rfl
   | succ k => simp [ritems, hend]
  | false =>
   obtain ⟨he0, hlt, _⟩ := rend_tok hend
   obtain ⟨k, rfl⟩ : ∃ k', k = k' + 1 := ⟨k - 1, by have := hk he0; clear key; omega⟩
   simp only [ritems, hend, Bool.false_eq_true, if_false] at hrun
   simp -dsimp only [go_sem, gS, f4, f6]
   refine gif_split (fun g2 => ?_) (fun g2 => ?_)
   ·have g2' : is.length = 512 := by have := of_decide_eq_true g2; clear key; omega
    rw [if_pos g2'] at hrun
    simp -dsimp only [go_sem, gS, g2]
    refine fail_ok _ b4 l s1 4 ⟨by simp only [hpS, eq_self, implies_true, f4, f6], hsh, hle⟩ _ ?_
    have hle2 : (rfail 4 s1).pos ≤ l.length := by rw [rfail_pos]; exact hle
    generalize rfail 4 s1 = s2 at hrun hle2 ⊢
    simp -dsimp only [go_sem, gS, f4, f6]
    exact key is s2 b6 v6 f6 w6 hle2 hrun.symm
   ·have g2' : ¬ is.length = 512 := by have := of_decide_eq_false g2; clear key; omega
    rw [if_neg g2'] at hrun
    simp -dsimp only [go_sem, gS, g2]
    refine item_ok _ b4 l s1 ⟨by simp only [hpS, eq_self, implies_true, f4, f6], hsh, hle⟩ _ ?_
    have hle2 := (ritem_steps l).le _ hle
    have hge2 := (ritem_steps l).ge s1
    generalize (ritem l s1).1 = it at hrun ⊢
    generalize (ritem l s1).2 = s2 at hrun hle2 hge2 ⊢
    have hcs := it.cs_length
    simp -dsimp only [go_sem, gS, f4, f6, It.d, hcs]
    refine newV_hp (fun b7 v7 f7 w7 => ?_)
    simp only [off_cons, off_nil] at f7
    simp -dsimp only [go_sem, gS, f4, f6, f7, hcs]
    refine andK_split (by clear key; omega) ?_
    refine growV_hp (b0 := b6) (by simp only [hpS, eq_self, implies_true, f4, f6, f7]) (by simp only [hpS, eq_self, implies_true, f4, f6, f7]) (fun b8 v8 f8 w8 => ?_)
    simp only [delL_cons, delL_nil, eqn_self, cnd_true, cnd_false, off_cons, off_nil, f4, f6, f7] at f8
    simp -dsimp only [go_sem, gS, f4, f6, f7, f8]
    refine need_ok _ b4 l s2 kDot ⟨by simp only [hpS, eq_self, implies_true, f4, f6, f7, f8], hsh, hle2⟩ _ ?_
    have hle3 := rneed_le (t := kDot) hle2
    have hok3 := rneed_ok (l := l) (t := kDot) (s := s2)
    generalize rneed l kDot s2 = s3 at hrun hle3 hok3 ⊢
    simp -dsimp only [go_sem, gS, f4, f6, f7, f8]
    refine roundQ_next (k, is ++ [it], s3, b8, v8) (hp H [(b4, .var (rdA l s3)), (b8, .arr 44 20 v8 ((is ++ [it]).map It.d))]) ⟨rfl, by simp only [hpS, eq_self, implies_true, f8], w8, hle3, ?_, ?_, hrun⟩ (Nat.lt_succ_self k) (by simp -dsimp only [go_sem, gS]) ?_
    ·clear key; simp only [List.length_append, List.length_cons, List.length_nil]; omega
    ·intro h3; have := hok3 h3; have := hk he0; clear key; simp only; omega
    ·simp only [List.map_append, List.map_cons, List.map_nil, It.d]
     exact (leH_hp (by simp only [hpS, eq_self, implies_true, f4, f6, f7, f8]) (by simp only [hpS, eq_self, implies_true, f4, f6, f7, f8]))
 case rest =>
  intro is s1 b v f6 w6 hle hfin
  try simp -dsimp only [go_sem, gS, f4, f6]
  have hsh : l.length < 1073741824 := by omega
  refine done_ok _ b4 l s1 ⟨by simp only [hpS, eq_self, implies_true, f4, f6], hsh, hle⟩ _ ?_
  simp only [rsource, hfin] at hK
  simp -dsimp only [go_sem, gS, f4, f6]
  refine gif_split (fun g2 => ?_) (fun g2 => ?_)
  ·have g2' : (rdone l s1).err ≠ 0 := by simpa using g2
   rw [if_pos g2'] at hK
   simp -dsimp only [go_sem, gS, g2, f4, f6, rdA]
   refine retW_tup [true, true] ?_
   simp -dsimp only [go_sem, gS, f4, f6]
   exact retW_drop (G := H) (leH_hp0 (by simp only [hpS, eq_self, implies_true, f4, f6])) (retW_is hK)
  ·have g2' : ¬ (rdone l s1).err ≠ 0 := by simpa using g2
   rw [if_neg g2'] at hK
   simp -dsimp only [go_sem, gS, g2, f4, f6, rdA]
   refine retW_tup [true, true] ?_
   simp -dsimp only [go_sem, gS, f4, f6]
   exact retW_drop (G := H) (leH_hp0 (by simp only [hpS, eq_self, implies_true, f4, f6])) (retW_is hK)
end Go.Aug
