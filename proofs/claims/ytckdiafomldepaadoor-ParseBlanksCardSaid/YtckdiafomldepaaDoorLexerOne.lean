/- The contracts of the reference's lexer; conditions stand in each contract. -/
import Derived.Test.YtckdiafomldepaaDoorReaderOne
import Derived.Test.YtckdiafomldepaaDoorGrammarOne
set_option linter.all false
set_option linter.unusedVariables false
set_option linter.unusedSimpArgs false
set_option linter.unusedSectionVars false

/- Walks of ParB. -/
namespace Go.Aug
open Go.Proofs
set_option maxRecDepth 100000
set_option linter.unusedSimpArgs false
attribute [local irreducible] hid andK letA onSome onVar onArr arrOnly onInt onBool onTup idxA ldV ldD addO ofPart appTo fillL slA srcK nilQ retW gif sgd sguard svc sops sdops sagain aopO aLoad aStore aBin aUn aConv aLen aIndexAddr aIndex aIndexAddrS aIndexS aSlice aAppend aBuild aBuildSlice aMakeSlice aField aFieldOf aCallOp deepK deepL frzM putE newK newV growV ACall roundQ thenQ inBlockQ sret cnd szs nilC aLookup aMapUpdate aMakeMap
attribute [local go_sem] Int.natCast_zero

theorem digit_ok {eb : EbG} (H : Heap) (c : UInt8) (K : A → Heap → Prop) (hK : K (.d (.bool (isDig c))) H) : ACall Tryd.prog (seatV eb) 60 [.d (.int .u8 c.toNat)] H K := by
 refine ACall.by mixed fn60 (by simp) ?_
 conv in s60 => cbv
 refine svc_start ?_
 simp -dsimp only [go_sem, gS]
 repeat' (first | (refine gif_split (fun h => ?_) (fun h => ?_) <;> (try simp -dsimp only [go_sem, gS, *])) | (refine newV_intro (fun b v hb hn hm hv => ?_); (try simp -dsimp only [go_sem, gS, *])) | (refine newK_intro (fun b hb hn hm => ?_); (try simp -dsimp only [go_sem, gS, *])) | (refine growV_intro (fun b v hb hn hm hv => ?_); (try simp -dsimp only [go_sem, gS, *])) | (refine andK_split (by omega) ?_; (try simp -dsimp only [go_sem, gS, *])) | (refine nilQ_intro ?_ (fun h => ?_) <;> (try simp -dsimp only [go_sem, gS, *])) | (refine And.intro ?_ ?_ <;> (try simp -dsimp only [go_sem, gS, *])) | (refine (fun (v : Value) (hv : v.ownBlock = some _) => ?_); (try simp -dsimp only [go_sem, gS, *])))
 all_goals refine retW_is ?_
 all_goals simp_all [isDig]
theorem letter_ok {eb : EbG} (H : Heap) (c : UInt8) (K : A → Heap → Prop) (hK : K (.d (.bool (isLet c))) H) : ACall Tryd.prog (seatV eb) 59 [.d (.int .u8 c.toNat)] H K := by
 refine ACall.by mixed fn59 (by simp) ?_
 conv in s59 => cbv
 refine svc_start ?_
 simp -dsimp only [go_sem, gS]
 repeat' (first | (refine gif_split (fun h => ?_) (fun h => ?_) <;> (try simp -dsimp only [go_sem, gS, *])) | (refine newV_intro (fun b v hb hn hm hv => ?_); (try simp -dsimp only [go_sem, gS, *])) | (refine newK_intro (fun b hb hn hm => ?_); (try simp -dsimp only [go_sem, gS, *])) | (refine growV_intro (fun b v hb hn hm hv => ?_); (try simp -dsimp only [go_sem, gS, *])) | (refine andK_split (by omega) ?_; (try simp -dsimp only [go_sem, gS, *])) | (refine nilQ_intro ?_ (fun h => ?_) <;> (try simp -dsimp only [go_sem, gS, *])) | (refine And.intro ?_ ?_ <;> (try simp -dsimp only [go_sem, gS, *])) | (refine (fun (v : Value) (hv : v.ownBlock = some _) => ?_); (try simp -dsimp only [go_sem, gS, *])))
 all_goals refine retW_is ?_
 all_goals simp_all [isLet, isSmall]
set_option maxHeartbeats 2000000 in
theorem int_ok {eb : EbG} (H : Heap) (s : ByteArray) (hs : s.size ≤ 16384) (K : A → Heap → Prop) (hK : K (.tup [.d (.int .i64 (rInt s).1), .d (.bool (rInt s).2)]) H) : ACall Tryd.prog (seatV eb) 61 [.d (.str s)] H K := by
 have t0 : Int.toNat 0 = 0 := rfl
 have t1 : Int.toNat 1 = 1 := rfl
 refine ACall.by mixed fn61 (by simp) ?_
 conv in s61 => cbv
 refine svc_start ?_
 simp -dsimp only [go_sem, gS]
 refine (fun (key : ∀ (d : ByteArray), rIntCut s = d → d.size ≤ 16384 → (0 < d.size → 0 < s.size) → (?T : ByteArray → Prop) d) => ?main) ?rest
 case main =>
  refine gif_split (fun h1 => ?_) (fun h1 => ?_)
  ·have h1' : 0 < s.size := by have := of_decide_eq_true h1; clear key; omega
   obtain ⟨c, hc⟩ := at_lt h1'
   simp -dsimp only [go_sem, gS, h1, t0, hc]
   refine gif_split (fun h2 => ?_) (fun h2 => ?_)
   ·simp -dsimp only [go_sem, gS, h2, t1]
    refine andK_split h1' ?_
    simp -dsimp only [go_sem, gS, h2, t1]
    have e : rIntCut s = s.extract 1 s.size := by simp [rIntCut, byteIs, hc, of_decide_eq_true h2]
    have hl : (s.extract 1 s.size).size ≤ 16384 := by rw [ByteArray.size_extract]; clear key; omega
    generalize s.extract 1 s.size = d at e hl ⊢
    exact key d e hl (fun _ => h1')
   ·simp -dsimp only [go_sem, gS, h2]
    exact key s (by simp [rIntCut, byteIs, hc, of_decide_eq_false h2]) hs (fun h => h)
  ·have h1' : s.size = 0 := by have := of_decide_eq_false h1; clear key; omega
   simp -dsimp only [go_sem, gS, h1]
   exact key s (by simp [rIntCut, byteIs, h1']) hs (fun h => h)
 case rest =>
  intro d hd hdl hds
  have hbad : (d.size = 0 ∨ 19 < d.size ∨ (byteIs d 0 48 = true ∧ 1 < s.size)) → K (.tup [.d (.int .i64 0), .d (.bool false)]) H := by
   intro h; simpa only [rInt, hd, if_pos h] using hK
  have hone : byteIs d 0 48 = true → 1 < s.size → K (.tup [.d (.int .i64 0), .d (.bool false)]) H := fun a b => hbad (.inr (.inr ⟨a, b⟩))
  refine (fun (key2 : (¬ (d.size = 0 ∨ 19 < d.size ∨ (byteIs d 0 48 = true ∧ 1 < s.size))) → ?T2) => ?main2) ?rest2
  case main2 =>
   refine gif_split (fun h1 => ?_) (fun h1 => ?_)
   ·simp -dsimp only [go_sem, gS, h1]
    exact retW_is (hbad (.inl (by have := of_decide_eq_true h1; clear key2; omega)))
   ·have h1' : 0 < d.size := by have := of_decide_eq_false h1; clear key2; omega
    obtain ⟨c, hc⟩ := at_lt h1'
    simp -dsimp only [go_sem, gS, h1]
    refine gif_split (fun h2 => ?_) (fun h2 => ?_)
    ·simp -dsimp only [go_sem, gS, h2]
     exact retW_is (hbad (.inr (.inl (by have := of_decide_eq_true h2; clear key2; omega))))
    ·have h2' : ¬ 19 < d.size := by have := of_decide_eq_false h2; clear key2; omega
     simp -dsimp only [go_sem, gS, h2, t0, hc]
     refine gif_split (fun h3 => ?_) (fun h3 => ?_)
     ·have hb : byteIs d 0 48 = true := by simpa [byteIs, hc] using h3
      simp -dsimp only [go_sem, gS, h3]
      refine gif_split (fun h4 => ?_) (fun h4 => ?_)
      ·simp -dsimp only [go_sem, gS, h4]
       exact retW_is (hone hb (by have := of_decide_eq_true h4; clear key2; omega))
      ·have h4' : ¬ 1 < s.size := by have := of_decide_eq_false h4; clear key2; omega
       simp -dsimp only [go_sem, gS, h4]
       exact key2 (fun h => by rcases h with h | h | h; exact absurd h1' (by rw [h]; decide); exact h2' h; exact h4' h.2)
     ·have hb : byteIs d 0 48 = false := by simpa [byteIs, hc] using h3
      simp -dsimp only [go_sem, gS, h3]
      exact key2 (fun h => by rcases h with h | h | h; exact absurd h1' (by rw [h]; decide); exact h2' h; rw [hb] at h; cases h.1)
  case rest2 =>
   intro hgood
   simp only [rInt, hd, if_neg hgood] at hK
   have hpos : 0 < s.size := hds (by apply Classical.byContradiction; intro h; exact hgood (.inl (by omega)))
   obtain ⟨c0, hc0⟩ := at_lt hpos
   refine svc_loop (X := Nat × Int × Nat) (fun x => [(0, .d (.str s)), (4, .d (.str d)), (5, .d (.int .i64 x.2.1)), (6, .d (.int .i64 x.2.2))])
    (fun x G => G = H ∧ x.2.2 ≤ d.size ∧ d.size ≤ x.1 + x.2.2 ∧ rIntLoop d x.1 x.2.1 x.2.2 = rIntLoop d d.size 0 0) (fun x => x.1) (d.size, 0, 0) _ ⟨rfl, by simp, by simp, rfl⟩ (by simp -dsimp only [go_sem, gS]) (.refl _) ?_
   rintro ⟨k, n, i⟩ G ⟨rfl, hi, hk, hrun⟩
   simp only at hi hk hrun
   simp -dsimp only [go_sem, gS]
   refine gif_split (fun h1 => ?_) (fun h1 => ?_)
   ·have h1' : i < d.size := by have := of_decide_eq_true h1; omega
    obtain ⟨k, rfl⟩ : ∃ k', k = k' + 1 := ⟨k - 1, by omega⟩
    obtain ⟨c, hc⟩ := at_lt h1'
    have hw := wrapN (k := i) (by omega)
    have hx : IntKind.i64.wrap (IntKind.u8.wrap ((c.toNat : Int) - 48)) = xOf c := rfl
    simp only [rIntLoop, hc] at hrun
    have hstop : intStop n c = true → K (.tup [.d (.int .i64 0), .d (.bool false)]) G := fun h => by
     rw [if_pos h] at hrun; rw [← hrun] at hK; exact hK
    have hgo : intStop n c = false → rIntLoop d k (IntKind.i64.wrap (IntKind.i64.wrap (10 * n) - xOf c)) (i + 1) = rIntLoop d d.size 0 0 := fun h => by
     rw [if_neg (by simp [h])] at hrun; exact hrun
    simp -dsimp only [go_sem, gS, h1, hc, hx]
    refine gif_split (fun h2 => ?_) (fun h2 => ?_)
    ·simp -dsimp only [go_sem, gS, h2]
     exact retW_is (hstop (by simp [intStop, of_decide_eq_true h2]))
    ·simp -dsimp only [go_sem, gS, h2, hc]
     refine gif_split (fun h3 => ?_) (fun h3 => ?_)
     ·simp -dsimp only [go_sem, gS, h3]
      exact retW_is (hstop (by simp [intStop, of_decide_eq_true h3]))
     ·simp -dsimp only [go_sem, gS, h3]
      refine andK_split (by decide) ?_
      simp -dsimp only [go_sem, gS]
      refine gif_split (fun h4 => ?_) (fun h4 => ?_)
      ·simp -dsimp only [go_sem, gS, h4]
       exact retW_is (hstop (by simp [intStop, of_decide_eq_true h4]))
      ·simp -dsimp only [go_sem, gS, h4, hw]
       refine roundQ_next (k, IntKind.i64.wrap (IntKind.i64.wrap (10 * n) - xOf c), i + 1) G ⟨rfl, h1', by simp only; omega, hgo (by simp only [intStop, h2, h3, h4, Bool.or_false])⟩ (Nat.lt_succ_self k) (by simp -dsimp only [go_sem, gS]) (.refl _)
   ·have hfin : rIntLoop d d.size 0 0 = some n := by
     have h1' : d.size ≤ i := by have := of_decide_eq_false h1; omega
     rw [← hrun]
     cases k with
     | zero => rfl
     | succ k => simp [rIntLoop, Nat.not_lt.2 h1']
    rw [hfin] at hK
    simp only [byteIs, hc0] at hK
    simp -dsimp only [go_sem, gS, h1, t0, hc0]
    refine gif_split (fun h2 => ?_) (fun h2 => ?_)
    ·simp -dsimp only [go_sem, gS, h2]
     refine retW_is ?_
     rw [if_pos h2] at hK; exact hK
    ·rw [if_neg (by simp [h2])] at hK
     simp -dsimp only [go_sem, gS, h2]
     refine gif_split (fun h3 => ?_) (fun h3 => ?_)
     ·simp -dsimp only [go_sem, gS, h3]
      refine retW_is ?_
      rw [if_pos (of_decide_eq_true h3)] at hK; exact hK
     ·simp -dsimp only [go_sem, gS, h3]
      refine retW_is ?_
      rw [if_neg (of_decide_eq_false h3)] at hK; exact hK
end Go.Aug

/- Walks of ParM. -/
namespace Go.Aug
open Go.Proofs
set_option maxRecDepth 100000
set_option linter.unusedSimpArgs false
attribute [local irreducible] hid andK letA onSome onVar onArr arrOnly onInt onBool onTup idxA ldV ldD addO ofPart appTo fillL slA srcK nilQ retW gif sgd sguard svc sops sdops sagain aopO aLoad aStore aBin aUn aConv aLen aIndexAddr aIndex aIndexAddrS aIndexS aSlice aAppend aBuild aBuildSlice aMakeSlice aField aFieldOf aCallOp deepK deepL frzM putE newK newV growV ACall roundQ thenQ inBlockQ sret cnd szs nilC aLookup aMapUpdate aMakeMap
attribute [local go_sem] Int.natCast_zero
set_option maxHeartbeats 4000000 in
theorem word1_ok {eb : EbG} (H : Heap) (s : ByteArray) (p : Nat) (c : UInt8) (hs : s.size ≤ 16384) (hc : s[p]? = some c) (K : A → Heap → Prop) (hK : K (.tup [.d (rWord s p c).1.d, .d (.bool (rWord s p c).2)]) H) :
  ACall Tryd.prog (seatV eb) 33 [.d (.str s), .d (.int .i64 p)] H K := by
 have hpl : p < s.size := by
  apply Classical.byContradiction; intro hn
  simp [hn] at hc
 refine ACall.hp_start ?_
 refine ACall.by mixed fn33 (by simp) ?_
 conv in s33 => cbv
 refine svc_start ?_
 simp -dsimp only [go_sem, gS]
 refine newK_hp (fun b4 f4 => ?_)
 simp only [off_cons, off_nil] at f4
 simp -dsimp only [go_sem, gS, f4, hc]
 refine letter_ok _ c _ ?_
 cases hl : isLet c with
 | true =>
  simp only [rWord, hl, if_true, wordAl] at hK
  simp -dsimp only [go_sem, gS, f4]
  refine (fun (key : ∀ n, runTo (fun c => isLet c || isDig c) s s.size p = n → p ≤ n → n ≤ s.size → (?T1 : Nat → Prop) n) => ?main) ?rest
  case main =>
   refine svc_loop (X := Nat × Nat) (fun x => [(0, .d (.str s)), (1, .d (.int .i64 p)), (4, .ref b4 0), (6, .d (.int .u8 c.toNat)), (7, .d (.int .i64 x.2))])
    (fun x G => G = hp H [(b4, .var [.d (.int .i64 0), .d (.str ⟨#[]⟩), .d (.int .i64 0)])] ∧ p ≤ x.2 ∧ x.2 ≤ s.size ∧ s.size ≤ x.1 + x.2 ∧ runTo (fun c => isLet c || isDig c) s x.1 x.2 = runTo (fun c => isLet c || isDig c) s s.size p)
    (fun x => x.1) (s.size, p) _ ⟨rfl, Nat.le_refl _, Nat.le_of_lt hpl, by simp, rfl⟩ (by simp -dsimp only [go_sem, gS]) (.refl _) ?_
   rintro ⟨k, n⟩ G ⟨rfl, h1, h2, h3, hrun⟩
   simp only at h1 h2 h3 hrun
   simp -dsimp only [go_sem, gS]
   refine gif_split (fun g1 => ?_) (fun g1 => ?_)
   ·have g1' : n < s.size := by have := of_decide_eq_true g1; clear key; omega
    obtain ⟨d, hd⟩ := at_lt g1'
    obtain ⟨k, rfl⟩ : ∃ k', k = k' + 1 := ⟨k - 1, by clear key; omega⟩
    have hw := wrapN (k := n) (by clear key; omega)
    simp -dsimp only [go_sem, gS, g1, hd]
    refine letter_ok _ d _ ?_
    cases g2 : isLet d with
    | true =>
     simp -dsimp only [go_sem, gS, f4, hw]
     exact roundQ_next (k, n + 1) _ ⟨rfl, by clear key; simp only; omega, g1', by clear key; simp only; omega, by rw [← hrun]; simp [runTo, hd, g2]⟩ (Nat.lt_succ_self k) (by simp -dsimp only [go_sem, gS]) (.refl _)
    | false =>
     simp -dsimp only [go_sem, gS, f4, hd]
     refine digit_ok _ d _ ?_
     cases g3 : isDig d with
     | true =>
      simp -dsimp only [go_sem, gS, f4, hw]
      exact roundQ_next (k, n + 1) _ ⟨rfl, by clear key; simp only; omega, g1', by clear key; simp only; omega, by rw [← hrun]; simp [runTo, hd, g3]⟩ (Nat.lt_succ_self k) (by simp -dsimp only [go_sem, gS]) (.refl _)
     | false =>
      simp -dsimp only [go_sem, gS, f4]
      exact key n (by rw [← hrun]; exact runTo_no hd (by simp [g2, g3])) h1 h2
   ·have g1' : s.size ≤ n := by have := of_decide_eq_false g1; clear key; omega
    simp -dsimp only [go_sem, gS, g1]
    exact key n (by rw [← hrun]; exact runTo_end g1') h1 h2
  case rest =>
   intro n hn h1 h2
   rw [hn] at hK
   have hw : IntKind.i64.wrap ((n : Int) - (p : Int)) = ((n - p : Nat) : Int) := by rw [wrap64 (by omega) (by omega)]; omega
   have hcast : decide (((n - p : Nat) : Int) ≤ 32) = decide (n - p ≤ 32) := by simp only [decide_eq_decide]; omega
   have h2' : (n : Int).toNat ≤ s.size := by omega
   have h1' : (p : Int).toNat ≤ (n : Int).toNat := by omega
   have hkk : (isSmall c = true → K (.tup [.d (Tok.d ⟨1, s.extract p n, 0⟩), .d (.bool (decide (n - p ≤ 32)))]) H) ∧ (isSmall c = false → K (.tup [.d (Tok.d ⟨2, s.extract p n, 0⟩), .d (.bool (decide (n - p ≤ 32)))]) H) :=
    ⟨fun e => by rw [if_pos e] at hK; exact hK, fun e => by rw [if_neg (by simp [e])] at hK; exact hK⟩
   simp only [Tok.d, Tok.cs] at hkk
   try simp -dsimp only [go_sem, gS, f4]
   refine gif_split (fun g1 => ?_) (fun g1 => ?_)
   ·simp -dsimp only [go_sem, gS, g1]
    refine gif_split (fun g2 => ?_) (fun g2 => ?_)
    ·have hk := hkk.1 (by simp [isSmall, g1, g2])
     simp -dsimp only [go_sem, gS, g2]
     refine andK_split h2 ?_
     simp -dsimp only [go_sem, gS]
     refine andK_split h1 ?_
     simp -dsimp only [go_sem, gS, f4, hw]
     refine retW_drop (G := H) (leH_hp0 (by simp only [hpS, eq_self, implies_true, f4])) (retW_is ?_)
     rw [hcast]; exact hk
    ·have hk := hkk.2 (by simp [isSmall, g2])
     simp -dsimp only [go_sem, gS, g2]
     refine andK_split h2 ?_
     simp -dsimp only [go_sem, gS]
     refine andK_split h1 ?_
     simp -dsimp only [go_sem, gS, f4, hw]
     refine retW_drop (G := H) (leH_hp0 (by simp only [hpS, eq_self, implies_true, f4])) (retW_is ?_)
     rw [hcast]; exact hk
   ·have hk := hkk.2 (by simp [isSmall, g1])
    simp -dsimp only [go_sem, gS, g1]
    refine andK_split h2 ?_
    simp -dsimp only [go_sem, gS]
    refine andK_split h1 ?_
    simp -dsimp only [go_sem, gS, f4, hw]
    refine retW_drop (G := H) (leH_hp0 (by simp only [hpS, eq_self, implies_true, f4])) (retW_is ?_)
    rw [hcast]; exact hk
 | false =>
  simp -dsimp only [go_sem, gS, f4]
  refine digit_ok _ c _ ?_
  have hpp := wrapN (k := p) (by omega)
  refine (fun (key : (isDig c = true ∨ (c.toNat : Int) = 45) → (?T3 : Prop)) => ?main) ?rest
  case main =>
   cases hd : isDig c with
   | true =>
    simp -dsimp only [go_sem, gS, f4, hpp]
    refine svc_loop (X := Nat × Nat) (fun x => [(0, .d (.str s)), (1, .d (.int .i64 p)), (4, .ref b4 0), (7, .d (.int .i64 x.2))])
     (fun x G => G = hp H [(b4, .var [.d (.int .i64 0), .d (.str ⟨#[]⟩), .d (.int .i64 0)])] ∧ p < x.2 ∧ x.2 ≤ s.size ∧ s.size ≤ x.1 + x.2 ∧ runTo isDig s x.1 x.2 = runTo isDig s s.size (p + 1))
     (fun x => x.1) (s.size, p + 1) _ ⟨rfl, by simp, hpl, by simp, rfl⟩ (by simp -dsimp only [go_sem, gS]) (.refl _) ?_
    exact key (.inl hd)
   | false =>
    simp -dsimp only [go_sem, gS, f4]
    refine gif_split (fun g1 => ?_) (fun g1 => ?_)
    ·simp -dsimp only [go_sem, gS, g1, hpp]
     refine svc_loop (X := Nat × Nat) (fun x => [(0, .d (.str s)), (1, .d (.int .i64 p)), (4, .ref b4 0), (7, .d (.int .i64 x.2))])
      (fun x G => G = hp H [(b4, .var [.d (.int .i64 0), .d (.str ⟨#[]⟩), .d (.int .i64 0)])] ∧ p < x.2 ∧ x.2 ≤ s.size ∧ s.size ≤ x.1 + x.2 ∧ runTo isDig s x.1 x.2 = runTo isDig s s.size (p + 1))
      (fun x => x.1) (s.size, p + 1) _ ⟨rfl, by simp, hpl, by simp, rfl⟩ (by simp -dsimp only [go_sem, gS]) (.refl _) ?_
     exact key (.inr (of_decide_eq_true g1))
    ·have hno : ¬ (isDig c = true ∨ (c.toNat : Int) = 45) := by simp only [hd, Bool.false_eq_true, false_or]; exact of_decide_eq_false g1
     simp only [rWord, hl, Bool.false_eq_true, if_false, if_neg hno] at hK
     simp -dsimp only [go_sem, gS, g1]
     have hw1 : IntKind.i64.wrap ((s.size : Int) - 1) = (s.size : Int) - 1 := wrap64 (by omega) (by omega)
     refine (fun (key5 : ¬ ((c.toNat : Int) = 58 ∧ p + 1 < s.size ∧ byteIs s (p + 1) 45 = true) → (?T5 : Prop)) => ?main5) ?rest5
     case main5 =>
      refine gif_split (fun g2 => ?_) (fun g2 => ?_)
      ·simp -dsimp only [go_sem, gS, g2, hw1]
       refine gif_split (fun g3 => ?_) (fun g3 => ?_)
       ·have g3' : p + 1 < s.size := by have := of_decide_eq_true g3; clear key key5; omega
        obtain ⟨d, hd⟩ := at_lt g3'
        simp -dsimp only [go_sem, gS, g3, hpp, hd]
        refine gif_split (fun g4 => ?_) (fun g4 => ?_)
        ·have : ((c.toNat : Int) = 58 ∧ p + 1 < s.size ∧ byteIs s (p + 1) 45 = true) := ⟨of_decide_eq_true g2, g3', by simp [byteIs, hd, of_decide_eq_true g4]⟩
         rw [if_pos this] at hK
         simp -dsimp only [go_sem, gS, g4]
         exact retW_drop (G := H) (leH_hp0 (by simp only [hpS, eq_self, implies_true, f4])) (retW_is hK)
        ·simp -dsimp only [go_sem, gS, g4]
         exact key5 (fun h => by have := h.2.2; simp [byteIs, hd, of_decide_eq_false g4] at this)
       ·simp -dsimp only [go_sem, gS, g3]
        exact key5 (fun h => by have := of_decide_eq_false g3; have := h.2.1; clear key key5; omega)
      ·simp -dsimp only [go_sem, gS, g2]
       exact key5 (fun h => of_decide_eq_false g2 h.1)
     case rest5 =>
      intro h5
      rw [if_neg h5] at hK
      refine newK_hp (fun b5 f5 => ?_)
      simp only [off_cons, off_nil] at f5
      simp -dsimp only [go_sem, gS, f4, f5]
      refine aMark_intro (by simp only [hpS, eq_self, implies_true, f4, f5]; rfl) ?_
      simp -dsimp only [go_sem, gS, f4, f5]
      refine svc_loop (X := Nat) (fun k => [(0, .d (.str s)), (1, .d (.int .i64 p)), (4, .ref b4 0), (6, .d (.int .u8 c.toNat)), (119, .own b5 (litV b5 7)), (120, .d (.int .i64 7)), (121, .d (.int .i64 k))])
       (fun k G => G = hp H [(b4, .var [.d (.int .i64 0), .d (.str ⟨#[]⟩), .d (.int .i64 0)]), (b5, .frz (litV b5 7) (kMarks.map fun (m : Nat) => D.int .u8 m))] ∧ k ≤ 7 ∧ (kMarks.take k).contains c.toNat = false)
       (fun k => 7 - k) 0 _ ⟨rfl, by omega, rfl⟩ (by simp -dsimp only [go_sem, gS]; rfl) (.refl _) ?_
      rintro k G ⟨rfl, h1, h2⟩
      simp -dsimp only [go_sem, gS]
      refine gif_split (fun g1 => ?_) (fun g1 => ?_)
      ·have g1' : k < 7 := by have := of_decide_eq_true g1; omega
       obtain ⟨m, hm⟩ : ∃ m, kMarks[k]? = some m := ⟨_, List.getElem?_eq_getElem (show k < kMarks.length from g1')⟩
       have hmm : m ∈ kMarks := List.mem_of_getElem? hm
       have hwk := wrapN (k := k) (by omega)
       simp -dsimp only [go_sem, gS, g1, f4, f5, hm]
       refine gif_split (fun g2 => ?_) (fun g2 => ?_)
       ·have hin : kMarks.contains c.toNat = true := by
         have : m = c.toNat := by have := of_decide_eq_true g2; omega
         rw [← this]; simpa using hmm
        rw [if_pos hin] at hK
        simp -dsimp only [go_sem, gS, g2, hpp]
        refine andK_split (by omega) ?_
        simp -dsimp only [go_sem, gS, f4, f5]
        refine andK_split (by omega) ?_
        simp -dsimp only [go_sem, gS, f4, f5]
        exact retW_drop (G := H) (leH_hp0 (by simp only [hpS, eq_self, implies_true, f4, f5])) (retW_is hK)
       ·simp -dsimp only [go_sem, gS, g2, hwk]
        refine roundQ_next (k + 1) _ ⟨rfl, g1', ?_⟩ (by omega) (by simp -dsimp only [go_sem, gS]) (.refl _)
        have : m ≠ c.toNat := by have := of_decide_eq_false g2; omega
        rw [List.take_add_one, hm]
        simp only [List.contains_eq_mem, decide_eq_false_iff_not] at h2
        simp [h2, Ne.symm this]
      ·have hno : kMarks.contains c.toNat = false := by
        have : k = 7 := by have := of_decide_eq_false g1; omega
        subst this; exact h2
       rw [hno, if_neg (by decide)] at hK
       simp -dsimp only [go_sem, gS, g1, f4, f5]
       exact retW_drop (G := H) (leH_hp0 (by simp only [hpS, eq_self, implies_true, f4, f5])) (retW_is hK)
  case rest =>
   intro hyes
   rintro ⟨k, n⟩ G ⟨rfl, h1, h2, h3, hrun⟩
   simp only at h1 h2 h3 hrun
   simp only [rWord, hl, Bool.false_eq_true, if_false, if_pos hyes] at hK
   refine (fun (key2 : runTo isDig s s.size (p + 1) = n → (?T4 : Prop)) => ?main2) ?rest2
   case main2 =>
    simp -dsimp only [go_sem, gS]
    refine gif_split (fun g1 => ?_) (fun g1 => ?_)
    ·have g1' : n < s.size := by have := of_decide_eq_true g1; clear key2; omega
     obtain ⟨d, hd⟩ := at_lt g1'
     obtain ⟨k, rfl⟩ : ∃ k', k = k' + 1 := ⟨k - 1, by clear key2; omega⟩
     have hw := wrapN (k := n) (by clear key2; omega)
     simp -dsimp only [go_sem, gS, g1, hd]
     refine digit_ok _ d _ ?_
     cases g3 : isDig d with
     | true =>
      simp -dsimp only [go_sem, gS, f4, hw]
      exact roundQ_next (k, n + 1) _ ⟨rfl, by clear key2; simp only; omega, g1', by clear key2; simp only; omega, by rw [← hrun]; simp [runTo, hd, g3]⟩ (Nat.lt_succ_self k) (by simp -dsimp only [go_sem, gS]) (.refl _)
     | false =>
      simp -dsimp only [go_sem, gS, f4]
      exact key2 (by rw [← hrun]; exact runTo_no hd g3)
    ·have g1' : s.size ≤ n := by have := of_decide_eq_false g1; clear key2; omega
     simp -dsimp only [go_sem, gS, g1]
     exact key2 (by rw [← hrun]; exact runTo_end g1')
   case rest2 =>
    intro hn
    simp only [wordInt, hn] at hK
    have h2' : (n : Int).toNat ≤ s.size := by omega
    refine andK_split h2 ?_
    simp -dsimp only [go_sem, gS]
    refine andK_split (by omega) ?_
    simp -dsimp only [go_sem, gS]
    refine int_ok _ _ (by rw [ByteArray.size_extract]; omega) _ ?_
    generalize rInt (s.extract p n) = v at hK ⊢
    obtain ⟨v, ok⟩ := v
    have ha : n ≤ s.size := h2
    have hb : (p : Int).toNat ≤ (n : Int).toNat := by omega
    have hfin : ∀ b : Bool, (ok && (decide (n = s.size) || !letAt s n)) = b → K (.tup [.d (.agg [.int .i64 3, .str (s.extract p n), .int .i64 v]), .d (.bool b)]) H := fun b e => by
     rw [e] at hK; exact hK
    clear hK hrun hyes
    cases ok with
    | false =>
     have hK := hfin false rfl
     simp -dsimp only [go_sem, gS, f4]
     repeat' (first | (refine andK_split (by omega) ?_; (try simp -dsimp only [go_sem, gS, f4])) | (refine And.intro ?_ ?_ <;> (try simp -dsimp only [go_sem, gS, f4])))
     all_goals exact retW_drop (G := H) (leH_hp0 (by simp only [hpS, eq_self, implies_true, f4])) (retW_is hK)
    | true =>
     simp -dsimp only [go_sem, gS, f4]
     refine gif_split (fun g1 => ?_) (fun g1 => ?_)
     ·have g1' : n = s.size := by have := of_decide_eq_true g1; omega
      have hK := hfin true (by simp [g1'])
      simp -dsimp only [go_sem, gS, g1]
      repeat' (first | (refine andK_split (by omega) ?_; (try simp -dsimp only [go_sem, gS, f4, g1])) | (refine And.intro ?_ ?_ <;> (try simp -dsimp only [go_sem, gS, f4, g1])))
      all_goals exact retW_drop (G := H) (leH_hp0 (by simp only [hpS, eq_self, implies_true, f4])) (retW_is hK)
     ·have g1' : n < s.size := by have := of_decide_eq_false g1; omega
      obtain ⟨d, hd⟩ := at_lt g1'
      have hK := hfin (!isLet d) (by simp [letAt, hd, Nat.ne_of_lt g1'])
      simp -dsimp only [go_sem, gS, g1, hd]
      repeat' (first | (refine andK_split (by omega) ?_; (try simp -dsimp only [go_sem, gS, f4, g1, hd])) | (refine And.intro ?_ ?_ <;> (try simp -dsimp only [go_sem, gS, f4, g1, hd])) | (refine letter_ok _ d _ ?_; (try simp -dsimp only [go_sem, gS, f4, g1, hd])))
      all_goals exact retW_drop (G := H) (leH_hp0 (by simp only [hpS, eq_self, implies_true, f4])) (retW_is hK)
end Go.Aug

/- Walks of ParN. -/
namespace Go.Aug
open Go.Proofs
set_option maxRecDepth 100000
set_option linter.unusedSimpArgs false
attribute [local irreducible] hid andK letA onSome onVar onArr arrOnly onInt onBool onTup idxA ldV ldD addO ofPart appTo fillL slA srcK nilQ retW gif sgd sguard svc sops sdops sagain aopO aLoad aStore aBin aUn aConv aLen aIndexAddr aIndex aIndexAddrS aIndexS aSlice aAppend aBuild aBuildSlice aMakeSlice aField aFieldOf aCallOp deepK deepL frzM putE newK newV growV ACall roundQ thenQ inBlockQ sret cnd szs nilC aLookup aMapUpdate aMakeMap
attribute [local go_sem] Int.natCast_zero
structure AllJ (H : Heap) (s : ByteArray) (x : AllX) (G : Heap) : Prop where
 is : G = hp H [(x.b, .arr 3 1 x.v (x.pl.map (.int .i64))), (x.c, .arr 34 3 x.w (x.ts.map Tok.d))]
 f : (eqn x.b x.c = false ∧ eqn x.c x.b = false) ∧ H x.b = none ∧ H x.c = none
 v : x.v.ownBlock = some x.b ∧ x.w.ownBlock = some x.c
 le : x.p ≤ s.size ∧ s.size ≤ x.k + x.p
 len : x.pl.length ≤ x.p ∧ x.ts.length ≤ x.p
 run : rAll s x.k x.p x.cm x.pl x.ts = rAll s s.size 0 false [] []
set_option maxHeartbeats 4000000 in
theorem all_ok {eb : EbG} (H : Heap) (s : ByteArray) (hs : s.size ≤ 16384) (K : A → Heap → Prop)
  (hK : K (.tup [.d (.slice ((rAll s s.size 0 false [] []).1.map (.int .i64))), .d (.slice ((rAll s s.size 0 false [] []).2.1.map Tok.d)), .d (.bool (rAll s s.size 0 false [] []).2.2)]) H) :
  ACall Tryd.prog (seatV eb) 18 [.d (.str s)] H K := by
 refine ACall.hp_start ?_
 refine ACall.by mixed fn18 (by simp) ?_
 conv in s18 => cbv
 refine svc_start ?_
 simp -dsimp only [go_sem, gS]
 refine newV_hp (fun b5 v5 f5 w5 => ?_)
 simp only [off_cons, off_nil] at f5
 simp -dsimp only [go_sem, gS, f5]
 refine newV_hp (fun b6 v6 f6 w6 => ?_)
 simp only [off_cons, off_nil] at f6
 simp -dsimp only [go_sem, gS, f5, f6]
 refine svc_loop (X := AllX) (fun x => [(0, .d (.str s)), (5, .own x.b x.v), (6, .own x.c x.w), (7, .d (.bool x.cm)), (8, .d (.int .i64 x.p))])
  (AllJ H s) (fun x => x.k) ⟨s.size, 0, false, [], [], b5, v5, b6, v6⟩ _ ⟨rfl, by simp only [hpS, eq_self, implies_true, f5, f6], ⟨w5, w6⟩, by simp, by simp, rfl⟩ (by simp -dsimp only [go_sem, gS]) (.refl _) ?_
 rintro ⟨k, p, cm, pl, ts, b1, v1, b2, v2⟩ G hJ
 obtain ⟨hG, f, ⟨hv, hw⟩, ⟨hle, hk⟩, ⟨hpl, hts⟩, hrun⟩ := hJ
 simp only at hG f hv hw hle hk hpl hts hrun
 subst hG
 simp -dsimp only [go_sem, gS, f]
 refine gif_split (fun g1 => ?_) (fun g1 => ?_)
 ·have g1' : p < s.size := by have := of_decide_eq_true g1; omega
  obtain ⟨k, rfl⟩ : ∃ k', k = k' + 1 := ⟨k - 1, by omega⟩
  obtain ⟨ch, hc⟩ := at_lt g1'
  have hp1 := wrapN (k := p) (by omega)
  simp only [rAll, hc] at hrun
  have hnext : ∀ cm', rAll s k (p + 1) cm' pl ts = rAll s s.size 0 false [] [] → AllJ H s ⟨k, p + 1, cm', pl, ts, b1, v1, b2, v2⟩ (hp H [(b1, .arr 3 1 v1 (pl.map (.int .i64))), (b2, .arr 34 3 v2 (ts.map Tok.d))]) := fun cm' h =>
   ⟨rfl, f, ⟨hv, hw⟩, ⟨g1', by simp only; omega⟩, ⟨by simp only; omega, by simp only; omega⟩, h⟩
  simp -dsimp only [go_sem, gS, g1, hc]
  cases cm with
  | true =>
   simp only [if_true] at hrun
   simp -dsimp only [go_sem, gS, hp1]
   exact roundQ_next ⟨k, p + 1, _, pl, ts, b1, v1, b2, v2⟩ _ (hnext _ hrun) (Nat.lt_succ_self k) (by simp -dsimp only [go_sem, gS]) (.refl _)
  | false =>
   simp only [Bool.false_eq_true, if_false] at hrun
   have hblank : isBlank ch = true → AllJ H s ⟨k, p + 1, false, pl, ts, b1, v1, b2, v2⟩ (hp H [(b1, .arr 3 1 v1 (pl.map (.int .i64))), (b2, .arr 34 3 v2 (ts.map Tok.d))]) := fun h =>
    hnext _ (by rw [if_pos h] at hrun; exact hrun)
   simp -dsimp only [go_sem, gS]
   refine gif_split (fun g2 => ?_) (fun g2 => ?_)
   ·simp -dsimp only [go_sem, gS, g2, hp1]
    exact roundQ_next ⟨k, p + 1, false, pl, ts, b1, v1, b2, v2⟩ _ (hblank (by simp [isBlank, of_decide_eq_true g2])) (Nat.lt_succ_self k) (by simp -dsimp only [go_sem, gS]) (.refl _)
   simp -dsimp only [go_sem, gS, g2]
   refine gif_split (fun g3 => ?_) (fun g3 => ?_)
   ·simp -dsimp only [go_sem, gS, g3, hp1]
    exact roundQ_next ⟨k, p + 1, false, pl, ts, b1, v1, b2, v2⟩ _ (hblank (by simp [isBlank, of_decide_eq_true g3])) (Nat.lt_succ_self k) (by simp -dsimp only [go_sem, gS]) (.refl _)
   simp -dsimp only [go_sem, gS, g3]
   refine gif_split (fun g4 => ?_) (fun g4 => ?_)
   ·simp -dsimp only [go_sem, gS, g4, hp1]
    exact roundQ_next ⟨k, p + 1, false, pl, ts, b1, v1, b2, v2⟩ _ (hblank (by simp [isBlank, of_decide_eq_true g4])) (Nat.lt_succ_self k) (by simp -dsimp only [go_sem, gS]) (.refl _)
   simp -dsimp only [go_sem, gS, g4]
   refine gif_split (fun g5 => ?_) (fun g5 => ?_)
   ·simp -dsimp only [go_sem, gS, g5, hp1]
    exact roundQ_next ⟨k, p + 1, false, pl, ts, b1, v1, b2, v2⟩ _ (hblank (by simp [isBlank, of_decide_eq_true g5])) (Nat.lt_succ_self k) (by simp -dsimp only [go_sem, gS]) (.refl _)
   have hnb : ¬ isBlank ch = true := by simp [isBlank, of_decide_eq_false g2, of_decide_eq_false g3, of_decide_eq_false g4, of_decide_eq_false g5]
   rw [if_neg hnb] at hrun
   simp -dsimp only [go_sem, gS, g5]
   refine gif_split (fun g6 => ?_) (fun g6 => ?_)
   ·rw [if_pos (of_decide_eq_true g6)] at hrun
    simp -dsimp only [go_sem, gS, g6, hp1]
    exact roundQ_next ⟨k, p + 1, true, pl, ts, b1, v1, b2, v2⟩ _ (hnext _ hrun) (Nat.lt_succ_self k) (by simp -dsimp only [go_sem, gS]) (.refl _)
   rw [if_neg (of_decide_eq_false g6)] at hrun
   simp -dsimp only [go_sem, gS, g6]
   refine word1_ok _ s p ch hs hc _ ?_
   have hsz := rWord_size hc
   generalize rWord s p ch = tk at hrun hsz ⊢
   obtain ⟨⟨tkind, ttext, tint⟩, ok⟩ := tk
   simp -dsimp only [go_sem, gS, f, Tok.d, Tok.cs]
   refine newK_hp (fun b10 f10 => ?_)
   simp only [off_cons, off_nil] at f10
   simp -dsimp only [go_sem, gS, f, f10]
   cases ok with
   | false =>
    simp only [Bool.false_eq_true, if_false] at hrun
    rw [← hrun] at hK
    simp -dsimp only [go_sem, gS, f, f10]
    refine retW_tup [true, true, true] ?_
    simp -dsimp only [go_sem, gS, f, f10]
    exact retW_drop (G := H) (leH_hp0 (by simp only [hpS, eq_self, implies_true, f, f10])) (retW_is hK)
   | true =>
    simp only [if_true] at hrun hsz
    obtain ⟨hz1, hz2⟩ := hsz trivial
    simp -dsimp only [go_sem, gS, f, f10]
    refine And.intro ?_ ?_
    ·refine newV_hp (fun b33 v33 f33 w33 => ?_)
     simp only [off_cons, off_nil] at f33
     simp -dsimp only [go_sem, gS, f, f10, f33]
     refine And.intro ?_ ?_
     ·refine andK_split (by omega) ?_
      refine growV_hp (b0 := b1) (by simp only [hpS, eq_self, implies_true, f, f10, f33]) (by simp only [hpS, eq_self, implies_true, f, f10, f33]) (fun b34 v34 f34 w34 => ?_)
      simp only [delL_cons, delL_nil, eqn_self, cnd_true, cnd_false, off_cons, off_nil, f, f10, f33] at f34
      simp -dsimp only [go_sem, gS, f, f10, f33, f34]
      refine newV_hp (fun b37 v37 f37 w37 => ?_)
      simp only [off_cons, off_nil] at f37
      simp -dsimp only [go_sem, gS, f, f10, f33, f34, f37]
      refine andK_split (by omega) ?_
      refine growV_hp (b0 := b2) (by simp only [hpS, eq_self, implies_true, f, f10, f33, f34, f37]) (by simp only [hpS, eq_self, implies_true, f, f10, f33, f34, f37]) (fun b38 v38 f38 w38 => ?_)
      simp only [delL_cons, delL_nil, eqn_self, cnd_true, cnd_false, off_cons, off_nil, f, f10, f33, f34, f37] at f38
      simp -dsimp only [go_sem, gS, f, f10, f33, f34, f37, f38]
      have hw34 : IntKind.i64.wrap ((p : Int) + (ttext.size : Int)) = ((p + ttext.size : Nat) : Int) := by rw [wrap64 (by omega) (by omega)]; omega
      simp -dsimp only [go_sem, gS, f, f10, f33, f34, f37, f38, hw34]
      refine roundQ_next ⟨k, p + ttext.size, false, pl ++ [(p : Int)], ts ++ [Tok.mk tkind ttext tint], b34, v34, b38, v38⟩ (hp H [(b34, .arr 3 1 v34 ((pl ++ [(p : Int)]).map (.int .i64))), (b38, .arr 34 3 v38 ((ts ++ [Tok.mk tkind ttext tint]).map Tok.d))])
       ⟨rfl, by simp only [hpS, eq_self, implies_true, f, f10, f33, f34, f37, f38], ⟨w34, w38⟩, ⟨hz2, by simp only; omega⟩, ⟨by simp only [List.length_append, List.length_cons, List.length_nil]; omega, by simp only [List.length_append, List.length_cons, List.length_nil]; omega⟩, hrun⟩ (Nat.lt_succ_self k) (by simp -dsimp only [go_sem, gS]) ?_
      simp only [List.map_append, List.map_cons, List.map_nil, Tok.d, Tok.cs]
      exact (leH_hp (by simp only [hpS, eq_self, implies_true, f, f10, f33, f34, f37, f38]) (by simp only [hpS, eq_self, implies_true, f, f10, f33, f34, f37, f38]))
     ·refine newV_hp (fun b37 v37 f37 w37 => ?_)
      simp only [off_cons, off_nil] at f37
      simp -dsimp only [go_sem, gS, f, f10, f33, f37]
      refine andK_split (by omega) ?_
      refine growV_hp (b0 := b1) (by simp only [hpS, eq_self, implies_true, f, f10, f33, f37]) (by simp only [hpS, eq_self, implies_true, f, f10, f33, f37]) (fun b34 v34 f34 w34 => ?_)
      simp only [delL_cons, delL_nil, eqn_self, cnd_true, cnd_false, off_cons, off_nil, f, f10, f33, f37] at f34
      simp -dsimp only [go_sem, gS, f, f10, f33, f37, f34]
      refine andK_split (by omega) ?_
      refine growV_hp (b0 := b2) (by simp only [hpS, eq_self, implies_true, f, f10, f33, f37, f34]) (by simp only [hpS, eq_self, implies_true, f, f10, f33, f37, f34]) (fun b38 v38 f38 w38 => ?_)
      simp only [delL_cons, delL_nil, eqn_self, cnd_true, cnd_false, off_cons, off_nil, f, f10, f33, f37, f34] at f38
      simp -dsimp only [go_sem, gS, f, f10, f33, f37, f34, f38]
      have hw34 : IntKind.i64.wrap ((p : Int) + (ttext.size : Int)) = ((p + ttext.size : Nat) : Int) := by rw [wrap64 (by omega) (by omega)]; omega
      simp -dsimp only [go_sem, gS, f, f10, f33, f37, f34, f38, hw34]
      refine roundQ_next ⟨k, p + ttext.size, false, pl ++ [(p : Int)], ts ++ [Tok.mk tkind ttext tint], b34, v34, b38, v38⟩ (hp H [(b34, .arr 3 1 v34 ((pl ++ [(p : Int)]).map (.int .i64))), (b38, .arr 34 3 v38 ((ts ++ [Tok.mk tkind ttext tint]).map Tok.d))])
       ⟨rfl, by simp only [hpS, eq_self, implies_true, f, f10, f33, f37, f34, f38], ⟨w34, w38⟩, ⟨hz2, by simp only; omega⟩, ⟨by simp only [List.length_append, List.length_cons, List.length_nil]; omega, by simp only [List.length_append, List.length_cons, List.length_nil]; omega⟩, hrun⟩ (Nat.lt_succ_self k) (by simp -dsimp only [go_sem, gS]) ?_
      simp only [List.map_append, List.map_cons, List.map_nil, Tok.d, Tok.cs]
      exact (leH_hp (by simp only [hpS, eq_self, implies_true, f, f10, f33, f37, f34, f38]) (by simp only [hpS, eq_self, implies_true, f, f10, f33, f37, f34, f38]))
    ·refine newV_hp (fun b37 v37 f37 w37 => ?_)
     simp only [off_cons, off_nil] at f37
     simp -dsimp only [go_sem, gS, f, f10, f37]
     refine newV_hp (fun b33 v33 f33 w33 => ?_)
     simp only [off_cons, off_nil] at f33
     simp -dsimp only [go_sem, gS, f, f10, f37, f33]
     refine andK_split (by omega) ?_
     refine growV_hp (b0 := b1) (by simp only [hpS, eq_self, implies_true, f, f10, f37, f33]) (by simp only [hpS, eq_self, implies_true, f, f10, f37, f33]) (fun b34 v34 f34 w34 => ?_)
     simp only [delL_cons, delL_nil, eqn_self, cnd_true, cnd_false, off_cons, off_nil, f, f10, f37, f33] at f34
     simp -dsimp only [go_sem, gS, f, f10, f37, f33, f34]
     refine andK_split (by omega) ?_
     refine growV_hp (b0 := b2) (by simp only [hpS, eq_self, implies_true, f, f10, f37, f33, f34]) (by simp only [hpS, eq_self, implies_true, f, f10, f37, f33, f34]) (fun b38 v38 f38 w38 => ?_)
     simp only [delL_cons, delL_nil, eqn_self, cnd_true, cnd_false, off_cons, off_nil, f, f10, f37, f33, f34] at f38
     simp -dsimp only [go_sem, gS, f, f10, f37, f33, f34, f38]
     have hw34 : IntKind.i64.wrap ((p : Int) + (ttext.size : Int)) = ((p + ttext.size : Nat) : Int) := by rw [wrap64 (by omega) (by omega)]; omega
     simp -dsimp only [go_sem, gS, f, f10, f37, f33, f34, f38, hw34]
     refine roundQ_next ⟨k, p + ttext.size, false, pl ++ [(p : Int)], ts ++ [Tok.mk tkind ttext tint], b34, v34, b38, v38⟩ (hp H [(b34, .arr 3 1 v34 ((pl ++ [(p : Int)]).map (.int .i64))), (b38, .arr 34 3 v38 ((ts ++ [Tok.mk tkind ttext tint]).map Tok.d))])
      ⟨rfl, by simp only [hpS, eq_self, implies_true, f, f10, f37, f33, f34, f38], ⟨w34, w38⟩, ⟨hz2, by simp only; omega⟩, ⟨by simp only [List.length_append, List.length_cons, List.length_nil]; omega, by simp only [List.length_append, List.length_cons, List.length_nil]; omega⟩, hrun⟩ (Nat.lt_succ_self k) (by simp -dsimp only [go_sem, gS]) ?_
     simp only [List.map_append, List.map_cons, List.map_nil, Tok.d, Tok.cs]
     exact (leH_hp (by simp only [hpS, eq_self, implies_true, f, f10, f37, f33, f34, f38]) (by simp only [hpS, eq_self, implies_true, f, f10, f37, f33, f34, f38]))
 ·have hfin : rAll s s.size 0 false [] [] = (pl, ts, true) := by
   have h1' : s.size ≤ p := by have := of_decide_eq_false g1; omega
   rw [← hrun]
   cases k with
   | zero => rfl
   | succ k => simp [rAll, Nat.not_lt.2 h1']
  rw [hfin] at hK
  simp -dsimp only [go_sem, gS, g1]
  refine retW_tup [true, true, true] ?_
  simp -dsimp only [go_sem, gS, f]
  exact retW_drop (G := H) (leH_hp0 (by simp only [hpS, eq_self, implies_true, f])) (retW_is hK)

theorem lex_ok {eb : EbG} (H : Heap) (s : ByteArray) (K : A → Heap → Prop) (hK : K (.tup [.d (.slice ((rlex s).1.map Tok.d)), .d (.int .i64 (rlex s).2)]) H) :
  ACall Tryd.prog (seatV eb) 10 [.d (.str s)] H K := by
 refine ACall.by mixed fn10 (by simp) ?_
 conv in s10 => cbv
 refine svc_start ?_
 simp -dsimp only [go_sem, gS]
 refine gif_split (fun g1 => ?_) (fun g1 => ?_)
 ·have g1' : 16384 < s.size := by have := of_decide_eq_true g1; omega
  simp only [rlex, if_pos g1'] at hK
  simp -dsimp only [go_sem, gS, g1]
  refine retW_tup [true, true] ?_
  simp -dsimp only [go_sem, gS]
  exact retW_is hK
 ·have g1' : ¬ 16384 < s.size := by have := of_decide_eq_false g1; omega
  simp only [rlex, if_neg g1'] at hK
  simp -dsimp only [go_sem, gS, g1]
  refine all_ok _ s (by omega) _ ?_
  generalize rAll s s.size 0 false [] [] = x at hK ⊢
  obtain ⟨pl, ts, ok⟩ := x
  simp -dsimp only [go_sem, gS]
  cases ok with
  | true =>
   simp only [if_true] at hK
   simp -dsimp only [go_sem, gS]
   exact retW_is hK
  | false =>
   simp only [Bool.false_eq_true, if_false] at hK
   simp -dsimp only [go_sem, gS]
   refine retW_tup [true, true] ?_
   simp -dsimp only [go_sem, gS]
   exact retW_is hK
end Go.Aug
