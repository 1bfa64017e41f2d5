/- The facts of the program's functions, and the contracts of the reference's tokens and parser; conditions stand in each contract. -/
import Derived.Test.YtejfagblpbmokaaDoorParserOne
import Derived.Test.YtejfagblpbmokaaDoorAugFive
set_option linter.all false
set_option linter.unusedVariables false
set_option linter.unusedSimpArgs false
set_option linter.unusedSectionVars false

/- The reference's reader: its tokens, and the small steps over them. -/
namespace Go.Aug
open Nat renaming reduceBEq → zA, reduceLT → zB, reduceAdd → zC, reduceSub → zD, reduceMul → zE, reduceLeDiff → zF
open Int renaming reduceLE → zG
open Go.Proofs
set_option maxRecDepth 100000
set_option linter.unusedSimpArgs false
attribute [local irreducible] hid andK letA onSome onVar onArr arrOnly onInt onBool onFunc onTup idxA ldV ldD addO appTo fillL slA srcK nilQ retW gif sgd sguard svc sops sdops sagain aopO aLoad aStore aBin aUn aConv aLen aIndexAddr aIndex aIndexAddrS aIndexS aSlice aAppend aBuild aBuildSlice aMakeSlice aField aFieldOf aCallOp deepK deepL frzM putE newK newV growV ACall roundQ thenQ inBlockQ sret cnd szs nilC onMap onRow aLookup aMapUpdate aMakeMap
attribute [local go_sem] Int.natCast_zero
structure Tok where
 kind : Int
 text : ByteArray
 int : Int
 deriving DecidableEq, Inhabited
def Tok.cs (t : Tok) : List D := [.int .i64 t.kind, .str t.text, .int .i64 t.int]
def Tok.d (t : Tok) : D := .agg t.cs
structure RdS where
 pos : Nat
 err : Int
abbrev rdA (l : List Tok) (s : RdS) : List A := [.d (.slice (l.map Tok.d)), .d (.int .i64 s.pos), .d (.int .i64 s.err)]
def rend (l : List Tok) (s : RdS) : Bool := !decide (s.err = 0) || decide (l.length ≤ s.pos)
def rfail (e : Int) (s : RdS) : RdS := if s.err = 0 then ⟨s.pos, e⟩ else s
def ris (l : List Tok) (t : ByteArray) (s : RdS) : Bool := !rend l s && match l[s.pos]? with
 | some k => decide (k.text = t) && (decide (k.kind = 1) || decide (k.kind = 4))
 | none => false
def rgot (l : List Tok) (t : ByteArray) (s : RdS) : Bool × RdS := if ris l t s = true then (true, ⟨s.pos + 1, s.err⟩) else (false, s)
def rneed (l : List Tok) (t : ByteArray) (s : RdS) : RdS := if s.err = 0 then (if (rgot l t s).1 = true then (rgot l t s).2 else rfail 2 (rgot l t s).2) else s
def rnest (l : List Tok) (n : Nat) (s : RdS) : RdS := if 64 < n ∧ rend l s = false then rfail 3 s else s
theorem wrapN {k : Nat} (h : k < 1099511627776) : IntKind.i64.wrap ((k : Int) + 1) = ((k + 1 : Nat) : Int) := by rw [wrap64 (by omega) (by omega)]; omega
theorem upd_self {H : Heap} {r : Nat} {o : AObj} (h : H r = some o) : upd H r o = H := by
 funext k; unfold upd; split
 ·rename_i e; subst e; exact h.symm
 ·rfl
/-- A reader in memory. -/
structure RdAt (H : Heap) (r : Nat) (l : List Tok) (s : RdS) : Prop where
 at_ : H r = some (.var (rdA l s))
 short : l.length < 1073741824
 le : s.pos ≤ l.length
def rset (H : Heap) (r : Nat) (l : List Tok) (s : RdS) : Heap := upd H r (.var (rdA l s))
theorem RdAt.self {H : Heap} {r : Nat} {l : List Tok} {s : RdS} (h : RdAt H r l s) : rset H r l s = H := upd_self h.at_
theorem RdAt.to {H : Heap} {r : Nat} {l : List Tok} {s : RdS} (h : RdAt H r l s) {s' : RdS} (hs : s'.pos ≤ l.length) : RdAt (rset H r l s') r l s' := ⟨upd_same .., h.short, hs⟩
theorem rset_rset {H : Heap} {r : Nat} {l : List Tok} {s s' : RdS} : rset (rset H r l s) r l s' = rset H r l s' := upd_upd
@[go_sem] theorem rset_hp {R : Heap} {lst : List (Nat × AObj)} {r : Nat} {l : List Tok} {s : RdS} : rset (hp R lst) r l s = hp R (setL r (.var (rdA l s)) lst) := upd_hp
theorem RdAt.len {H H' : Heap} {r : Nat} {l : List Tok} {s s' : RdS} (h : RdAt H r l s) (hs : s'.pos ≤ l.length) (ha : H' r = some (.var (rdA l s'))) : RdAt H' r l s' := ⟨ha, h.short, hs⟩
theorem rend_tok {l : List Tok} {s : RdS} (h : rend l s = false) : s.err = 0 ∧ s.pos < l.length ∧ ∃ k, l[s.pos]? = some k := by
 simp [rend] at h
 exact ⟨h.1, h.2, l[s.pos], by simp [h.2]⟩
theorem end_ok {eb : EbG} (H : Heap) (r : Nat) (l : List Tok) (s : RdS) (h : RdAt H r l s) (K : A → Heap → Prop) (hK : K (.d (.bool (rend l s))) H) : ACall Tryd.prog (seatV eb) 59 [.ref r 0] H K := by
 have hr := h.at_
 have hK' : K (.d (.bool (!decide (s.err = 0) || decide (l.length ≤ s.pos)))) H := hK
 refine ACall.by mixed fn59 (by simp) ?_
 conv in s59 => cbv
 refine svc_start ?_
 simp -dsimp (maxDischargeDepth := 9) only [go_sem, zA, zB, zC, zD, zE, zF, zG, gS, hr, rdA]
 refine gif_split (fun h1 => ?_) (fun h1 => ?_)
 ·simp -dsimp (maxDischargeDepth := 9) only [go_sem, zA, zB, zC, zD, zE, zF, zG, gS, h1]
  refine retW_is ?_
  simpa [h1] using hK'
 ·simp -dsimp (maxDischargeDepth := 9) only [go_sem, zA, zB, zC, zD, zE, zF, zG, gS, h1, hr, rdA]
  refine retW_is ?_
  simpa [h1] using hK'
theorem fail_ok {eb : EbG} (H : Heap) (r : Nat) (l : List Tok) (s : RdS) (e : Int) (h : RdAt H r l s) (K : A → Heap → Prop) (hK : K (.tup []) (rset H r l (rfail e s))) : ACall Tryd.prog (seatV eb) 60 [.ref r 0, .d (.int .i64 e)] H K := by
 have hr := h.at_
 refine ACall.by mixed fn60 (by simp) ?_
 conv in s60 => cbv
 refine svc_start ?_
 simp -dsimp (maxDischargeDepth := 9) only [go_sem, zA, zB, zC, zD, zE, zF, zG, gS, hr, rdA]
 refine gif_split (fun h1 => ?_) (fun h1 => ?_)
 ·simp -dsimp (maxDischargeDepth := 9) only [go_sem, zA, zB, zC, zD, zE, zF, zG, gS, h1, hr, rdA]
  refine retW_is ?_
  have h1' : s.err = 0 := by simpa using h1
  simpa [rfail, h1', rset, rdA] using hK
 ·simp -dsimp (maxDischargeDepth := 9) only [go_sem, zA, zB, zC, zD, zE, zF, zG, gS, h1]
  refine retW_is ?_
  have h1' : ¬ s.err = 0 := by simpa using h1
  simpa [rfail, h1', h.self] using hK
theorem is_ok {eb : EbG} (H : Heap) (r : Nat) (l : List Tok) (s : RdS) (t : ByteArray) (h : RdAt H r l s) (K : A → Heap → Prop) (hK : K (.d (.bool (ris l t s))) H) : ACall Tryd.prog (seatV eb) 138 [.ref r 0, .d (.str t)] H K := by
 have hr := h.at_
 refine ACall.by mixed fn138 (by simp) ?_
 conv in s138 => cbv
 refine svc_start ?_
 simp -dsimp (maxDischargeDepth := 9) only [go_sem, zA, zB, zC, zD, zE, zF, zG, gS]
 refine end_ok _ r l s h _ ?_
 cases he : rend l s with
 | true =>
  simp -dsimp (maxDischargeDepth := 9) only [go_sem, zA, zB, zC, zD, zE, zF, zG, gS]
  refine retW_is ?_
  simpa [ris, he] using hK
 | false =>
  obtain ⟨h0, hlt, k, hk⟩ := rend_tok he
  simp -dsimp (maxDischargeDepth := 9) only [go_sem, zA, zB, zC, zD, zE, zF, zG, gS, hr, rdA, hk, hlt, Tok.d, Tok.cs]
  refine gif_split (fun h1 => ?_) (fun h1 => ?_)
  ·simp -dsimp (maxDischargeDepth := 9) only [go_sem, zA, zB, zC, zD, zE, zF, zG, gS, h1, hr, rdA, hk, hlt, Tok.d, Tok.cs]
   refine gif_split (fun h2 => ?_) (fun h2 => ?_)
   ·simp -dsimp (maxDischargeDepth := 9) only [go_sem, zA, zB, zC, zD, zE, zF, zG, gS, h2]
    refine retW_is ?_
    simpa [ris, he, hk, h1, h2] using hK
   ·simp -dsimp (maxDischargeDepth := 9) only [go_sem, zA, zB, zC, zD, zE, zF, zG, gS, h2, hr, rdA, hk, hlt, Tok.d, Tok.cs]
    refine retW_is ?_
    simpa [ris, he, hk, h1, h2] using hK
  ·simp -dsimp (maxDischargeDepth := 9) only [go_sem, zA, zB, zC, zD, zE, zF, zG, gS, h1]
   refine retW_is ?_
   simpa [ris, he, hk, h1] using hK
end Go.Aug

/- The reference's lexer: a word. -/
namespace Go.Aug
open Nat renaming reduceBEq → zA, reduceLT → zB, reduceAdd → zC, reduceSub → zD, reduceMul → zE, reduceLeDiff → zF
open Int renaming reduceLE → zG
open Go.Proofs
set_option maxRecDepth 100000
set_option linter.unusedSimpArgs false
attribute [local irreducible] hid andK letA onSome onVar onArr arrOnly onInt onBool onFunc onTup idxA ldV ldD addO appTo fillL slA srcK nilQ retW gif sgd sguard svc sops sdops sagain aopO aLoad aStore aBin aUn aConv aLen aIndexAddr aIndex aIndexAddrS aIndexS aSlice aAppend aBuild aBuildSlice aMakeSlice aField aFieldOf aCallOp deepK deepL frzM putE newK newV growV ACall roundQ thenQ inBlockQ sret cnd szs nilC onMap onRow aLookup aMapUpdate aMakeMap
attribute [local go_sem] Int.natCast_zero
def isDig (c : UInt8) : Bool := decide ((48 : Int) ≤ (c.toNat : Int)) && decide ((c.toNat : Int) ≤ 57)
def isSmall (c : UInt8) : Bool := decide ((97 : Int) ≤ (c.toNat : Int)) && decide ((c.toNat : Int) ≤ 122)
def isLet (c : UInt8) : Bool := isSmall c || (decide ((65 : Int) ≤ (c.toNat : Int)) && decide ((c.toNat : Int) ≤ 90)) || decide ((c.toNat : Int) = 95)
theorem digit_ok {eb : EbG} (H : Heap) (c : UInt8) (K : A → Heap → Prop) (hK : K (.d (.bool (isDig c))) H) : ACall Tryd.prog (seatV eb) 146 [.d (.int .u8 c.toNat)] H K := by
 refine ACall.by mixed fn146 (by simp) ?_
 conv in s146 => cbv
 refine svc_start ?_
 simp -dsimp (maxDischargeDepth := 9) only [go_sem, zA, zB, zC, zD, zE, zF, zG, gS]
 repeat' (first | (refine gif_split (fun h => ?_) (fun h => ?_) <;> (try simp -dsimp (maxDischargeDepth := 9) only [go_sem, zA, zB, zC, zD, zE, zF, zG, gS, *])) | (refine newV_intro (fun b v hb hn hm hv => ?_); (try simp -dsimp (maxDischargeDepth := 9) only [go_sem, zA, zB, zC, zD, zE, zF, zG, gS, *])) | (refine newK_intro (fun b hb hn hm => ?_); (try simp -dsimp (maxDischargeDepth := 9) only [go_sem, zA, zB, zC, zD, zE, zF, zG, gS, *])) | (refine growV_intro (fun b v hb hn hm hv => ?_); (try simp -dsimp (maxDischargeDepth := 9) only [go_sem, zA, zB, zC, zD, zE, zF, zG, gS, *])) | (refine andK_split (by omega) ?_; (try simp -dsimp (maxDischargeDepth := 9) only [go_sem, zA, zB, zC, zD, zE, zF, zG, gS, *])) | (refine nilQ_intro ?_ (fun h => ?_) <;> (try simp -dsimp (maxDischargeDepth := 9) only [go_sem, zA, zB, zC, zD, zE, zF, zG, gS, *])) | (refine And.intro ?_ ?_ <;> (try simp -dsimp (maxDischargeDepth := 9) only [go_sem, zA, zB, zC, zD, zE, zF, zG, gS, *])) | (refine (fun (v : Value) (hv : v.ownBlock = some _) => ?_); (try simp -dsimp (maxDischargeDepth := 9) only [go_sem, zA, zB, zC, zD, zE, zF, zG, gS, *])))
 all_goals refine retW_is ?_
 all_goals simp_all [isDig]
theorem letter_ok {eb : EbG} (H : Heap) (c : UInt8) (K : A → Heap → Prop) (hK : K (.d (.bool (isLet c))) H) : ACall Tryd.prog (seatV eb) 145 [.d (.int .u8 c.toNat)] H K := by
 refine ACall.by mixed fn145 (by simp) ?_
 conv in s145 => cbv
 refine svc_start ?_
 simp -dsimp (maxDischargeDepth := 9) only [go_sem, zA, zB, zC, zD, zE, zF, zG, gS]
 repeat' (first | (refine gif_split (fun h => ?_) (fun h => ?_) <;> (try simp -dsimp (maxDischargeDepth := 9) only [go_sem, zA, zB, zC, zD, zE, zF, zG, gS, *])) | (refine newV_intro (fun b v hb hn hm hv => ?_); (try simp -dsimp (maxDischargeDepth := 9) only [go_sem, zA, zB, zC, zD, zE, zF, zG, gS, *])) | (refine newK_intro (fun b hb hn hm => ?_); (try simp -dsimp (maxDischargeDepth := 9) only [go_sem, zA, zB, zC, zD, zE, zF, zG, gS, *])) | (refine growV_intro (fun b v hb hn hm hv => ?_); (try simp -dsimp (maxDischargeDepth := 9) only [go_sem, zA, zB, zC, zD, zE, zF, zG, gS, *])) | (refine andK_split (by omega) ?_; (try simp -dsimp (maxDischargeDepth := 9) only [go_sem, zA, zB, zC, zD, zE, zF, zG, gS, *])) | (refine nilQ_intro ?_ (fun h => ?_) <;> (try simp -dsimp (maxDischargeDepth := 9) only [go_sem, zA, zB, zC, zD, zE, zF, zG, gS, *])) | (refine And.intro ?_ ?_ <;> (try simp -dsimp (maxDischargeDepth := 9) only [go_sem, zA, zB, zC, zD, zE, zF, zG, gS, *])) | (refine (fun (v : Value) (hv : v.ownBlock = some _) => ?_); (try simp -dsimp (maxDischargeDepth := 9) only [go_sem, zA, zB, zC, zD, zE, zF, zG, gS, *])))
 all_goals refine retW_is ?_
 all_goals simp_all [isLet, isSmall]
def xOf (c : UInt8) : Int := IntKind.i64.wrap (IntKind.u8.wrap ((c.toNat : Int) - 48))
def intStop (n : Int) (c : UInt8) : Bool := decide ((c.toNat : Int) < 48) || decide ((57 : Int) < (c.toNat : Int)) || decide (n < IntKind.i64.wrap (Int.tdiv (IntKind.i64.wrap (-9223372036854775808 + xOf c)) 10))
def rIntLoop (d : ByteArray) : Nat → Int → Nat → Option Int
 | 0, n, _ => some n
 | k + 1, n, i => match d[i]? with
  | none => some n
  | some c => if intStop n c = true then none else rIntLoop d k (IntKind.i64.wrap (IntKind.i64.wrap (10 * n) - xOf c)) (i + 1)
def byteIs (s : ByteArray) (n : Nat) (c : Int) : Bool := match s[n]? with
 | some b => decide ((b.toNat : Int) = c)
 | none => false
def rIntCut (s : ByteArray) : ByteArray := if byteIs s 0 45 = true then s.extract 1 s.size else s
def rInt (s : ByteArray) : Int × Bool :=
 if (rIntCut s).size = 0 ∨ 19 < (rIntCut s).size ∨ (byteIs (rIntCut s) 0 48 = true ∧ 1 < s.size) then (0, false)
 else match rIntLoop (rIntCut s) (rIntCut s).size 0 0 with
  | none => (0, false)
  | some n => if byteIs s 0 45 = true then (n, true) else if n = -9223372036854775808 then (0, false) else (IntKind.i64.wrap (0 - n), true)
theorem at_lt {s : ByteArray} {n : Nat} (h : n < s.size) : ∃ c, s[n]? = some c := ⟨s[n], by simp [h]⟩
set_option maxHeartbeats 2000000 in
theorem int_ok {eb : EbG} (H : Heap) (s : ByteArray) (hs : s.size ≤ 16384) (K : A → Heap → Prop) (hK : K (.tup [.d (.int .i64 (rInt s).1), .d (.bool (rInt s).2)]) H) : ACall Tryd.prog (seatV eb) 147 [.d (.str s)] H K := by
 have t0 : Int.toNat 0 = 0 := rfl
 have t1 : Int.toNat 1 = 1 := rfl
 refine ACall.by mixed fn147 (by simp) ?_
 conv in s147 => cbv
 refine svc_start ?_
 simp -dsimp (maxDischargeDepth := 9) only [go_sem, zA, zB, zC, zD, zE, zF, zG, gS]
 refine (fun (key : ∀ (d : ByteArray), rIntCut s = d → d.size ≤ 16384 → (0 < d.size → 0 < s.size) → (?T : ByteArray → Prop) d) => ?main) ?rest
 case main =>
  refine gif_split (fun h1 => ?_) (fun h1 => ?_)
  ·have h1' : 0 < s.size := by have := of_decide_eq_true h1; clear key; omega
   obtain ⟨c, hc⟩ := at_lt h1'
   simp -dsimp (maxDischargeDepth := 9) only [go_sem, zA, zB, zC, zD, zE, zF, zG, gS, h1, t0, hc]
   refine gif_split (fun h2 => ?_) (fun h2 => ?_)
   ·simp -dsimp (maxDischargeDepth := 9) only [go_sem, zA, zB, zC, zD, zE, zF, zG, gS, h2, t1]
    refine andK_split h1' ?_
    simp -dsimp (maxDischargeDepth := 9) only [go_sem, zA, zB, zC, zD, zE, zF, zG, gS, h2, t1]
    have e : rIntCut s = s.extract 1 s.size := by simp [rIntCut, byteIs, hc, of_decide_eq_true h2]
    have hl : (s.extract 1 s.size).size ≤ 16384 := by rw [ByteArray.size_extract]; clear key; omega
    generalize s.extract 1 s.size = d at e hl ⊢
    exact key d e hl (fun _ => h1')
   ·simp -dsimp (maxDischargeDepth := 9) only [go_sem, zA, zB, zC, zD, zE, zF, zG, gS, h2]
    exact key s (by simp [rIntCut, byteIs, hc, of_decide_eq_false h2]) hs (fun h => h)
  ·have h1' : s.size = 0 := by have := of_decide_eq_false h1; clear key; omega
   simp -dsimp (maxDischargeDepth := 9) only [go_sem, zA, zB, zC, zD, zE, zF, zG, gS, h1]
   exact key s (by simp [rIntCut, byteIs, h1']) hs (fun h => h)
 case rest =>
  intro d hd hdl hds
  have hbad : (d.size = 0 ∨ 19 < d.size ∨ (byteIs d 0 48 = true ∧ 1 < s.size)) → K (.tup [.d (.int .i64 0), .d (.bool false)]) H := by
   intro h; simpa only [rInt, hd, if_pos h] using hK
  have hone : byteIs d 0 48 = true → 1 < s.size → K (.tup [.d (.int .i64 0), .d (.bool false)]) H := fun a b => hbad (.inr (.inr ⟨a, b⟩))
  refine (fun (key2 : (¬ (d.size = 0 ∨ 19 < d.size ∨ (byteIs d 0 48 = true ∧ 1 < s.size))) → ?T2) => ?main2) ?rest2
  case main2 =>
   refine gif_split (fun h1 => ?_) (fun h1 => ?_)
   ·simp -dsimp (maxDischargeDepth := 9) only [go_sem, zA, zB, zC, zD, zE, zF, zG, gS, h1]
    exact retW_is (hbad (.inl (by have := of_decide_eq_true h1; clear key2; omega)))
   ·have h1' : 0 < d.size := by have := of_decide_eq_false h1; clear key2; omega
    obtain ⟨c, hc⟩ := at_lt h1'
    simp -dsimp (maxDischargeDepth := 9) only [go_sem, zA, zB, zC, zD, zE, zF, zG, gS, h1]
    refine gif_split (fun h2 => ?_) (fun h2 => ?_)
    ·simp -dsimp (maxDischargeDepth := 9) only [go_sem, zA, zB, zC, zD, zE, zF, zG, gS, h2]
     exact retW_is (hbad (.inr (.inl (by have := of_decide_eq_true h2; clear key2; omega))))
    ·have h2' : ¬ 19 < d.size := by have := of_decide_eq_false h2; clear key2; omega
     simp -dsimp (maxDischargeDepth := 9) only [go_sem, zA, zB, zC, zD, zE, zF, zG, gS, h2, t0, hc]
     refine gif_split (fun h3 => ?_) (fun h3 => ?_)
     ·have hb : byteIs d 0 48 = true := by simpa [byteIs, hc] using h3
      simp -dsimp (maxDischargeDepth := 9) only [go_sem, zA, zB, zC, zD, zE, zF, zG, gS, h3]
      refine gif_split (fun h4 => ?_) (fun h4 => ?_)
      ·simp -dsimp (maxDischargeDepth := 9) only [go_sem, zA, zB, zC, zD, zE, zF, zG, gS, h4]
       exact retW_is (hone hb (by have := of_decide_eq_true h4; clear key2; omega))
      ·have h4' : ¬ 1 < s.size := by have := of_decide_eq_false h4; clear key2; omega
       simp -dsimp (maxDischargeDepth := 9) only [go_sem, zA, zB, zC, zD, zE, zF, zG, gS, h4]
       exact key2 (fun h => by rcases h with h | h | h; exact absurd h1' (by rw [h]; decide); exact h2' h; exact h4' h.2)
     ·have hb : byteIs d 0 48 = false := by simpa [byteIs, hc] using h3
      simp -dsimp (maxDischargeDepth := 9) only [go_sem, zA, zB, zC, zD, zE, zF, zG, gS, h3]
      exact key2 (fun h => by rcases h with h | h | h; exact absurd h1' (by rw [h]; decide); exact h2' h; rw [hb] at h; cases h.1)
  case rest2 =>
   intro hgood
   simp only [rInt, hd, if_neg hgood] at hK
   have hpos : 0 < s.size := hds (by apply Classical.byContradiction; intro h; exact hgood (.inl (by omega)))
   obtain ⟨c0, hc0⟩ := at_lt hpos
   refine svc_loop (X := Nat × Int × Nat) (fun x => [(0, .d (.str s)), (4, .d (.str d)), (5, .d (.int .i64 x.2.1)), (6, .d (.int .i64 x.2.2))])
    (fun x G => G = H ∧ x.2.2 ≤ d.size ∧ d.size ≤ x.1 + x.2.2 ∧ rIntLoop d x.1 x.2.1 x.2.2 = rIntLoop d d.size 0 0) (fun x => x.1) (d.size, 0, 0) _ ⟨rfl, by simp, by simp, rfl⟩ (by simp -dsimp (maxDischargeDepth := 9) only [go_sem, zA, zB, zC, zD, zE, zF, zG, gS]) (.refl _) ?_
   rintro ⟨k, n, i⟩ G ⟨rfl, hi, hk, hrun⟩
   simp only at hi hk hrun
   simp -dsimp (maxDischargeDepth := 9) only [go_sem, zA, zB, zC, zD, zE, zF, zG, gS]
   refine gif_split (fun h1 => ?_) (fun h1 => ?_)
   ·have h1' : i < d.size := by have := of_decide_eq_true h1; omega
    obtain ⟨k, rfl⟩ : ∃ k', k = k' + 1 := ⟨k - 1, by omega⟩
    obtain ⟨c, hc⟩ := at_lt h1'
    have hw := wrapN (k := i) (by omega)
    have hx : IntKind.i64.wrap (IntKind.u8.wrap ((c.toNat : Int) - 48)) = xOf c := rfl
    simp only [rIntLoop, hc] at hrun
    have hstop : intStop n c = true → K (.tup [.d (.int .i64 0), .d (.bool false)]) G := fun h => by
     rw [if_pos h] at hrun; rw [← hrun] at hK; exact hK
    have hgo : intStop n c = false → rIntLoop d k (IntKind.i64.wrap (IntKind.i64.wrap (10 * n) - xOf c)) (i + 1) = rIntLoop d d.size 0 0 := fun h => by
     rw [if_neg (by simp [h])] at hrun; exact hrun
    simp -dsimp (maxDischargeDepth := 9) only [go_sem, zA, zB, zC, zD, zE, zF, zG, gS, h1, hc, hx]
    refine gif_split (fun h2 => ?_) (fun h2 => ?_)
    ·simp -dsimp (maxDischargeDepth := 9) only [go_sem, zA, zB, zC, zD, zE, zF, zG, gS, h2]
     exact retW_is (hstop (by simp [intStop, of_decide_eq_true h2]))
    ·simp -dsimp (maxDischargeDepth := 9) only [go_sem, zA, zB, zC, zD, zE, zF, zG, gS, h2, hc]
     refine gif_split (fun h3 => ?_) (fun h3 => ?_)
     ·simp -dsimp (maxDischargeDepth := 9) only [go_sem, zA, zB, zC, zD, zE, zF, zG, gS, h3]
      exact retW_is (hstop (by simp [intStop, of_decide_eq_true h3]))
     ·simp -dsimp (maxDischargeDepth := 9) only [go_sem, zA, zB, zC, zD, zE, zF, zG, gS, h3]
      refine andK_split (by decide) ?_
      simp -dsimp (maxDischargeDepth := 9) only [go_sem, zA, zB, zC, zD, zE, zF, zG, gS]
      refine gif_split (fun h4 => ?_) (fun h4 => ?_)
      ·simp -dsimp (maxDischargeDepth := 9) only [go_sem, zA, zB, zC, zD, zE, zF, zG, gS, h4]
       exact retW_is (hstop (by simp [intStop, of_decide_eq_true h4]))
      ·simp -dsimp (maxDischargeDepth := 9) only [go_sem, zA, zB, zC, zD, zE, zF, zG, gS, h4, hw]
       refine roundQ_next (k, IntKind.i64.wrap (IntKind.i64.wrap (10 * n) - xOf c), i + 1) G ⟨rfl, h1', by simp only; omega, hgo (by simp only [intStop, h2, h3, h4, Bool.or_false])⟩ (Nat.lt_succ_self k) (by simp -dsimp (maxDischargeDepth := 9) only [go_sem, zA, zB, zC, zD, zE, zF, zG, gS]) (.refl _)
   ·have hfin : rIntLoop d d.size 0 0 = some n := by
     have h1' : d.size ≤ i := by have := of_decide_eq_false h1; omega
     rw [← hrun]
     cases k with
     | zero => rfl
     | succ k => simp [rIntLoop, Nat.not_lt.2 h1']
    rw [hfin] at hK
    simp only [byteIs, hc0] at hK
    simp -dsimp (maxDischargeDepth := 9) only [go_sem, zA, zB, zC, zD, zE, zF, zG, gS, h1, t0, hc0]
    refine gif_split (fun h2 => ?_) (fun h2 => ?_)
    ·simp -dsimp (maxDischargeDepth := 9) only [go_sem, zA, zB, zC, zD, zE, zF, zG, gS, h2]
     refine retW_is ?_
     rw [if_pos h2] at hK; exact hK
    ·rw [if_neg (by simp [h2])] at hK
     simp -dsimp (maxDischargeDepth := 9) only [go_sem, zA, zB, zC, zD, zE, zF, zG, gS, h2]
     refine gif_split (fun h3 => ?_) (fun h3 => ?_)
     ·simp -dsimp (maxDischargeDepth := 9) only [go_sem, zA, zB, zC, zD, zE, zF, zG, gS, h3]
      refine retW_is ?_
      rw [if_pos (of_decide_eq_true h3)] at hK; exact hK
     ·simp -dsimp (maxDischargeDepth := 9) only [go_sem, zA, zB, zC, zD, zE, zF, zG, gS, h3]
      refine retW_is ?_
      rw [if_neg (of_decide_eq_false h3)] at hK; exact hK
/-- Where a span of such bytes ends. -/
def runTo (p : UInt8 → Bool) (s : ByteArray) : Nat → Nat → Nat
 | 0, n => n
 | k + 1, n => match s[n]? with
  | some c => if p c = true then runTo p s k (n + 1) else n
  | none => n
theorem runTo_le {p : UInt8 → Bool} {s : ByteArray} : ∀ (k n : Nat), n ≤ s.size → n ≤ runTo p s k n ∧ runTo p s k n ≤ s.size
 | 0, n, h => ⟨Nat.le_refl _, h⟩
 | k + 1, n, h => by
  simp only [runTo]
  split
  ·rename_i c hc
   have hlt : n < s.size := by
    apply Classical.byContradiction; intro hn
    simp [hn] at hc
   split
   ·have := runTo_le (p := p) k (n + 1) hlt; omega
   ·exact ⟨Nat.le_refl _, h⟩
  ·exact ⟨Nat.le_refl _, h⟩
def kMarks : List Nat := [40, 41, 44, 46, 59, 124, 61]
def wordAl (s : ByteArray) (at_ : Nat) (c : UInt8) : Tok × Bool :=
 (⟨if isSmall c = true then 1 else 2, s.extract at_ (runTo (fun c => isLet c || isDig c) s s.size at_), 0⟩, decide (runTo (fun c => isLet c || isDig c) s s.size at_ - at_ ≤ 32))
def letAt (s : ByteArray) (n : Nat) : Bool := match s[n]? with
 | some c => isLet c
 | none => false
def wordInt (s : ByteArray) (at_ : Nat) : Tok × Bool :=
 (⟨3, s.extract at_ (runTo isDig s s.size (at_ + 1)), (rInt (s.extract at_ (runTo isDig s s.size (at_ + 1)))).1⟩,
  (rInt (s.extract at_ (runTo isDig s s.size (at_ + 1)))).2 && (decide (runTo isDig s s.size (at_ + 1) = s.size) || !letAt s (runTo isDig s s.size (at_ + 1))))
/-- The token that begins at a place. -/
def rWord (s : ByteArray) (at_ : Nat) (c : UInt8) : Tok × Bool :=
 if isLet c = true then wordAl s at_ c
 else if isDig c = true ∨ (c.toNat : Int) = 45 then wordInt s at_
 else if (c.toNat : Int) = 58 ∧ at_ + 1 < s.size ∧ byteIs s (at_ + 1) 45 = true then (⟨4, ⟨#[58, 45]⟩, 0⟩, true)
 else if kMarks.contains c.toNat = true then (⟨4, s.extract at_ (at_ + 1), 0⟩, true)
 else (⟨0, ⟨#[]⟩, 0⟩, false)
end Go.Aug
