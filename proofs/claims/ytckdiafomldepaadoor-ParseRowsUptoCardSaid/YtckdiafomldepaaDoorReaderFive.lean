/- The facts of the program's functions, and the contracts of its lexer and parser; conditions stand in each contract. -/
import Derived.Test.YtckdiafomldepaaDoorPiecesThree
import Derived.Test.YtckdiafomldepaaDoorLikesOne
set_option linter.all false
set_option linter.unusedVariables false
set_option linter.unusedSimpArgs false
set_option linter.unusedSectionVars false

/- ParseRows: two sources, one behind the other, are the items of both. -/
namespace Go.Aug
open Go.Proofs
set_option maxRecDepth 100000
set_option linter.unusedSimpArgs false
attribute [local irreducible] hid andK letA onSome onVar onArr arrOnly onInt onBool onTup idxA ldV ldD addO ofPart appTo fillL slA srcK nilQ retW gif sgd sguard svc sops sdops sagain aopO aLoad aStore aBin aUn aConv aLen aIndexAddr aIndex aIndexAddrS aIndexS aSlice aAppend aBuild aBuildSlice aMakeSlice aField aFieldOf aCallOp deepK deepL frzM putE newK newV growV ACall roundQ thenQ inBlockQ sret cnd szs nilC aLookup aMapUpdate aMakeMap
attribute [local go_sem] Int.natCast_zero
theorem errD_no {e : Int} (h : e ≠ 0) : errD e = .sent (errG e) := if_neg h
theorem szs_its (l : List It) : szs 20 (l.map It.d) := by
 unfold szs
 intro d hd
 obtain ⟨i, _, rfl⟩ := List.mem_map.1 hd
 exact i.cs_length
set_option maxHeartbeats 2000000 in
theorem parseRows_ok {eb : EbG} [Envs eb] (s : ByteArray) (hs : s.size ≤ 1048576) (t : ByteArray) (ht : t.size ≤ 1048576) (H : Heap) (K : A → Heap → Prop) (hK : K (.d (.bool true)) H) : ACall Tryd.prog (seatV eb) 4 [.d (.str s), .d (.str t)] H K := by
 refine ACall.hp_start ?_
 refine ACall.by mixed fn4 (by simp) ?_
 conv in s4 => cbv
 refine svc_start ?_
 simp -dsimp only [go_sem, gS]
 refine alive02_ok _ _ ?_
 simp -dsimp only [go_sem, gS]
 refine parseS_ok _ _ _ ?_
 simp -dsimp only [go_sem, gS]
 refine parseS_ok _ _ _ ?_
 simp -dsimp only [go_sem, gS]
 refine andK_split (by show _ + 1 ≤ _; omega) ?_
 simp -dsimp only [go_sem, gS]
 refine andK_split (by show _ + 1 + _ ≤ _; omega) ?_
 simp -dsimp only [go_sem, gS]
 refine parseS_ok _ _ _ ?_
 rw [show s ++ ByteArray.mk #[10] ++ t = s ++ ⟨#[10]⟩ ++ t from rfl]
 have e0 : errD 0 = .raw .nilIface := rfl
 have r1 := fun b (h1 : rpS s = ((rpS s).1, 0)) (h2 : rpS t = (b, 0)) => rows_app (s := s) (t := t) h1 h2
 have l1 : (rpS s).1.length ≤ 512 := rtext_len s
 have l2 : (rpS t).1.length ≤ 512 := rtext_len t
 have c1 : ∀ x ∈ (rpS s).1, x.small := (rtext_srcs s).small
 have c2 : ∀ x ∈ (rpS t).1, x.small := (rtext_srcs t).small
 have r2 : rpS (s ++ ⟨#[10]⟩ ++ t) = rsource (rlex (s ++ ⟨#[10]⟩ ++ t)).1 (rlex (s ++ ⟨#[10]⟩ ++ t)).2 := rfl
 rw [← r2] at r1
 clear r2
 generalize rpS (s ++ ⟨#[10]⟩ ++ t) = z at r1
 generalize rpS s = x at r1 l1 c1
 generalize rpS t = y at r1 l2 c2
 obtain ⟨a, n1⟩ := x
 obtain ⟨b, n2⟩ := y
 simp only at r1 l1 l2 c1 c2
 by_cases h1 : n1 = 0
 ·subst h1
  by_cases h2 : n2 = 0
  ·subst h2
   have w1 : IntKind.i64.wrap ((s.size : Int) + (t.size : Int)) = ((s.size + t.size : Nat) : Int) := by rw [wrap64 (by omega) (by omega)]; omega
   have w2 : IntKind.i64.wrap ((a.length : Int) + (b.length : Int)) = ((a.length + b.length : Nat) : Int) := by rw [wrap64 (by omega) (by omega)]; omega
   by_cases h3 : s.size + t.size < 16384
   ·have d3 : decide (((s.size + t.size : Nat) : Int) ≥ 16384) = false := decide_eq_false (by omega)
    by_cases h4 : a.length + b.length ≤ 512
    ·have d4 : decide (((a.length + b.length : Nat) : Int) > 512) = false := decide_eq_false (by omega)
     have hz := r1 b rfl rfl h3 h4
     rw [hz, e0]
     clear hz r1
     simp -dsimp only [go_sem, gS, w1, w2, d3, d4, List.length_map]
     repeat
      refine andK_split rfl ?_
      simp -dsimp only [go_sem, gS, w1, w2, d3, d4, List.length_map]
     refine newV_hp (fun b57 v57 f57 w57 => ?_)
     simp only [off_cons, off_nil] at f57
     simp -dsimp only [go_sem, gS, f57]
     refine andK_split (szs_its a) ?_
     simp -dsimp only [go_sem, gS, f57]
     refine andK_split (by show a.length * 336 ≤ _; omega) ?_
     refine growV_hp (b0 := b57) (by simp only [hpS, eq_self, implies_true, f57]) (by simp only [hpS, eq_self, implies_true, f57]) (fun b59 v59 f59 w59 => ?_)
     simp only [delL_cons, delL_nil, eqn_self, cnd_true, cnd_false, off_cons, off_nil, f57] at f59
     simp -dsimp only [go_sem, gS, f57, f59, List.nil_append]
     refine andK_split (szs_its b) ?_
     simp -dsimp only [go_sem, gS, f59]
     refine andK_split (by show (a.length + b.length) * 336 ≤ _; omega) ?_
     refine growV_hp (b0 := b59) (by simp only [hpS, eq_self, implies_true, f59]) (by simp only [hpS, eq_self, implies_true, f59]) (fun b61 v61 f61 w61 => ?_)
     simp only [delL_cons, delL_nil, eqn_self, cnd_true, cnd_false, off_cons, off_nil, f59] at f61
     simp -dsimp only [go_sem, gS, f57, f59, f61]
     refine ACall.frz [false, true] ?_
     simp -dsimp only [go_sem, gS, f61]
     rw [← List.map_append]
     refine sameItems_self (a ++ b) (by rw [List.length_append]; omega) (fun x hx => (List.mem_append.1 hx).elim (c1 x) (c2 x)) _ _ ?_
     simp -dsimp only [go_sem, gS, f61]
     refine retW_drop (G := H) (leH_hp0 (by simp only [hpS, eq_self, implies_true, f61])) (retW_is hK)
    ·have d4 : decide (((a.length + b.length : Nat) : Int) > 512) = true := decide_eq_true (by omega)
     rw [e0]
     simp -dsimp only [go_sem, gS, w1, w2, d3, d4, List.length_map]
     repeat
      refine andK_split rfl ?_
      simp -dsimp only [go_sem, gS, w1, w2, d3, d4, List.length_map]
     exact retW_is hK
   ·have d3 : decide (((s.size + t.size : Nat) : Int) ≥ 16384) = true := decide_eq_true (by omega)
    rw [e0]
    simp -dsimp only [go_sem, gS, w1, d3]
    repeat
     refine andK_split rfl ?_
     simp -dsimp only [go_sem, gS, w1, d3]
    exact retW_is hK
  ·rw [errD_no h2, e0]
   simp -dsimp only [go_sem, gS]
   repeat
    refine andK_split rfl ?_
    simp -dsimp only [go_sem, gS]
   exact retW_is hK
 ·rw [errD_no h1]
  simp -dsimp only [go_sem, gS]
  repeat
   refine andK_split rfl ?_
   simp -dsimp only [go_sem, gS]
  exact retW_is hK
end Go.Aug
