/- The facts of the program's functions, and the contracts of its lexer and parser; conditions stand in each contract. -/
import Derived.Test.YtckdiafomldepaaDoorReaderSix
import Derived.Test.YtckdiafomldepaaDoorLexerOne
set_option linter.all false
set_option linter.unusedVariables false
set_option linter.unusedSimpArgs false
set_option linter.unusedSectionVars false

/- ParseNamesOf: a name is one of a predicate and a constructor just if it is not reserved. -/
namespace Go.Aug
open Go.Proofs
set_option maxRecDepth 100000
set_option linter.unusedSimpArgs false
attribute [local irreducible] hid andK letA onSome onVar onArr arrOnly onInt onBool onTup idxA ldV ldD addO ofPart appTo fillL slA srcK nilQ retW gif sgd sguard svc sops sdops sagain aopO aLoad aStore aBin aUn aConv aLen aIndexAddr aIndex aIndexAddrS aIndexS aSlice aAppend aBuild aBuildSlice aMakeSlice aField aFieldOf aCallOp deepK deepL frzM putE newK newV growV ACall roundQ thenQ inBlockQ sret cnd szs nilC aLookup aMapUpdate aMakeMap
attribute [local go_sem] Int.natCast_zero
set_option maxHeartbeats 2000000 in
theorem parseNamesOf_ok {eb : EbG} [Envs eb] (s : ByteArray) (H : Heap) (K : A → Heap → Prop) (hK : K (.d (.bool true)) H) : ACall Tryd.prog (seatV eb) 7 [.d (.str s)] H K := by
 refine ACall.hp_start ?_
 refine ACall.by mixed fn7 (by simp) ?_
 conv in s7 => cbv
 refine svc_start ?_
 simp -dsimp only [go_sem, gS]
 refine alive02_ok _ _ ?_
 simp -dsimp only [go_sem, gS]
 have hname := rlex_name s
 refine lex_ok _ _ _ ?_
 generalize rlex s = x at hname
 obtain ⟨l, e⟩ := x
 have bb1 : (true == true) = true := rfl
 have bb2 : (false == false) = true := rfl
 have t0 : Int.toNat 0 = 0 := rfl
 have gn0 : (seatV eb).G 2 = some (.sent 2) := seatV_on inferInstance
 by_cases he : e = 0
 ·subst he
  have d0 : decide ((0 : Int) = 0) = true := rfl
  match l, hname with
  | [], _ =>
   have l0 : decide ((0 : Int) = 1) = false := rfl
   simp -dsimp only [go_sem, gS, d0, l0]
   refine retW_drop (G := H) (leH_hp0 (by simp only [hpS, eq_self, implies_true, l0])) (retW_is hK)
  | a :: b :: l, _ =>
   have l0 : decide (((l.length + 1 + 1 : Nat) : Int) = 1) = false := decide_eq_false (by omega)
   simp -dsimp only [go_sem, gS, d0, l0]
   refine retW_drop (G := H) (leH_hp0 (by simp only [hpS, eq_self, implies_true, l0])) (retW_is hK)
  | [⟨k, t, z⟩], hname =>
   have l0 : decide (((1 : Nat) : Int) = 1) = true := rfl
   by_cases hk : k = 1
   ·subst hk
    have k0 : decide ((1 : Int) = 1) = true := rfl
    by_cases ht : t = s
    ·subst ht
     have k1 : decide (t = t) = true := decide_eq_true rfl
     have hn := hname _ (List.mem_singleton.2 rfl) rfl
     simp only at hn
     have hsz := name_size hn
     simp -dsimp only [go_sem, gS, d0, l0, k0, k1, t0, Tok.d, Tok.cs]
     refine andK_split (by show _ + 1 ≤ _; omega) ?_
     simp -dsimp only [go_sem, gS]
     refine parseS_ok _ _ _ ?_
     rw [show t ++ ByteArray.mk #[46] = t ++ ⟨#[46]⟩ from rfl]
     by_cases hr : isReserved t = true
     ·have h2 := congrArg errD (named_res hr).1
      have h3 := congrArg errD (named_res hr).2
      rw [show errD 2 = .sent 2 from rfl] at h2 h3
      rw [h2]
      generalize (rpS (t ++ ⟨#[46]⟩)).1 = l1
      simp -dsimp only [go_sem, gS]
      refine parseT_ok _ _ _ ?_
      rw [h3]
      generalize (rpT t).1 = tm
      have hcs := tm.cs_length
      simp -dsimp only [go_sem, gS, Tm.d, hcs]
      refine newK_hp (fun b7 f7 => ?_)
      simp only [off_cons, off_nil] at f7
      simp -dsimp only [go_sem, gS, f7, Tm.d, hcs]
      refine reserved_ok _ _ _ ?_
      rw [hr]
      simp -dsimp only [go_sem, gS, f7, gn0, bb1, bb2]
      repeat
       refine andK_split rfl ?_
       simp -dsimp only [go_sem, gS, f7, gn0, bb1, bb2]
      refine retW_drop (G := H) (leH_hp0 (by simp only [hpS, eq_self, implies_true, f7])) (retW_is hK)
     ·have hr' : isReserved t = false := by simpa using hr
      have h2 := congrArg errD (named_src hn hr')
      have h3 := congrArg errD (named_tm hn hr')
      rw [show errD 0 = .raw .nilIface from rfl] at h2 h3
      rw [h2]
      generalize (rpS (t ++ ⟨#[46]⟩)).1 = l1
      simp -dsimp only [go_sem, gS]
      refine parseT_ok _ _ _ ?_
      rw [h3]
      generalize (rpT t).1 = tm
      have hcs := tm.cs_length
      simp -dsimp only [go_sem, gS, Tm.d, hcs]
      refine newK_hp (fun b7 f7 => ?_)
      simp only [off_cons, off_nil] at f7
      simp -dsimp only [go_sem, gS, f7, Tm.d, hcs]
      refine reserved_ok _ _ _ ?_
      rw [hr']
      simp -dsimp only [go_sem, gS, f7, gn0, bb1, bb2]
      repeat
       refine andK_split rfl ?_
       simp -dsimp only [go_sem, gS, f7, gn0, bb1, bb2]
      refine retW_drop (G := H) (leH_hp0 (by simp only [hpS, eq_self, implies_true, f7])) (retW_is hK)
    ·have k1 : decide (t = s) = false := decide_eq_false ht
     simp -dsimp only [go_sem, gS, d0, l0, k0, k1, t0, Tok.d, Tok.cs]
     refine retW_drop (G := H) (leH_hp0 (by simp only [hpS, eq_self, implies_true, l0])) (retW_is hK)
   ·have k0 : decide (k = 1) = false := decide_eq_false hk
    simp -dsimp only [go_sem, gS, d0, l0, k0, t0, Tok.d, Tok.cs]
    refine retW_drop (G := H) (leH_hp0 (by simp only [hpS, eq_self, implies_true, l0])) (retW_is hK)
 ·have d0 : decide (e = 0) = false := decide_eq_false he
  simp -dsimp only [go_sem, gS, d0]
  refine retW_drop (G := H) (leH_hp0 (by simp only [hpS, eq_self, implies_true, d0])) (retW_is hK)
end Go.Aug
