/- The contracts of the printers; conditions stand in each contract. -/
import Derived.Test.YthldjffimcngaaaGreatDoorPrinterTwo
import Derived.Test.YthldjffimcngaaaGreatDoorAnswerOne
import Derived.Test.YthldjffimcngaaaGreatDoorLikesOne
set_option linter.all false
set_option linter.unusedVariables false
set_option linter.unusedSimpArgs false
set_option linter.unusedSectionVars false

/- The reference's Source; PrintItems. -/
namespace Go.Aug
open Go.Proofs
set_option maxRecDepth 100000
set_option linter.unusedSimpArgs false
attribute [local irreducible] hid andK letA onSome onVar onArr arrOnly onInt onBool onTup idxA ldV ldD addO ofPart appTo fillL slA srcK nilQ retW gif sgd sguard svc sops sdops sagain aopO aLoad aStore aBin aUn aConv aLen aIndexAddr aIndex aIndexAddrS aIndexS aSlice aAppend aBuild aBuildSlice aMakeSlice aField aFieldOf aCallOp deepK deepL frzM putE newK newV growV ACall roundQ thenQ inBlockQ sret cnd szs nilC aLookup aMapUpdate aMakeMap
attribute [local go_sem] Int.natCast_zero
variable {eb : EbG}
theorem refs_ok [Envs eb] {s : ByteArray} {l : List It} (h : rpS s = (l, 0)) (i : It) (hi : i ∈ l) (H : Heap) (K : A → Heap → Prop) (hK : K (.d (.str (bytesB i.t))) H) : ACall Tryz.prog (seatV eb) 35 [.d i.d] H K :=
 refIt_ok i ((source_good h).1 i hi) (source_sz h i hi) hK
theorem bytesB_app (a b : List UInt8) : bytesB a ++ bytesB b = bytesB (a ++ b) := by
 apply ByteArray.ext
 rw [ByteArray.data_append]
 simp [bytesB]
theorem itsT_le {l : List It} (j : Nat) : (itsT (l.take j)).length ≤ (itsT l).length := itsT_take_le j
set_option maxHeartbeats 2000000 in
theorem refSrc_ok [Envs eb] {s : ByteArray} {l : List It} (h : rpS s = (l, 0)) (H : Heap) (K : A → Heap → Prop) (hK : K (.d (.str (bytesB (itsT l)))) H) : ACall Tryz.prog (seatV eb) 12 [.d (.slice (l.map It.d))] H K := by
 have hll := (source_good h).2
 have hfew := src_few h
 refine ACall.hp_start ?_
 refine ACall.by mixed fn12 (by simp) ?_
 conv in s12 => cbv
 refine svc_start ?_
 simp -dsimp only [go_sem, gS]
 have z0 : (⟨#[]⟩ : ByteArray) = bytesB (itsT (l.take 0)) := rfl
 refine svc_loop (X := Nat) (fun j => [(3, .d (.str (bytesB (itsT (l.take j))))), (6, .d (.slice (l.map It.d))), (7, .d (.int .i64 l.length)), (8, .d (.int .i64 j))])
  (fun j G => G = hp H [] ∧ j ≤ l.length) (fun j => l.length - j) 0 (hp H []) ⟨rfl, Nat.zero_le _⟩ (by simp -dsimp only [go_sem, gS, z0]) (.refl _) ?_
 rintro j G ⟨hG, hj⟩
 rw [hG]
 simp -dsimp only [go_sem, gS]
 refine gif_split (fun q => ?_) (fun q => ?_)
 ·have q' : j < l.length := by have := of_decide_eq_true q; omega
  have hw := wrapN (k := j) (by omega)
  obtain ⟨i, hi⟩ := list_at q'
  have htk := itsT_take hi
  have hle := itsT_le (l := l) (j + 1)
  have hit := refs_ok (eb := eb) h i (List.mem_of_getElem? hi)
  rw [htk, List.length_append] at hle
  generalize i.t = tx at htk hle hit
  have hs1 : bytesB (itsT (l.take (j + 1))) = bytesB (itsT (l.take j)) ++ bytesB tx := by rw [htk, bytesB_app]
  obtain ⟨x1, x2, x3, x4, x5, x6, x7, x8, x9, x10, x11, x12, _, hd⟩ := i.opn
  rw [hd] at hit
  simp -dsimp only [go_sem, gS, q, hi, hd]
  refine newK_hp (fun b5 f5 => ?_)
  simp only [off_cons, off_nil] at f5
  simp -dsimp only [go_sem, gS, f5]
  refine hit _ _ ?_
  simp -dsimp only [go_sem, gS, f5]
  refine andK_split (by rw [bytesB_size, bytesB_size]; omega) ?_
  simp -dsimp only [go_sem, gS, f5, hw]
  refine roundQ_next (j + 1) _ ⟨rfl, q'⟩ (by omega) (by simp -dsimp only [go_sem, gS, hs1]) (leH_hp0 (by simp only [hpS, eq_self, implies_true, f5]))
 ·have q' : j = l.length := by have := of_decide_eq_false q; omega
  subst q'
  have ht : l.take l.length = l := List.take_length
  simp -dsimp only [go_sem, gS, q, ht]
  exact retW_is hK
theorem it_tail (i : It) : ∃ t, i.t = t ++ [46, 10] := ⟨i.t0, rfl⟩
set_option maxHeartbeats 2000000 in
theorem printItems_ok [Envs eb] (s : ByteArray) (H : Heap) (K : A → Heap → Prop) (hK : K (.d (.bool true)) H) : ACall Tryz.prog (seatV eb) 4 [.d (.str s)] H K := by
 have hps := fun H => source_ok (eb := eb) H s
 rw [show rsource (rlex s).1 (rlex s).2 = rpS s from rfl] at hps
 obtain ⟨x, hx⟩ : ∃ x, x = rpS s := ⟨_, rfl⟩
 rw [← hx] at hps
 obtain ⟨l, e⟩ := x
 refine ACall.hp_start ?_
 refine ACall.by mixed fn4 (by simp) ?_
 conv in s4 => cbv
 refine svc_start ?_
 simp -dsimp only [go_sem, gS]
 refine alive03_ok _ _ ?_
 simp -dsimp only [go_sem, gS]
 refine hps _ _ ?_
 by_cases he : e = 0
 ·subst he
  have h := hx.symm
  have hll := (source_good h).2
  have hfew := src_few h
  have d0 : decide ((0 : Int) = 0) = true := rfl
  simp -dsimp only [go_sem, gS, d0]
  have z0 : (⟨#[]⟩ : ByteArray) = bytesB (itsT (l.take 0)) := rfl
  refine svc_loop (X := Nat) (fun j => [(3, .d (.slice (l.map It.d))), (5, .d (.str (bytesB (itsT (l.take j))))), (18, .d (.slice (l.map It.d))), (19, .d (.int .i64 l.length)), (20, .d (.int .i64 j))])
   (fun j G => G = hp H [] ∧ j ≤ l.length) (fun j => l.length - j) 0 (hp H []) ⟨rfl, Nat.zero_le _⟩ (by simp -dsimp only [go_sem, gS, z0]) (.refl _) ?_
  rintro j G ⟨hG, hj⟩
  rw [hG]
  simp -dsimp only [go_sem, gS]
  refine gif_split (fun q => ?_) (fun q => ?_)
  ·have q' : j < l.length := by have := of_decide_eq_true q; omega
   have hw := wrapN (k := j) (by omega)
   obtain ⟨i, hi⟩ := list_at q'
   have htk := itsT_take hi
   have hle := itsT_le (l := l) (j + 1)
   have hit := its_ok (eb := eb) h i (List.mem_of_getElem? hi)
   obtain ⟨t0, ht0⟩ := it_tail i
   rw [htk, List.length_append] at hle
   generalize i.t = tx at htk hle hit ht0
   have hs1 : bytesB (itsT (l.take (j + 1))) = bytesB (itsT (l.take j)) ++ bytesB tx := by rw [htk, bytesB_app]
   obtain ⟨x1, x2, x3, x4, x5, x6, x7, x8, x9, x10, x11, x12, _, hd⟩ := i.opn
   rw [hd] at hit
   have hsz : (bytesB tx).size = t0.length + 2 := by rw [bytesB_size, ht0]; simp
   have htl : tx.length = t0.length + 2 := by rw [ht0]; simp
   have hex : (bytesB tx).extract t0.length (bytesB tx).size = ⟨#[46, 10]⟩ := by
    have := ba_extract (s := bytesB tx) (p := t0.length) (a := [46, 10]) (b := []) (by simp [bytesB, ht0])
    rw [hsz]; exact this
   have d2 : decide ((((bytesB tx).size : Nat) : Int) < 2) = false := decide_eq_false (by omega)
   have w2 : IntKind.i64.wrap (((bytesB tx).size : Int) - 2) = ((t0.length : Nat) : Int) := by rw [wrap64 (by omega) (by omega)]; omega
   simp -dsimp only [go_sem, gS, q, hi, hd]
   refine newK_hp (fun b7 f7 => ?_)
   simp only [off_cons, off_nil] at f7
   simp -dsimp only [go_sem, gS, f7]
   refine hit _ _ ?_
   simp -dsimp only [go_sem, gS, f7, d2, w2]
   refine andK_split (by omega) ?_
   simp -dsimp only [go_sem, gS, f7, hex, decide_true]
   refine andK_split (by rw [bytesB_size, bytesB_size]; omega) ?_
   simp -dsimp only [go_sem, gS, f7, hw]
   refine roundQ_next (j + 1) _ ⟨rfl, q'⟩ (by omega) (by simp -dsimp only [go_sem, gS, hs1]) (leH_hp0 (by simp only [hpS, eq_self, implies_true, f7]))
  ·have q' : j = l.length := by have := of_decide_eq_false q; omega
   subst q'
   have ht : l.take l.length = l := List.take_length
   simp -dsimp only [go_sem, gS, q, ht]
   refine srcP_ok h _ _ ?_
   simp -dsimp only [go_sem, gS, decide_true]
   exact retW_is hK
 ·have d0 : decide (e = 0) = false := decide_eq_false he
  simp -dsimp only [go_sem, gS, d0]
  exact retW_is hK
end Go.Aug
