/- The contracts of the printers; conditions stand in each contract. -/
import Derived.Test.YthldjffimcngaaaGreatDoorPrinterTwo
import Derived.Test.YthldjffimcngaaaGreatDoorAnswerOne
import Derived.Test.YthldjffimcngaaaGreatDoorLikesOne
import Derived.Test.YthldjffimcngaaaGreatDoorFormsOne
import Derived.Test.YthldjffimcngaaaGreatDoorAugFive
set_option linter.all false
set_option linter.unusedVariables false
set_option linter.unusedSimpArgs false
set_option linter.unusedSectionVars false

/- The reference's Source; PrintItems. -/
namespace Go.Aug
open Go.Proofs
set_option maxRecDepth 100000
set_option linter.unusedSimpArgs false
attribute [local irreducible] hid andK letA onSome onVar onArr arrOnly onInt onBool onTup idxA ldV ldD addO ofPart appTo fillL slA srcK nilQ retW gif sgd sguard svc sops sdops sagain aopO aLoad aStore aBin aUn aConv aLen aIndexAddr aIndex aIndexAddrS aIndexS aSlice aAppend aBuild aBuildSlice aMakeSlice aField aFieldOf aCallOp deepK deepL frzM putE newK newV growV ACall roundQ thenQ inBlockQ sret cnd szs nilC aLookup aMapUpdate aMakeMap
attribute [local go_sem] Int.natCast_zero
variable {eb : EbG}
end Go.Aug

/- PrintParts: terms, goals and types, printed, are read as they were (printed by PvV.py). -/
namespace Go.Aug
open Go.Proofs
set_option maxRecDepth 100000
set_option linter.unusedSimpArgs false
attribute [local irreducible] hid andK letA onSome onVar onArr arrOnly onInt onBool onTup idxA ldV ldD addO ofPart appTo fillL slA srcK nilQ retW gif sgd sguard svc sops sdops sagain aopO aLoad aStore aBin aUn aConv aLen aIndexAddr aIndex aIndexAddrS aIndexS aSlice aAppend aBuild aBuildSlice aMakeSlice aField aFieldOf aCallOp deepK deepL frzM putE newK newV growV ACall roundQ thenQ inBlockQ sret cnd szs nilC aLookup aMapUpdate aMakeMap
attribute [local go_sem] Int.natCast_zero
variable {eb : EbG}
theorem Gl.opn12 (g : Gl) : ∃ y1 y2 y3 y4 y5 y6 y7 y8 y9 y10 y11 y12, g.d = .agg [y1, y2, y3, y4, y5, y6, y7, y8, y9, y10, y11, y12] := by
 obtain ⟨x1, x2, x3, x4, x5, x6, x7, x8, x9, x10, x11, x12, hg⟩ := g.opn
 exact ⟨_, _, _, _, _, _, _, _, _, _, _, _, by rw [Gl.d, hg]⟩
end Go.Aug

/- PrintNests: whatever goals stand in goals, the form is read back (printed by PvY.py). -/
namespace Go.Aug
open Go.Proofs
set_option maxRecDepth 100000
set_option linter.unusedSimpArgs false
attribute [local irreducible] hid andK letA onSome onVar onArr arrOnly onInt onBool onTup idxA ldV ldD addO ofPart appTo fillL slA srcK nilQ retW gif sgd sguard svc sops sdops sagain aopO aLoad aStore aBin aUn aConv aLen aIndexAddr aIndex aIndexAddrS aIndexS aSlice aAppend aBuild aBuildSlice aMakeSlice aField aFieldOf aCallOp deepK deepL frzM putE newK newV growV ACall roundQ thenQ inBlockQ sret cnd szs nilC aLookup aMapUpdate aMakeMap
attribute [local go_sem] Int.natCast_zero
variable {eb : EbG}
def cA (g : Gl) : List A := g.cs.map .d
theorem rowG_cA (k : Int) (n : ByteArray) (gs : List Gl) : cA (rowG k n gs) = [.d (.int .i64 k), .d (.int .i64 0), .d (.str ⟨#[]⟩), .d (.int .i64 0), .d (.slice []), .d (.int .i64 0), .d (.str ⟨#[]⟩), .d (.int .i64 0), .d (.slice []), .d (.str n), .d (.slice []), .d (.slice (gs.map Gl.d))] := by
 simp [cA, rowG, Gl.cs, Tm.none, Tm.cs, Tm.ds, Gl.ds_map]
theorem flG_d : flG.d = .agg [.int .i64 2, .int .i64 0, .str ⟨#[]⟩, .int .i64 0, .slice [], .int .i64 0, .str ⟨#[]⟩, .int .i64 0, .slice [], .str ⟨#[]⟩, .slice [], .slice []] := by
 simp [flG, Gl.d, Gl.cs, Tm.none, Tm.cs, Tm.ds, Gl.ds]
set_option maxHeartbeats 8000000 in
theorem printNests_ok [Envs eb] (ks : List Int) (H : Heap) (K : A → Heap → Prop) (hK : K (.d (.bool true)) H) : ACall Tryz.prog (seatV eb) 6 [.d (.slice (ks.map (.int .i64)))] H K := by
 have e0 : errD 0 = .raw .nilIface := rfl
 refine ACall.hp_start ?_
 refine ACall.by mixed fn6 (by simp) ?_
 conv in s6 => cbv
 refine svc_start ?_
 simp -dsimp only [go_sem, gS]
 refine alive03_ok _ _ ?_
 simp -dsimp only [go_sem, gS]
 refine newK_hp (fun b3 f3 => ?_)
 simp only [off_cons, off_nil] at f3
 simp -dsimp only [go_sem, gS, f3]
 refine svc_step (HStep.nils (b := b3) (cs := [.d (.int .i64 4), .d (.int .i64 0), .d (.str ⟨#[]⟩), .d (.int .i64 0), .nils, .d (.int .i64 0), .d (.str ⟨#[]⟩), .d (.int .i64 0), .nils, .d (.str ⟨#[113]⟩), .nils, .nils]) (by simp only [hpS, eq_self, implies_true, f3])) ?_
 refine svc_loop (X := Nat × Gl) (fun x => [(3, .ref b3 0), (12, .d (.slice (ks.map (.int .i64)))), (13, .d (.int .i64 ks.length)), (14, .d (.int .i64 x.1))])
  (fun x G => G = hp H [(b3, .var (cA x.2))] ∧ Nest x.1 x.2 ∧ x.1 ≤ 31) (fun x => 32 - x.1) (0, qG) (hp H [(b3, .var (cA qG))]) ⟨rfl, Nest.first, by simp⟩ (by simp -dsimp only [go_sem, gS]) (by rw [upd_hp]; simp only [setL_cons, setL_nil, eqn_self, cnd_true]; exact LeH.refl _) ?_
 rintro ⟨j, g⟩ G ⟨hG, hN, hj⟩
 simp only at hG hN hj
 obtain ⟨y1, y2, y3, y4, y5, y6, y7, y8, y9, y10, y11, y12, hd⟩ := Gl.opn12 g
 have hcs : cA g = [.d y1, .d y2, .d y3, .d y4, .d y5, .d y6, .d y7, .d y8, .d y9, .d y10, .d y11, .d y12] := by
  have : g.cs = [y1, y2, y3, y4, y5, y6, y7, y8, y9, y10, y11, y12] := D.agg.inj hd
  rw [cA, this]; rfl
 rw [hG, hcs]
 refine (fun (key : (?T : Prop)) => ?main) ?rest
 case main =>
  simp -dsimp only [go_sem, gS]
  refine gif_split (fun q => ?_) (fun q => ?_)
  rotate_left
  ·simp -dsimp only [go_sem, gS, q, f3]
   exact key
  ·have q' : j < ks.length := by have := of_decide_eq_true q; omega
   obtain ⟨kx, hk⟩ := list_at q'
   have hw := wrapN (k := j) (by omega)
   simp -dsimp only [go_sem, gS, q, hk, f3]
   refine gif_split (fun q2 => ?_) (fun q2 => ?_)
   ·simp -dsimp only [go_sem, gS, q2, f3]
    exact key
   ·have hj30 : j ≤ 30 := by have := of_decide_eq_false q2; omega
    simp -dsimp only [go_sem, gS, q2, f3]
    refine newK_hp (fun b6 f6 => ?_)
    simp only [off_cons, off_nil] at f6
    simp -dsimp only [go_sem, gS, f3, f6]
    generalize bits .and .i64 kx 7 = m
    refine gif_split (fun qq0 => ?_) (fun qq0 => ?_)
    ·skip
     have hst : nestStep m g = rowG 5 ⟨#[]⟩ [g, flG] := by rw [of_decide_eq_true qq0]; rfl
     simp -dsimp only [go_sem, gS, qq0, f3, f6]
     refine newV_hp (fun b28 v28 f28 w28 => ?_)
     simp only [off_cons, off_nil] at f28
     simp -dsimp only [go_sem, gS, f3, f6, f28]
     repeat
      refine andK_split (by decide) ?_
      simp -dsimp only [go_sem, gS, f3, f6, f28]
     simp -dsimp only [go_sem, gS, hw]
     refine roundQ_row (k := 11) (x' := (j + 1, nestStep m g)) (b := b3) (r := b28) (cs := [.d (.int .i64 5), .d (.int .i64 0), .d (.str ⟨#[]⟩), .d (.int .i64 0), .nils, .d (.int .i64 0), .d (.str ⟨#[]⟩), .d (.int .i64 0), .nils, .d (.str ⟨#[]⟩), .nils, .own b28 v28]) (E := 42) (sz := 12) (ds := [D.agg [y1, y2, y3, y4, y5, y6, y7, y8, y9, y10, y11, y12], D.agg [.int .i64 2, .int .i64 0, .str ⟨#[]⟩, .int .i64 0, .slice [], .int .i64 0, .str ⟨#[]⟩, .int .i64 0, .slice [], .str ⟨#[]⟩, .slice [], .slice []]]) (by simp only [hpS, eq_self, implies_true, f3, f6, f28]) (by simp only [hpS, eq_self, implies_true, f3, f6, f28]) w28 (by intro e; have := f28; rw [e] at this; simp [eqn] at this) rfl (leH_hp0 (by simp only [hpS, eq_self, implies_true, f3, f6, f28])) (by simp only [hpS, eq_self, implies_true, f28]) f3 ⟨?_, hN.one m, by show j + 1 ≤ 31; omega⟩ (by show 32 - (j + 1) < 32 - j; omega) (by simp -dsimp only [go_sem, gS])
     refine congrArg (fun c => hp H [(b3, AObj.var c)]) ?_
     show _ = cA (nestStep m g)
     rw [hst, rowG_cA]
     simp only [List.map_cons, List.map_nil, hd, flG_d]
     rfl
    simp -dsimp only [go_sem, gS, qq0, f3, f6]
    refine gif_split (fun qq1 => ?_) (fun qq1 => ?_)
    ·skip
     have hst : nestStep m g = rowG 5 ⟨#[]⟩ [flG, g] := by rw [of_decide_eq_true qq1]; rfl
     simp -dsimp only [go_sem, gS, qq1, f3, f6]
     refine newV_hp (fun b34 v34 f34 w34 => ?_)
     simp only [off_cons, off_nil] at f34
     simp -dsimp only [go_sem, gS, f3, f6, f34]
     repeat
      refine andK_split (by decide) ?_
      simp -dsimp only [go_sem, gS, f3, f6, f34]
     simp -dsimp only [go_sem, gS, hw]
     refine roundQ_row (k := 11) (x' := (j + 1, nestStep m g)) (b := b3) (r := b34) (cs := [.d (.int .i64 5), .d (.int .i64 0), .d (.str ⟨#[]⟩), .d (.int .i64 0), .nils, .d (.int .i64 0), .d (.str ⟨#[]⟩), .d (.int .i64 0), .nils, .d (.str ⟨#[]⟩), .nils, .own b34 v34]) (E := 42) (sz := 12) (ds := [D.agg [.int .i64 2, .int .i64 0, .str ⟨#[]⟩, .int .i64 0, .slice [], .int .i64 0, .str ⟨#[]⟩, .int .i64 0, .slice [], .str ⟨#[]⟩, .slice [], .slice []], D.agg [y1, y2, y3, y4, y5, y6, y7, y8, y9, y10, y11, y12]]) (by simp only [hpS, eq_self, implies_true, f3, f6, f34]) (by simp only [hpS, eq_self, implies_true, f3, f6, f34]) w34 (by intro e; have := f34; rw [e] at this; simp [eqn] at this) rfl (leH_hp0 (by simp only [hpS, eq_self, implies_true, f3, f6, f34])) (by simp only [hpS, eq_self, implies_true, f34]) f3 ⟨?_, hN.one m, by show j + 1 ≤ 31; omega⟩ (by show 32 - (j + 1) < 32 - j; omega) (by simp -dsimp only [go_sem, gS])
     refine congrArg (fun c => hp H [(b3, AObj.var c)]) ?_
     show _ = cA (nestStep m g)
     rw [hst, rowG_cA]
     simp only [List.map_cons, List.map_nil, hd, flG_d]
     rfl
    simp -dsimp only [go_sem, gS, qq1, f3, f6]
    refine gif_split (fun qq2 => ?_) (fun qq2 => ?_)
    ·skip
     have hst : nestStep m g = rowG 6 ⟨#[]⟩ [g, flG] := by rw [of_decide_eq_true qq2]; rfl
     simp -dsimp only [go_sem, gS, qq2, f3, f6]
     refine newV_hp (fun b40 v40 f40 w40 => ?_)
     simp only [off_cons, off_nil] at f40
     simp -dsimp only [go_sem, gS, f3, f6, f40]
     repeat
      refine andK_split (by decide) ?_
      simp -dsimp only [go_sem, gS, f3, f6, f40]
     simp -dsimp only [go_sem, gS, hw]
     refine roundQ_row (k := 11) (x' := (j + 1, nestStep m g)) (b := b3) (r := b40) (cs := [.d (.int .i64 6), .d (.int .i64 0), .d (.str ⟨#[]⟩), .d (.int .i64 0), .nils, .d (.int .i64 0), .d (.str ⟨#[]⟩), .d (.int .i64 0), .nils, .d (.str ⟨#[]⟩), .nils, .own b40 v40]) (E := 42) (sz := 12) (ds := [D.agg [y1, y2, y3, y4, y5, y6, y7, y8, y9, y10, y11, y12], D.agg [.int .i64 2, .int .i64 0, .str ⟨#[]⟩, .int .i64 0, .slice [], .int .i64 0, .str ⟨#[]⟩, .int .i64 0, .slice [], .str ⟨#[]⟩, .slice [], .slice []]]) (by simp only [hpS, eq_self, implies_true, f3, f6, f40]) (by simp only [hpS, eq_self, implies_true, f3, f6, f40]) w40 (by intro e; have := f40; rw [e] at this; simp [eqn] at this) rfl (leH_hp0 (by simp only [hpS, eq_self, implies_true, f3, f6, f40])) (by simp only [hpS, eq_self, implies_true, f40]) f3 ⟨?_, hN.one m, by show j + 1 ≤ 31; omega⟩ (by show 32 - (j + 1) < 32 - j; omega) (by simp -dsimp only [go_sem, gS])
     refine congrArg (fun c => hp H [(b3, AObj.var c)]) ?_
     show _ = cA (nestStep m g)
     rw [hst, rowG_cA]
     simp only [List.map_cons, List.map_nil, hd, flG_d]
     rfl
    simp -dsimp only [go_sem, gS, qq2, f3, f6]
    refine gif_split (fun qq3 => ?_) (fun qq3 => ?_)
    ·skip
     have hst : nestStep m g = rowG 6 ⟨#[]⟩ [flG, g, flG] := by rw [of_decide_eq_true qq3]; rfl
     simp -dsimp only [go_sem, gS, qq3, f3, f6]
     refine newV_hp (fun b47 v47 f47 w47 => ?_)
     simp only [off_cons, off_nil] at f47
     simp -dsimp only [go_sem, gS, f3, f6, f47]
     repeat
      refine andK_split (by decide) ?_
      simp -dsimp only [go_sem, gS, f3, f6, f47]
     simp -dsimp only [go_sem, gS, hw]
     refine roundQ_row (k := 11) (x' := (j + 1, nestStep m g)) (b := b3) (r := b47) (cs := [.d (.int .i64 6), .d (.int .i64 0), .d (.str ⟨#[]⟩), .d (.int .i64 0), .nils, .d (.int .i64 0), .d (.str ⟨#[]⟩), .d (.int .i64 0), .nils, .d (.str ⟨#[]⟩), .nils, .own b47 v47]) (E := 42) (sz := 12) (ds := [D.agg [.int .i64 2, .int .i64 0, .str ⟨#[]⟩, .int .i64 0, .slice [], .int .i64 0, .str ⟨#[]⟩, .int .i64 0, .slice [], .str ⟨#[]⟩, .slice [], .slice []], D.agg [y1, y2, y3, y4, y5, y6, y7, y8, y9, y10, y11, y12], D.agg [.int .i64 2, .int .i64 0, .str ⟨#[]⟩, .int .i64 0, .slice [], .int .i64 0, .str ⟨#[]⟩, .int .i64 0, .slice [], .str ⟨#[]⟩, .slice [], .slice []]]) (by simp only [hpS, eq_self, implies_true, f3, f6, f47]) (by simp only [hpS, eq_self, implies_true, f3, f6, f47]) w47 (by intro e; have := f47; rw [e] at this; simp [eqn] at this) rfl (leH_hp0 (by simp only [hpS, eq_self, implies_true, f3, f6, f47])) (by simp only [hpS, eq_self, implies_true, f47]) f3 ⟨?_, hN.one m, by show j + 1 ≤ 31; omega⟩ (by show 32 - (j + 1) < 32 - j; omega) (by simp -dsimp only [go_sem, gS])
     refine congrArg (fun c => hp H [(b3, AObj.var c)]) ?_
     show _ = cA (nestStep m g)
     rw [hst, rowG_cA]
     simp only [List.map_cons, List.map_nil, hd, flG_d]
     rfl
    simp -dsimp only [go_sem, gS, qq3, f3, f6]
    refine gif_split (fun qq4 => ?_) (fun qq4 => ?_)
    ·skip
     have hst : nestStep m g = rowG 7 ⟨#[]⟩ [g] := by rw [of_decide_eq_true qq4]; rfl
     simp -dsimp only [go_sem, gS, qq4, f3, f6]
     refine newV_hp (fun b52 v52 f52 w52 => ?_)
     simp only [off_cons, off_nil] at f52
     simp -dsimp only [go_sem, gS, f3, f6, f52]
     repeat
      refine andK_split (by decide) ?_
      simp -dsimp only [go_sem, gS, f3, f6, f52]
     simp -dsimp only [go_sem, gS, hw]
     refine roundQ_row (k := 11) (x' := (j + 1, nestStep m g)) (b := b3) (r := b52) (cs := [.d (.int .i64 7), .d (.int .i64 0), .d (.str ⟨#[]⟩), .d (.int .i64 0), .nils, .d (.int .i64 0), .d (.str ⟨#[]⟩), .d (.int .i64 0), .nils, .d (.str ⟨#[]⟩), .nils, .own b52 v52]) (E := 42) (sz := 12) (ds := [D.agg [y1, y2, y3, y4, y5, y6, y7, y8, y9, y10, y11, y12]]) (by simp only [hpS, eq_self, implies_true, f3, f6, f52]) (by simp only [hpS, eq_self, implies_true, f3, f6, f52]) w52 (by intro e; have := f52; rw [e] at this; simp [eqn] at this) rfl (leH_hp0 (by simp only [hpS, eq_self, implies_true, f3, f6, f52])) (by simp only [hpS, eq_self, implies_true, f52]) f3 ⟨?_, hN.one m, by show j + 1 ≤ 31; omega⟩ (by show 32 - (j + 1) < 32 - j; omega) (by simp -dsimp only [go_sem, gS])
     refine congrArg (fun c => hp H [(b3, AObj.var c)]) ?_
     show _ = cA (nestStep m g)
     rw [hst, rowG_cA]
     simp only [List.map_cons, List.map_nil, hd, flG_d]
     rfl
    simp -dsimp only [go_sem, gS, qq4, f3, f6]
    refine gif_split (fun qq5 => ?_) (fun qq5 => ?_)
    ·skip
     have hst : nestStep m g = rowG 9 ⟨#[69]⟩ [g, flG] := by rw [of_decide_eq_true qq5]; rfl
     simp -dsimp only [go_sem, gS, qq5, f3, f6]
     refine newV_hp (fun b58 v58 f58 w58 => ?_)
     simp only [off_cons, off_nil] at f58
     simp -dsimp only [go_sem, gS, f3, f6, f58]
     repeat
      refine andK_split (by decide) ?_
      simp -dsimp only [go_sem, gS, f3, f6, f58]
     simp -dsimp only [go_sem, gS, hw]
     refine roundQ_row (k := 11) (x' := (j + 1, nestStep m g)) (b := b3) (r := b58) (cs := [.d (.int .i64 9), .d (.int .i64 0), .d (.str ⟨#[]⟩), .d (.int .i64 0), .nils, .d (.int .i64 0), .d (.str ⟨#[]⟩), .d (.int .i64 0), .nils, .d (.str ⟨#[69]⟩), .nils, .own b58 v58]) (E := 42) (sz := 12) (ds := [D.agg [y1, y2, y3, y4, y5, y6, y7, y8, y9, y10, y11, y12], D.agg [.int .i64 2, .int .i64 0, .str ⟨#[]⟩, .int .i64 0, .slice [], .int .i64 0, .str ⟨#[]⟩, .int .i64 0, .slice [], .str ⟨#[]⟩, .slice [], .slice []]]) (by simp only [hpS, eq_self, implies_true, f3, f6, f58]) (by simp only [hpS, eq_self, implies_true, f3, f6, f58]) w58 (by intro e; have := f58; rw [e] at this; simp [eqn] at this) rfl (leH_hp0 (by simp only [hpS, eq_self, implies_true, f3, f6, f58])) (by simp only [hpS, eq_self, implies_true, f58]) f3 ⟨?_, hN.one m, by show j + 1 ≤ 31; omega⟩ (by show 32 - (j + 1) < 32 - j; omega) (by simp -dsimp only [go_sem, gS])
     refine congrArg (fun c => hp H [(b3, AObj.var c)]) ?_
     show _ = cA (nestStep m g)
     rw [hst, rowG_cA]
     simp only [List.map_cons, List.map_nil, hd, flG_d]
     rfl
    simp -dsimp only [go_sem, gS, qq5, f3, f6]
    refine gif_split (fun qq6 => ?_) (fun qq6 => ?_)
    ·skip
     have hst : nestStep m g = rowG 9 ⟨#[95]⟩ [flG, g] := by rw [of_decide_eq_true qq6]; rfl
     simp -dsimp only [go_sem, gS, qq6, f3, f6]
     refine newV_hp (fun b64 v64 f64 w64 => ?_)
     simp only [off_cons, off_nil] at f64
     simp -dsimp only [go_sem, gS, f3, f6, f64]
     repeat
      refine andK_split (by decide) ?_
      simp -dsimp only [go_sem, gS, f3, f6, f64]
     simp -dsimp only [go_sem, gS, hw]
     refine roundQ_row (k := 11) (x' := (j + 1, nestStep m g)) (b := b3) (r := b64) (cs := [.d (.int .i64 9), .d (.int .i64 0), .d (.str ⟨#[]⟩), .d (.int .i64 0), .nils, .d (.int .i64 0), .d (.str ⟨#[]⟩), .d (.int .i64 0), .nils, .d (.str ⟨#[95]⟩), .nils, .own b64 v64]) (E := 42) (sz := 12) (ds := [D.agg [.int .i64 2, .int .i64 0, .str ⟨#[]⟩, .int .i64 0, .slice [], .int .i64 0, .str ⟨#[]⟩, .int .i64 0, .slice [], .str ⟨#[]⟩, .slice [], .slice []], D.agg [y1, y2, y3, y4, y5, y6, y7, y8, y9, y10, y11, y12]]) (by simp only [hpS, eq_self, implies_true, f3, f6, f64]) (by simp only [hpS, eq_self, implies_true, f3, f6, f64]) w64 (by intro e; have := f64; rw [e] at this; simp [eqn] at this) rfl (leH_hp0 (by simp only [hpS, eq_self, implies_true, f3, f6, f64])) (by simp only [hpS, eq_self, implies_true, f64]) f3 ⟨?_, hN.one m, by show j + 1 ≤ 31; omega⟩ (by show 32 - (j + 1) < 32 - j; omega) (by simp -dsimp only [go_sem, gS])
     refine congrArg (fun c => hp H [(b3, AObj.var c)]) ?_
     show _ = cA (nestStep m g)
     rw [hst, rowG_cA]
     simp only [List.map_cons, List.map_nil, hd, flG_d]
     rfl
    simp -dsimp only [go_sem, gS, qq6, f3, f6]
    have hst : nestStep m g = g := by
     unfold nestStep
     rw [if_neg (of_decide_eq_false qq0), if_neg (of_decide_eq_false qq1), if_neg (of_decide_eq_false qq2), if_neg (of_decide_eq_false qq3), if_neg (of_decide_eq_false qq4), if_neg (of_decide_eq_false qq5), if_neg (of_decide_eq_false qq6)]
    simp -dsimp only [go_sem, gS, hw]
    refine roundQ_next (j + 1, nestStep m g) (hp H [(b3, .var (cA (nestStep m g)))]) ⟨rfl, hN.one m, by show j + 1 ≤ 31; omega⟩ (by show 32 - (j + 1) < 32 - j; omega) (by simp -dsimp only [go_sem, gS]) ?_
    rw [hst, hcs]
    exact (leH_hp (by simp only [hpS, eq_self, implies_true, f3, f6]) (by simp only [hpS, eq_self, implies_true, f3, f6]))
 case rest =>
  have hpr := fun H K => printGl_ok (eb := eb) (H := H) (K := K) g (hN.good 1 (by omega)) (hN.sz hj)
  have hb := goal_back (hN.good 1 (by omega)) (.mk 0 .none .none ⟨#[]⟩ [] [])
  have hb : rpG (bytesB g.t) = _ := hb
  rw [if_pos (by have := hN.len; omega)] at hb
  have hself := fun H => sameGoal_self (eb := eb) _ g (Nat.le_refl _) hN.small H
  rw [hd] at hpr hself
  refine hpr _ _ ?_
  simp -dsimp only [go_sem, gS, f3]
  refine parseG_ok _ _ _ ?_
  rw [hb]
  simp only [e0, hd]
  simp -dsimp only [go_sem, gS, f3]
  refine newK_hp (fun b7 f7 => ?_)
  simp only [off_cons, off_nil] at f7
  simp -dsimp only [go_sem, gS, f3, f7]
  refine andK_split rfl ?_
  simp -dsimp only [go_sem, gS, f3, f7]
  refine hself _ _ ?_
  simp -dsimp only [go_sem, gS, f3, f7]
  exact retW_drop (G := H) (leH_hp0 (by simp only [hpS, eq_self, implies_true, f3, f7])) (retW_is hK)
end Go.Aug
