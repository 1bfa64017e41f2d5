/- FlatCounts: the row and the card. -/
import Derived.Test.YtejfagblpbmokaaDoorAugFour
import Derived.Test.YtejfagblpbmokaaDoorRows
import Derived.Test.YtejfagblpbmokaaDoorCards
import Derived.Test.YtejfagblpbmokaaDoorTie
import Derived.ChangeSame
import Derived.ChangeVars
import Derived.JoinedOf
import Derived.RowKit
import Derived.RowKitTokens
import Derived.Carry
import Derived.LaidLaws
import Derived.LaidMore
import Derived.OpenShut
import Derived.Lay
import Derived.Stop.ErrReads
import Derived.Stop.Joined
import Derived.SevenTiedAt
import Derived.Test.YtejfagblpbmokaaDoorVarsFour
set_option linter.all false
set_option linter.unusedVariables false
set_option linter.unusedSimpArgs false
set_option linter.unusedSectionVars false

/- FlatCounts: the row and the card. -/
namespace Go.Proofs.YtejfagblpbmokaaDoor
open Go Go.Aug Go.ChangeShapes Go.WideShapes Go.RowKit
set_option maxRecDepth 100000
theorem own : ownKnob Tryd.prog.godebug = none := by kernel_rfl
theorem starV : "*" ++ "errors.errorString" = "*errors.errorString" := by decide
theorem rowV (u : TypeId) (h : Tryd.prog.typeName? 3 u = some "*errors.errorString") : u = 206 :=
 typeName_ptr_named (nm := "errors.errorString") (by rw [starV]; kernel_rfl) (by kernel_rfl) (by decide) u (by rw [starV]; exact h)
theorem cellsE : Tryd.prog.cellsOf 223 = 1 := by kernel_rfl
theorem cellsS : Tryd.prog.cellsOf 9 = 1 := by kernel_rfl
theorem laidOut : laidOutB Tryd.prog = true := by kernel_rfl
theorem gs2 : Tryd.prog.globalNamed "augur/api.ErrLarge" = some 2 := by kernel_rfl
theorem gt2 : (Tryd.prog.globals[2]?).map (·.type) = some 43 := by kernel_rfl
theorem gs1 : Tryd.prog.globalNamed "augur/api.ErrNone" = some 1 := by kernel_rfl
theorem gt1 : (Tryd.prog.globals[1]?).map (·.type) = some 43 := by kernel_rfl
/-- What the row says of the package's variables. -/
abbrev laidF : List (String × DataW Unit) := [("augur/api.ErrLarge", Rows.laid_augur_api_ErrLarge), ("augur/api.ErrNone", Rows.laid_augur_api_ErrNone)]
def onF (g : Nat) : Bool := g == 1 || g == 2
theorem env_ok {W : World} (h : laidMet Tryd.prog laidF W) : ∃ eb : Nat → Addr, EnvOK (seatV ⟨eb, onF⟩) W (fun _ => False) := by
 obtain ⟨eb, he⟩ := laid_env (TE := 223) Tryd.underlying43 rowV Tryd.underlying206 Tryd.underlying223 rfl rfl Tryd.underlying9 cellsE cellsS h (fun g => if onF g = true then some (.sent g) else none) (by
  intro g x hg
  split at hg
  ·rename_i hlt
   cases hg
   refine ⟨rfl, ?_⟩
   have : g = 1 ∨ g = 2 := by simpa [onF] using hlt
   rcases this with rfl | rfl
   ·exact ⟨("augur/api.ErrNone", Rows.laid_augur_api_ErrNone), List.mem_of_getElem? (i := 1) rfl, gs1, gt1, _, rfl⟩
   ·exact ⟨("augur/api.ErrLarge", Rows.laid_augur_api_ErrLarge), List.mem_of_getElem? (i := 0) rfl, gs2, gt2, _, rfl⟩
  ·cases hg)
 exact ⟨eb, he (fun _ => false) (fun _ => false) (fun _ => false)⟩
instance on1 {eb : Nat → Addr} : On ⟨eb, onF⟩ 1 := ⟨rfl⟩
instance on2 {eb : Nat → Addr} : On ⟨eb, onF⟩ 2 := ⟨rfl⟩
theorem read9 : Tryd.prog.readableRec 9 = true := by kernel_rfl
theorem size9 : 9 < Tryd.prog.types.size := of_decide_eq_true (by kernel_rfl)
theorem str_rep {H : Type} {enc : TypeId × Value → H} {W : World} {base : Nat} {v0 : Value} {d0 : DataW H} {ps : List MemPlace} {V : Env}
  (hok : Value.okWide Tryd.prog W .any base 9 v0) (h0 : DataW.Trod enc Tryd.prog W 0 (fun _ => true) true 9 v0 d0 ps) : ∃ s : ByteArray, RepA V W (fun _ => False) v0 (.d (.str s)) := by
 unfold Value.okWide at hok
 simp only [Tryd.underlying9] at hok
 cases v0 with
 | string s => exact ⟨s, .d _ _ (.str s)⟩
 | _ => exact hok.elim
/-- The law's call, from its contract. -/
theorem law_callsN {P : Program} {f : FuncId} {V : Env} {W : World} {x0 : D} {v0 : Value} (ok : ACall P V f [.d x0] (fun _ => none) (fun r _ => r = .d (.bool true))) (r0 : RepA V W (fun _ => False) v0 (.d x0)) (he : EnvOK V W (fun _ => False)) :
  Calls P f #[v0] W fun e W' => e = .returned (.bool true) ∧ Below W.heap.size W W' := by
 have := ok (fun _ => False) W [v0] rfl (fun j h h' => by
  match j with
  | 0 => exact r0
  | j + 1 => exact absurd h (by simp only [List.length_cons, List.length_nil]; omega)) ⟨(fun b o h => by cases h), (fun b h => h.elim), he, (fun b o h => by cases h)⟩
 refine this.mono ?_
 rintro e W' ⟨v, r, Z', H', rfl, hv, _, hx, rfl⟩
 refine ⟨?_, below_of hx⟩
 cases hv with
 | d _ _ h => cases h; rfl
/-- The door's own heap meets the condition. -/
theorem door_met (os : Os) (args : Array Value) : laidMetH Tryd.prog laidF ((World.doorLaid Tryd.prog 208 os).forCall (fun _ _ => 0) ⟨#[], args, []⟩).memory :=
 laidMetH_of_parts3 (fuel := 8) (laidMet_of_run' 8 (by kernel_rfl) (by kernel_rfl)) (by kernel_rfl) (by kernel_rfl)
theorem flatCounts_lifted (os : Os) (started : os.Started) (H : Type) (enc : TypeId × Value → H) :
  ReturnsInHanded {} Tryd.checked os 10 .any (fun w args => (Rows.flatCountsSpec.pre enc Tryd.prog Tryd.f10 [] false w args ∧ laidMetH Tryd.prog laidF w) ∧ sizedMet enc Tryd.prog Tryd.f10 (OpenSpec.ofChange Rows.flatCountsSpec) false w args)
   (Rows.flatCountsSpec.post enc Tryd.prog Tryd.f10 false true false false) := by
 refine returnsInHanded_of_change_and (C := Tryd.checked) (X := fun w _ => laidMetH Tryd.prog laidF w) (fun _ _ _ hh h => h.of_heap hh) own started (by kernel_rfl) Tryd.func10
  (ChangeSpec.witness_shaped (enc := enc) (C := Tryd.checked) (os := os) (X := fun w _ => laidMetH Tryd.prog laidF w) false (World.doorLaid Tryd.prog 208 os) #[.string ⟨#[]⟩] 8 rfl (World.shaped_of_RefB (by kernel_rfl) (by kernel_rfl)) (by kernel_rfl) (by kernel_rfl) (by kernel_rfl) (door_met os _)) ?_
 intro W base args ds gs before hval0 hW _ _ hL _
 have hval : ∀ (j : Nat) t v, Tryd.f10.params[j]? = some t → args[j]? = some v → Value.okWide Tryd.prog W .any base t v := hval0
 have hW' := hW
 obtain ⟨p, q, hA0, hV, rfl, hfz, hnd⟩ := hW
 have hA : DataW.TrodAll enc Tryd.prog W 0 (fun _ => true) true Tryd.f10.params.toList args.toList ds p := hA0
 have hlt := hA.lt
 rw [Tryd.params10] at hA hval
 obtain ⟨v0, d0, rfl, rfl, h0⟩ := trodAll_one hA
 obtain ⟨rfl, rfl⟩ := trodVars_none hV
 have hL' : laidMet Tryd.prog laidF W := by
  have := hL
  rwa [MakeChecks.laidMetH_plain _ _ _ (by kernel_rfl)] at this
 obtain ⟨eb, henv⟩ := env_ok hL'
 obtain ⟨s0, r0⟩ := str_rep (V := seatV ⟨eb, onF⟩) (hval 0 9 v0 rfl rfl) h0
 refine (law_callsN (flatCounts_ok s0 (fun _ => none) _ rfl) r0 henv).mono ?_
 rintro e W' ⟨rfl, hbl⟩
 have e1 : Rows.flatCountsSpec.fn H ([d0] ++ []) = { results := [.lit (.bool true)], args := [d0] } := rfl
 refine ⟨_, rfl, _, _, _, [], p, [], hW', ?_, ?_, ?_, hbl.frame _, fun h => by cases h⟩
 ·rw [e1]; exact trodAll_mk1 (shut_bool Tryd.underlying4 true)
 ·rw [e1]; exact trodAll_mk1 (Below.trod laidOut read9 size9 h0 hbl hlt)
 ·rw [e1]; rfl
theorem flatCounts_holds : Rows.FlatCountsSaid :=
 OpenClaim.holds_of_wide 10 Tryd.f10 rfl rfl rfl rfl rfl rfl rfl ⟨rfl, rfl, rfl, rfl, rfl⟩ rfl rfl rfl rfl rfl (by kernel_rfl) Tryd.func10 (by kernel_rfl)
  (of_decide_eq_true (by kernel_rfl)) (by unfold Func.isWrapper; first | (rw [if_pos (by decide +kernel)]; kernel_rfl) | (rw [if_neg (by decide +kernel)]; exact ⟨rfl, rfl⟩))
  (fun os started H enc _ => flatCounts_lifted os started H enc)
theorem flatCounts_card : Rows.FlatCountsCardSaid :=
 Claim7.holds_tied_plain_at .later [] _ _ _ _ flatCounts_holds (fun _ h => by cases h) (by kernel_rfl) (fun _ h => by cases h) flatCounts_row_tie rfl ⟨rfl, rfl⟩ (by kernel_rfl) rfl
  (fun f fn hf hfn => by
   obtain rfl : f = 10 := Option.some.inj ((show Tryd.prog.funcNamed "augur/augurlaw05.FlatCounts" = some 10 by kernel_rfl).symm.trans hf) |>.symm
   obtain rfl : fn = Tryd.f10 := (Option.some.inj (Tryd.func10.symm.trans hfn)).symm
   exact ⟨by kernel_rfl, fun j t ht => by
    rw [Tryd.params10] at ht
    have hm : t ∈ [9] := by simpa using Array.mem_of_getElem? ht
    have hall : ([9].all fun u => !Tryd.prog.wantsStandIn u) = true := by kernel_rfl
    exact (show Tryd.prog.wantsStandIn t = false by simpa using List.all_eq_true.1 hall t hm)⟩)
  (by kernel_rfl)
#print axioms flatCounts_card
end Go.Proofs.YtejfagblpbmokaaDoor
