/- NamesResolve answers true for every input, and the input reads as it did: the row and the tied card; no conditions. -/
import Derived.Test.YtejfagblpbmokaaDoorResolvedTwo
import Derived.Test.YtejfagblpbmokaaDoorAugEleven
import Derived.Test.YtejfagblpbmokaaDoorRows
import Derived.Test.YtejfagblpbmokaaDoorCards
import Derived.Test.YtejfagblpbmokaaDoorTie
import Derived.ChangeSame
import Derived.ChangeVars
import Derived.JoinedOf
import Derived.RowKit
import Derived.RowKitTokens
import Derived.Carry
import Derived.LaidLaws
import Derived.LaidMore
import Derived.OpenShut
import Derived.Lay
import Derived.Stop.ErrReads
import Derived.Stop.Joined
import Derived.SevenTiedAt
set_option linter.all false
set_option linter.unusedVariables false
set_option linter.unusedSimpArgs false
set_option linter.unusedSectionVars false

/- From a contract to the row and the card: the bridge of the Flat laws, and NamesResolve. -/
namespace Go.Proofs.YtejfagblpbmokaaDoor
open Go Go.Aug Go.ChangeShapes Go.WideShapes Go.RowKit
set_option maxRecDepth 100000
theorem own : ownKnob Tryd.prog.godebug = none := by kernel_rfl
theorem starV : "*" ++ "errors.errorString" = "*errors.errorString" := by decide
theorem rowV (u : TypeId) (h : Tryd.prog.typeName? 3 u = some "*errors.errorString") : u = 206 :=
 typeName_ptr_named (nm := "errors.errorString") (by rw [starV]; kernel_rfl) (by kernel_rfl) (by decide) u (by rw [starV]; exact h)
theorem cellsE : Tryd.prog.cellsOf 223 = 1 := by kernel_rfl
theorem cellsS : Tryd.prog.cellsOf 9 = 1 := by kernel_rfl
theorem laidOut : laidOutB Tryd.prog = true := by kernel_rfl
theorem read9 : Tryd.prog.readableRec 9 = true := by kernel_rfl
theorem size9 : 9 < Tryd.prog.types.size := of_decide_eq_true (by kernel_rfl)
theorem gs0 : Tryd.prog.globalNamed "augur/api.ErrNames" = some 0 := by kernel_rfl
theorem gt0 : (Tryd.prog.globals[0]?).map (·.type) = some 43 := by kernel_rfl
/-- What the rows say of the package's variables. -/
abbrev laidF : List (String × DataW Unit) := [("augur/api.ErrNames", Rows.laid_augur_api_ErrNames)]
def onF (g : Nat) : Bool := g == 0
theorem env_ok {W : World} (h : laidMet Tryd.prog laidF W) : ∃ eb : Nat → Addr, EnvOK (seatV ⟨eb, onF⟩) W (fun _ => False) := by
 obtain ⟨eb, he⟩ := laid_env (TE := 223) Tryd.underlying43 rowV Tryd.underlying206 Tryd.underlying223 rfl rfl Tryd.underlying9 cellsE cellsS h (fun g => if onF g = true then some (.sent g) else none) (by
  intro g x hg
  split at hg
  ·rename_i hlt
   cases hg
   refine ⟨rfl, ?_⟩
   have : g = 0 := by simpa [onF] using hlt
   subst this
   exact ⟨("augur/api.ErrNames", Rows.laid_augur_api_ErrNames), List.mem_of_getElem? (i := 0) rfl, gs0, gt0, _, rfl⟩
  ·cases hg)
 exact ⟨eb, he (fun _ => false) (fun _ => false)⟩
instance on0 {eb : Nat → Addr} : On ⟨eb, onF⟩ 0 := ⟨rfl⟩
theorem str_rep {H : Type} {enc : TypeId × Value → H} {W : World} {base : Nat} {v0 : Value} {d0 : DataW H} {ps : List MemPlace} {V : Env}
  (hok : Value.okWide Tryd.prog W .any base 9 v0) (h0 : DataW.Trod enc Tryd.prog W 0 (fun _ => true) true 9 v0 d0 ps) : ∃ s : ByteArray, RepA V W (fun _ => False) v0 (.d (.str s)) := by
 unfold Value.okWide at hok
 simp only [Tryd.underlying9] at hok
 cases v0 with
 | string s => exact ⟨s, .d _ _ (.str s)⟩
 | _ => exact hok.elim
/-- The door's own heap meets the condition. -/
theorem door_met (os : Os) (args : Array Value) : laidMetH Tryd.prog laidF ((World.doorLaid Tryd.prog 184 os).forCall (fun _ _ => 0) ⟨#[], args, []⟩).memory :=
 laidMetH_of_parts3 (fuel := 8) (laidMet_of_run' 8 (by kernel_rfl) (by kernel_rfl)) (by kernel_rfl) (by kernel_rfl)
theorem namesResolve_lifted (os : Os) (started : os.Started) (H : Type) (enc : TypeId × Value → H) :
  ReturnsInHanded {} Tryd.checked os 4 .any (fun w args => (Rows.namesResolveSpec.pre enc Tryd.prog Tryd.f4 [] false w args ∧ laidMetH Tryd.prog laidF w) ∧ sizedMet enc Tryd.prog Tryd.f4 (OpenSpec.ofChange Rows.namesResolveSpec) false w args)
   (Rows.namesResolveSpec.post enc Tryd.prog Tryd.f4 false true false false) := by
 refine returnsInHanded_of_change_and (C := Tryd.checked) (X := fun w _ => laidMetH Tryd.prog laidF w) (fun _ _ _ hh h => h.of_heap hh) own started (by kernel_rfl) Tryd.func4
  (ChangeSpec.witness_shaped (enc := enc) (C := Tryd.checked) (os := os) (X := fun w _ => laidMetH Tryd.prog laidF w) false (World.doorLaid Tryd.prog 184 os) #[.string ⟨#[]⟩] 8 rfl (World.shaped_of_RefB (by kernel_rfl) (by kernel_rfl)) (by kernel_rfl) (by kernel_rfl) (by kernel_rfl) (door_met os _)) ?_
 intro W base args ds gs before hval0 hW _ _ hL _
 have hval : ∀ (j : Nat) t v, Tryd.f4.params[j]? = some t → args[j]? = some v → Value.okWide Tryd.prog W .any base t v := hval0
 have hW' := hW
 obtain ⟨p, q, hA0, hV, rfl, hfz, hnd⟩ := hW
 have hA : DataW.TrodAll enc Tryd.prog W 0 (fun _ => true) true Tryd.f4.params.toList args.toList ds p := hA0
 have hlt := hA.lt
 rw [Tryd.params4] at hA hval
 obtain ⟨v0, d0, rfl, rfl, h0⟩ := trodAll_one hA
 obtain ⟨rfl, rfl⟩ := trodVars_none hV
 have hL' : laidMet Tryd.prog laidF W := by
  have := hL
  rwa [MakeChecks.laidMetH_plain _ _ _ (by kernel_rfl)] at this
 obtain ⟨eb, henv⟩ := env_ok hL'
 obtain ⟨s, h2⟩ := str_rep (V := seatV ⟨eb, onF⟩) (hval 0 9 v0 rfl rfl) h0
 refine (law_calls (namesResolve_ok s (fun _ => none) _ rfl) h2 henv).mono ?_
 rintro e W' ⟨rfl, hbl⟩
 have e1 : Rows.namesResolveSpec.fn H ([d0] ++ []) = { results := [.lit (.bool true)], args := [d0] } := rfl
 refine ⟨_, rfl, _, _, _, [], p, [], hW', ?_, ?_, ?_, hbl.frame _, fun h => by cases h⟩
 ·rw [e1]; exact trodAll_mk1 (shut_bool Tryd.underlying4 true)
 ·rw [e1]; exact trodAll_mk1 (Below.trod laidOut read9 size9 h0 hbl hlt)
 ·rw [e1]; rfl
theorem namesResolve_holds : Rows.NamesResolveSaid :=
 OpenClaim.holds_of_wide 4 Tryd.f4 rfl rfl rfl rfl rfl rfl rfl ⟨rfl, rfl, rfl, rfl, rfl⟩ rfl rfl rfl rfl rfl (by kernel_rfl) Tryd.func4 (by kernel_rfl)
  (of_decide_eq_true (by kernel_rfl)) (by unfold Func.isWrapper; first | (rw [if_pos (by decide +kernel)]; kernel_rfl) | (rw [if_neg (by decide +kernel)]; exact ⟨rfl, rfl⟩))
  (fun os started H enc _ => namesResolve_lifted os started H enc)
theorem namesResolve_card : Rows.NamesResolveCardSaid :=
 Claim7.holds_tied_plain_at .later [] _ _ _ _ namesResolve_holds (fun _ h => by cases h) (by kernel_rfl) (fun _ h => by cases h) namesResolve_row_tie rfl ⟨rfl, rfl⟩ (by kernel_rfl) rfl
  (fun f fn hf hfn => by
   obtain rfl : f = 4 := Option.some.inj ((show Tryd.prog.funcNamed "augur/augurlaw04.NamesResolve" = some 4 by kernel_rfl).symm.trans hf) |>.symm
   obtain rfl : fn = Tryd.f4 := (Option.some.inj (Tryd.func4.symm.trans hfn)).symm
   exact ⟨by kernel_rfl, fun j t ht => by
    rw [Tryd.params4] at ht
    have hm : t ∈ [9] := by simpa using Array.mem_of_getElem? ht
    have hall : ([9].all fun u => !Tryd.prog.wantsStandIn u) = true := by kernel_rfl
    exact (show Tryd.prog.wantsStandIn t = false by simpa using List.all_eq_true.1 hall t hm)⟩)
  (by kernel_rfl)
#print axioms namesResolve_card
end Go.Proofs.YtejfagblpbmokaaDoor
