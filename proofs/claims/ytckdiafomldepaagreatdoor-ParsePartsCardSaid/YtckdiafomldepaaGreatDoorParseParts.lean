/- ParseParts: the row and the card. -/
import Derived.Test.YtckdiafomldepaaGreatDoorAugFour
import Derived.Test.YtckdiafomldepaaGreatDoorRows
import Derived.Test.YtckdiafomldepaaGreatDoorCards
import Derived.Test.YtckdiafomldepaaGreatDoorTie
import Derived.ChangeSame
import Derived.ChangeVars
import Derived.JoinedOf
import Derived.RowKit
import Derived.RowKitTokens
import Derived.Carry
import Derived.LaidLaws
import Derived.LaidMore
import Derived.OpenShut
import Derived.Lay
import Derived.Stop.ErrReads
import Derived.Stop.Joined
import Derived.SevenTiedAt
import Derived.Test.YtckdiafomldepaaGreatDoorReaderFive
set_option linter.all false
set_option linter.unusedVariables false
set_option linter.unusedSimpArgs false
set_option linter.unusedSectionVars false

/- ParseParts: the row and the card. -/
namespace Go.Proofs.YtckdiafomldepaaGreatDoor
open Go Go.Aug Go.ChangeShapes Go.WideShapes Go.RowKit
set_option maxRecDepth 100000
theorem own : ownKnob Tryz.prog.godebug = none := by kernel_rfl
theorem starV : "*" ++ "errors.errorString" = "*errors.errorString" := by decide
theorem rowV (u : TypeId) (h : Tryz.prog.typeName? 3 u = some "*errors.errorString") : u = 155 :=
 typeName_ptr_named (nm := "errors.errorString") (by rw [starV]; kernel_rfl) (by kernel_rfl) (by decide) u (by rw [starV]; exact h)
theorem cellsE : Tryz.prog.cellsOf 157 = 1 := by kernel_rfl
theorem cellsS : Tryz.prog.cellsOf 9 = 1 := by kernel_rfl
theorem laidOut : laidOutB Tryz.prog = true := by kernel_rfl
theorem gs1 : Tryz.prog.globalNamed "augur/api.ErrText" = some 1 := by kernel_rfl
theorem gt1 : (Tryz.prog.globals[1]?).map (·.type) = some 25 := by kernel_rfl
theorem gs2 : Tryz.prog.globalNamed "augur/api.ErrSyntax" = some 2 := by kernel_rfl
theorem gt2 : (Tryz.prog.globals[2]?).map (·.type) = some 25 := by kernel_rfl
theorem gs3 : Tryz.prog.globalNamed "augur/api.ErrNest" = some 3 := by kernel_rfl
theorem gt3 : (Tryz.prog.globals[3]?).map (·.type) = some 25 := by kernel_rfl
theorem gs0 : Tryz.prog.globalNamed "augur/api.ErrLarge" = some 0 := by kernel_rfl
theorem gt0 : (Tryz.prog.globals[0]?).map (·.type) = some 25 := by kernel_rfl
theorem gs4 : Tryz.prog.globalNamed "augur/api.ErrNames" = some 4 := by kernel_rfl
theorem gt4 : (Tryz.prog.globals[4]?).map (·.type) = some 25 := by kernel_rfl
theorem gs5 : Tryz.prog.globalNamed "augur/api.ErrTypes" = some 5 := by kernel_rfl
theorem gt5 : (Tryz.prog.globals[5]?).map (·.type) = some 25 := by kernel_rfl
theorem gs6 : Tryz.prog.globalNamed "augur/api.ErrModes" = some 6 := by kernel_rfl
theorem gt6 : (Tryz.prog.globals[6]?).map (·.type) = some 25 := by kernel_rfl
theorem gs7 : Tryz.prog.globalNamed "augur/api.ErrDet" = some 7 := by kernel_rfl
theorem gt7 : (Tryz.prog.globals[7]?).map (·.type) = some 25 := by kernel_rfl
theorem gs8 : Tryz.prog.globalNamed "augur/api.ErrNone" = some 8 := by kernel_rfl
theorem gt8 : (Tryz.prog.globals[8]?).map (·.type) = some 25 := by kernel_rfl
theorem gs9 : Tryz.prog.globalNamed "augur/api.ErrData" = some 9 := by kernel_rfl
theorem gt9 : (Tryz.prog.globals[9]?).map (·.type) = some 25 := by kernel_rfl
theorem gs10 : Tryz.prog.globalNamed "augur/api.ErrBytes" = some 10 := by kernel_rfl
theorem gt10 : (Tryz.prog.globals[10]?).map (·.type) = some 25 := by kernel_rfl
theorem gs11 : Tryz.prog.globalNamed "augur/api.ErrCode" = some 11 := by kernel_rfl
theorem gt11 : (Tryz.prog.globals[11]?).map (·.type) = some 25 := by kernel_rfl
theorem gs12 : Tryz.prog.globalNamed "augur/api.ErrFuel" = some 12 := by kernel_rfl
theorem gt12 : (Tryz.prog.globals[12]?).map (·.type) = some 25 := by kernel_rfl
theorem gs13 : Tryz.prog.globalNamed "augur/api.ErrHeap" = some 13 := by kernel_rfl
theorem gt13 : (Tryz.prog.globals[13]?).map (·.type) = some 25 := by kernel_rfl
theorem gs14 : Tryz.prog.globalNamed "augur/api.ErrFrames" = some 14 := by kernel_rfl
theorem gt14 : (Tryz.prog.globals[14]?).map (·.type) = some 25 := by kernel_rfl
theorem gs15 : Tryz.prog.globalNamed "augur/api.ErrState" = some 15 := by kernel_rfl
theorem gt15 : (Tryz.prog.globals[15]?).map (·.type) = some 25 := by kernel_rfl
theorem gs18 : Tryz.prog.globalNamed "strconv.ErrRange" = some 18 := by kernel_rfl
theorem gt18 : (Tryz.prog.globals[18]?).map (·.type) = some 25 := by kernel_rfl
theorem gs17 : Tryz.prog.globalNamed "strconv.ErrSyntax" = some 17 := by kernel_rfl
theorem gt17 : (Tryz.prog.globals[17]?).map (·.type) = some 25 := by kernel_rfl
/-- What the row says of the package's variables. -/
abbrev laidF : List (String × DataW Unit) := Rows.parsePartsRow.laid
def onF (g : Nat) : Bool := g == 0 || g == 1 || g == 2 || g == 3 || g == 4 || g == 5 || g == 6 || g == 7 || g == 8 || g == 9 || g == 10 || g == 11 || g == 12 || g == 13 || g == 14 || g == 15 || g == 17 || g == 18
abbrev mmF (W : World) : Nat → Option Obj := fun b => if b == 19 then W.heap[b]? else none
theorem env_ok {W : World} (h : laidMet Tryz.prog laidF W) : ∃ eb : Nat → Addr, EnvOK (seatV ⟨eb, onF, mmF W⟩) W (fun _ => False) := by
 obtain ⟨eb, he⟩ := laid_env (TE := 157) Tryz.underlying25 rowV Tryz.underlying155 Tryz.underlying157 rfl rfl Tryz.underlying9 cellsE cellsS h (fun g => if onF g = true then some (.sent g) else none) (by
  intro g x hg
  split at hg
  ·rename_i hlt
   cases hg
   refine ⟨rfl, ?_⟩
   have : g = 0 ∨ g = 1 ∨ g = 2 ∨ g = 3 ∨ g = 4 ∨ g = 5 ∨ g = 6 ∨ g = 7 ∨ g = 8 ∨ g = 9 ∨ g = 10 ∨ g = 11 ∨ g = 12 ∨ g = 13 ∨ g = 14 ∨ g = 15 ∨ g = 17 ∨ g = 18 := by simpa [onF, or_assoc] using hlt
   rcases this with rfl | rfl | rfl | rfl | rfl | rfl | rfl | rfl | rfl | rfl | rfl | rfl | rfl | rfl | rfl | rfl | rfl | rfl
   ·exact ⟨("augur/api.ErrLarge", Rows.laid_augur_api_ErrLarge), List.mem_of_getElem? (i := 6) rfl, gs0, gt0, _, rfl⟩
   ·exact ⟨("augur/api.ErrText", Rows.laid_augur_api_ErrText), List.mem_of_getElem? (i := 3) rfl, gs1, gt1, _, rfl⟩
   ·exact ⟨("augur/api.ErrSyntax", Rows.laid_augur_api_ErrSyntax), List.mem_of_getElem? (i := 4) rfl, gs2, gt2, _, rfl⟩
   ·exact ⟨("augur/api.ErrNest", Rows.laid_augur_api_ErrNest), List.mem_of_getElem? (i := 5) rfl, gs3, gt3, _, rfl⟩
   ·exact ⟨("augur/api.ErrNames", Rows.laid_augur_api_ErrNames), List.mem_of_getElem? (i := 7) rfl, gs4, gt4, _, rfl⟩
   ·exact ⟨("augur/api.ErrTypes", Rows.laid_augur_api_ErrTypes), List.mem_of_getElem? (i := 8) rfl, gs5, gt5, _, rfl⟩
   ·exact ⟨("augur/api.ErrModes", Rows.laid_augur_api_ErrModes), List.mem_of_getElem? (i := 9) rfl, gs6, gt6, _, rfl⟩
   ·exact ⟨("augur/api.ErrDet", Rows.laid_augur_api_ErrDet), List.mem_of_getElem? (i := 10) rfl, gs7, gt7, _, rfl⟩
   ·exact ⟨("augur/api.ErrNone", Rows.laid_augur_api_ErrNone), List.mem_of_getElem? (i := 11) rfl, gs8, gt8, _, rfl⟩
   ·exact ⟨("augur/api.ErrData", Rows.laid_augur_api_ErrData), List.mem_of_getElem? (i := 12) rfl, gs9, gt9, _, rfl⟩
   ·exact ⟨("augur/api.ErrBytes", Rows.laid_augur_api_ErrBytes), List.mem_of_getElem? (i := 13) rfl, gs10, gt10, _, rfl⟩
   ·exact ⟨("augur/api.ErrCode", Rows.laid_augur_api_ErrCode), List.mem_of_getElem? (i := 14) rfl, gs11, gt11, _, rfl⟩
   ·exact ⟨("augur/api.ErrFuel", Rows.laid_augur_api_ErrFuel), List.mem_of_getElem? (i := 15) rfl, gs12, gt12, _, rfl⟩
   ·exact ⟨("augur/api.ErrHeap", Rows.laid_augur_api_ErrHeap), List.mem_of_getElem? (i := 16) rfl, gs13, gt13, _, rfl⟩
   ·exact ⟨("augur/api.ErrFrames", Rows.laid_augur_api_ErrFrames), List.mem_of_getElem? (i := 17) rfl, gs14, gt14, _, rfl⟩
   ·exact ⟨("augur/api.ErrState", Rows.laid_augur_api_ErrState), List.mem_of_getElem? (i := 18) rfl, gs15, gt15, _, rfl⟩
   ·exact ⟨("strconv.ErrSyntax", Rows.laid_strconv_ErrSyntax), List.mem_of_getElem? (i := 20) rfl, gs17, gt17, _, rfl⟩
   ·exact ⟨("strconv.ErrRange", Rows.laid_strconv_ErrRange), List.mem_of_getElem? (i := 19) rfl, gs18, gt18, _, rfl⟩
  ·cases hg)
 exact ⟨eb, he (fun b => b == 19) (fun _ => false) (fun f => panL.contains f)⟩
theorem gtT : (Tryz.prog.globals[19]?).map (·.type) = some 160 := by kernel_rfl
theorem cellsT : Tryz.prog.cellsOf 160 = 20 := by kernel_rfl
theorem cellsU : Tryz.prog.cellsOf 140 = 1 := by kernel_rfl
theorem envs_ok {W : World} (h : laidMet Tryz.prog laidF W) (eb : Nat → Addr) : Envs ⟨eb, onF, mmF W⟩ := by
 obtain ⟨T, fr, hh⟩ := laid_tab (zs := Lib.pow10Tab) (k := .u64) (name := "internal/strconv.uint64pow10") h (by
  show _ ∈ Rows.parsePartsRow.laid
  have : Lib.tabData (H := Unit) .u64 Lib.pow10Tab = Rows.laid_internal_strconv_uint64pow10 := rfl
  rw [this]; simp [Rows.parsePartsRow]) pow10_named gtT Tryz.underlying160 Tryz.underlying140 cellsU cellsT
 exact ⟨⟨⟨rfl⟩, ⟨rfl⟩, ⟨rfl⟩, ⟨rfl⟩⟩, ⟨T, fr, hh⟩, ⟨rfl⟩, ⟨rfl⟩⟩
instance onAll {eb : Nat → Addr} {mm : Nat → Option Obj} : OnAll ⟨eb, onF, mm⟩ := ⟨fun g hg => by
 have : g = 0 ∨ g = 1 ∨ g = 2 ∨ g = 3 ∨ g = 4 ∨ g = 5 ∨ g = 6 ∨ g = 7 ∨ g = 8 ∨ g = 9 ∨ g = 10 ∨ g = 11 ∨ g = 12 ∨ g = 13 ∨ g = 14 ∨ g = 15 := by omega
 rcases this with rfl | rfl | rfl | rfl | rfl | rfl | rfl | rfl | rfl | rfl | rfl | rfl | rfl | rfl | rfl | rfl <;> rfl⟩
theorem read9 : Tryz.prog.readableRec 9 = true := by kernel_rfl
theorem size9 : 9 < Tryz.prog.types.size := of_decide_eq_true (by kernel_rfl)
theorem str_rep {H : Type} {enc : TypeId × Value → H} {W : World} {base : Nat} {v0 : Value} {d0 : DataW H} {ps : List MemPlace} {V : Env}
  (hok : Value.okWide Tryz.prog W .any base 9 v0) (h0 : DataW.Trod enc Tryz.prog W 0 (fun _ => true) true 9 v0 d0 ps) : ∃ s : ByteArray, RepA V W (fun _ => False) v0 (.d (.str s)) := by
 unfold Value.okWide at hok
 simp only [Tryz.underlying9] at hok
 cases v0 with
 | string s => exact ⟨s, .d _ _ (.str s)⟩
 | _ => exact hok.elim
/-- The law's call, from its contract. -/
theorem law_callsN {P : Program} {f : FuncId} {V : Env} {W : World} {x0 : D} {v0 : Value} (ok : ACall P V f [.d x0] (fun _ => none) (fun r _ => r = .d (.bool true))) (r0 : RepA V W (fun _ => False) v0 (.d x0)) (he : EnvOK V W (fun _ => False)) :
  Calls P f #[v0] W fun e W' => e = .returned (.bool true) ∧ Below W.heap.size W W' := by
 have := ok (fun _ => False) W [v0] rfl (fun j h h' => by
  match j with
  | 0 => exact r0
  | j + 1 => exact absurd h (by simp only [List.length_cons, List.length_nil]; omega)) ⟨(fun b o h => by cases h), (fun b h => h.elim), he, (fun b o h => by cases h)⟩
 refine this.mono ?_
 rintro e W' ⟨v, r, Z', H', rfl, hv, _, hx, rfl⟩
 refine ⟨?_, below_of hx⟩
 cases hv with
 | d _ _ h => cases h; rfl
/-- The door's own heap meets the condition. -/
theorem door_met (os : Os) (args : Array Value) : laidMetH Tryz.prog laidF ((World.doorLaid Tryz.prog 700 os).forCall (fun _ _ => 0) ⟨#[], args, []⟩).memory :=
 laidMetH_of_parts3 (fuel := 8) (laidMet_of_run' 8 (by kernel_rfl) (by kernel_rfl)) (by kernel_rfl) (by kernel_rfl)
theorem parseParts_lifted (os : Os) (started : os.Started) (H : Type) (enc : TypeId × Value → H) :
  ReturnsInHanded {} Tryz.checked os 4 .any (fun w args => (Rows.parsePartsSpec.pre enc Tryz.prog Tryz.f4 [] false w args ∧ laidMetH Tryz.prog laidF w) ∧ sizedMet enc Tryz.prog Tryz.f4 (OpenSpec.ofChange Rows.parsePartsSpec) false w args)
   (Rows.parsePartsSpec.post enc Tryz.prog Tryz.f4 false true false false) := by
 refine returnsInHanded_of_change_and (C := Tryz.checked) (X := fun w _ => laidMetH Tryz.prog laidF w) (fun _ _ _ hh h => h.of_heap hh) own started (by kernel_rfl) Tryz.func4
  (ChangeSpec.witness_shaped (enc := enc) (C := Tryz.checked) (os := os) (X := fun w _ => laidMetH Tryz.prog laidF w) false (World.doorLaid Tryz.prog 700 os) #[.string ⟨#[]⟩] 8 rfl (World.shaped_of_RefB (by kernel_rfl) (by kernel_rfl)) (by kernel_rfl) (by kernel_rfl) (by kernel_rfl) (door_met os _)) ?_
 intro W base args ds gs before hval0 hW _ _ hL _
 have hval : ∀ (j : Nat) t v, Tryz.f4.params[j]? = some t → args[j]? = some v → Value.okWide Tryz.prog W .any base t v := hval0
 have hW' := hW
 obtain ⟨p, q, hA0, hV, rfl, hfz, hnd⟩ := hW
 have hA : DataW.TrodAll enc Tryz.prog W 0 (fun _ => true) true Tryz.f4.params.toList args.toList ds p := hA0
 have hlt := hA.lt
 rw [Tryz.params4] at hA hval
 obtain ⟨v0, d0, rfl, rfl, h0⟩ := trodAll_one hA
 obtain ⟨rfl, rfl⟩ := trodVars_none hV
 have hL' : laidMet Tryz.prog laidF W := by
  have := hL
  rwa [MakeChecks.laidMetH_plain _ _ _ (by kernel_rfl)] at this
 obtain ⟨eb, henv⟩ := env_ok hL'
 haveI := envs_ok hL' eb
 obtain ⟨s0, r0⟩ := str_rep (V := seatV ⟨eb, onF, mmF W⟩) (hval 0 9 v0 rfl rfl) h0
 refine (law_callsN (parseParts_ok s0 (fun _ => none) _ rfl) r0 henv).mono ?_
 rintro e W' ⟨rfl, hbl⟩
 have e1 : Rows.parsePartsSpec.fn H ([d0] ++ []) = { results := [.lit (.bool true)], args := [d0] } := rfl
 refine ⟨_, rfl, _, _, _, [], p, [], hW', ?_, ?_, ?_, hbl.frame _, fun h => by cases h⟩
 ·rw [e1]; exact trodAll_mk1 (shut_bool Tryz.underlying4 true)
 ·rw [e1]; exact trodAll_mk1 (Below.trod laidOut read9 size9 h0 hbl hlt)
 ·rw [e1]; rfl
theorem parseParts_holds : Rows.ParsePartsSaid :=
 OpenClaim.holds_of_wide 4 Tryz.f4 rfl rfl rfl rfl rfl rfl rfl ⟨rfl, rfl, rfl, rfl, rfl⟩ rfl rfl rfl rfl rfl (by kernel_rfl) Tryz.func4 (by kernel_rfl)
  (of_decide_eq_true (by kernel_rfl)) (by unfold Func.isWrapper; first | (rw [if_pos (by decide +kernel)]; kernel_rfl) | (rw [if_neg (by decide +kernel)]; exact ⟨rfl, rfl⟩))
  (fun os started H enc _ => parseParts_lifted os started H enc)
theorem parseParts_card : Rows.ParsePartsCardSaid :=
 Claim7.holds_tied_plain_at .later [] _ _ _ _ parseParts_holds (fun _ h => by cases h) (by kernel_rfl) (fun _ h => by cases h) parseParts_row_tie rfl ⟨rfl, rfl⟩ (by kernel_rfl) rfl
  (fun f fn hf hfn => by
   obtain rfl : f = 4 := Option.some.inj ((show Tryz.prog.funcNamed "augur/augurlaw02.ParseParts" = some 4 by kernel_rfl).symm.trans hf) |>.symm
   obtain rfl : fn = Tryz.f4 := (Option.some.inj (Tryz.func4.symm.trans hfn)).symm
   exact ⟨by kernel_rfl, fun j t ht => by
    rw [Tryz.params4] at ht
    have hm : t ∈ [9] := by simpa using Array.mem_of_getElem? ht
    have hall : ([9].all fun u => !Tryz.prog.wantsStandIn u) = true := by kernel_rfl
    exact (show Tryz.prog.wantsStandIn t = false by simpa using List.all_eq_true.1 hall t hm)⟩)
  (by kernel_rfl)
#print axioms parseParts_card
end Go.Proofs.YtckdiafomldepaaGreatDoor
