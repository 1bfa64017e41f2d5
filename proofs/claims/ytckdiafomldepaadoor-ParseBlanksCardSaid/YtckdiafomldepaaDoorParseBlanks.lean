/- ParseBlanks: the row and the card. -/
import Derived.Test.YtckdiafomldepaaDoorAugFour
import Derived.Test.YtckdiafomldepaaDoorRows
import Derived.Test.YtckdiafomldepaaDoorCards
import Derived.Test.YtckdiafomldepaaDoorTie
import Derived.ChangeSame
import Derived.ChangeVars
import Derived.JoinedOf
import Derived.RowKit
import Derived.RowKitTokens
import Derived.Carry
import Derived.LaidLaws
import Derived.LaidMore
import Derived.OpenShut
import Derived.Lay
import Derived.Stop.ErrReads
import Derived.Stop.Joined
import Derived.SevenTiedAt
import Derived.Test.YtckdiafomldepaaDoorReaderSix
set_option linter.all false
set_option linter.unusedVariables false
set_option linter.unusedSimpArgs false
set_option linter.unusedSectionVars false

/- ParseBlanks: the row and the card. -/
namespace Go.Proofs.YtckdiafomldepaaDoor
open Go Go.Aug Go.ChangeShapes Go.WideShapes Go.RowKit
set_option maxRecDepth 100000
theorem own : ownKnob Tryd.prog.godebug = none := by kernel_rfl
theorem starV : "*" ++ "errors.errorString" = "*errors.errorString" := by decide
theorem rowV (u : TypeId) (h : Tryd.prog.typeName? 3 u = some "*errors.errorString") : u = 140 :=
 typeName_ptr_named (nm := "errors.errorString") (by rw [starV]; kernel_rfl) (by kernel_rfl) (by decide) u (by rw [starV]; exact h)
theorem cellsE : Tryd.prog.cellsOf 142 = 1 := by kernel_rfl
theorem cellsS : Tryd.prog.cellsOf 9 = 1 := by kernel_rfl
theorem laidOut : laidOutB Tryd.prog = true := by kernel_rfl
theorem gs3 : Tryd.prog.globalNamed "augur/api.ErrText" = some 3 := by kernel_rfl
theorem gt3 : (Tryd.prog.globals[3]?).map (·.type) = some 28 := by kernel_rfl
theorem gs2 : Tryd.prog.globalNamed "augur/api.ErrSyntax" = some 2 := by kernel_rfl
theorem gt2 : (Tryd.prog.globals[2]?).map (·.type) = some 28 := by kernel_rfl
theorem gs0 : Tryd.prog.globalNamed "augur/api.ErrNest" = some 0 := by kernel_rfl
theorem gt0 : (Tryd.prog.globals[0]?).map (·.type) = some 28 := by kernel_rfl
theorem gs1 : Tryd.prog.globalNamed "augur/api.ErrLarge" = some 1 := by kernel_rfl
theorem gt1 : (Tryd.prog.globals[1]?).map (·.type) = some 28 := by kernel_rfl
theorem gs4 : Tryd.prog.globalNamed "augur/api.ErrNames" = some 4 := by kernel_rfl
theorem gt4 : (Tryd.prog.globals[4]?).map (·.type) = some 28 := by kernel_rfl
theorem gs5 : Tryd.prog.globalNamed "augur/api.ErrTypes" = some 5 := by kernel_rfl
theorem gt5 : (Tryd.prog.globals[5]?).map (·.type) = some 28 := by kernel_rfl
theorem gs6 : Tryd.prog.globalNamed "augur/api.ErrModes" = some 6 := by kernel_rfl
theorem gt6 : (Tryd.prog.globals[6]?).map (·.type) = some 28 := by kernel_rfl
theorem gs7 : Tryd.prog.globalNamed "augur/api.ErrDet" = some 7 := by kernel_rfl
theorem gt7 : (Tryd.prog.globals[7]?).map (·.type) = some 28 := by kernel_rfl
theorem gs8 : Tryd.prog.globalNamed "augur/api.ErrNone" = some 8 := by kernel_rfl
theorem gt8 : (Tryd.prog.globals[8]?).map (·.type) = some 28 := by kernel_rfl
theorem gs9 : Tryd.prog.globalNamed "augur/api.ErrData" = some 9 := by kernel_rfl
theorem gt9 : (Tryd.prog.globals[9]?).map (·.type) = some 28 := by kernel_rfl
theorem gs10 : Tryd.prog.globalNamed "augur/api.ErrBytes" = some 10 := by kernel_rfl
theorem gt10 : (Tryd.prog.globals[10]?).map (·.type) = some 28 := by kernel_rfl
theorem gs11 : Tryd.prog.globalNamed "augur/api.ErrCode" = some 11 := by kernel_rfl
theorem gt11 : (Tryd.prog.globals[11]?).map (·.type) = some 28 := by kernel_rfl
theorem gs12 : Tryd.prog.globalNamed "augur/api.ErrFuel" = some 12 := by kernel_rfl
theorem gt12 : (Tryd.prog.globals[12]?).map (·.type) = some 28 := by kernel_rfl
theorem gs13 : Tryd.prog.globalNamed "augur/api.ErrHeap" = some 13 := by kernel_rfl
theorem gt13 : (Tryd.prog.globals[13]?).map (·.type) = some 28 := by kernel_rfl
theorem gs14 : Tryd.prog.globalNamed "augur/api.ErrFrames" = some 14 := by kernel_rfl
theorem gt14 : (Tryd.prog.globals[14]?).map (·.type) = some 28 := by kernel_rfl
theorem gs15 : Tryd.prog.globalNamed "augur/api.ErrState" = some 15 := by kernel_rfl
theorem gt15 : (Tryd.prog.globals[15]?).map (·.type) = some 28 := by kernel_rfl
theorem gs18 : Tryd.prog.globalNamed "strconv.ErrRange" = some 18 := by kernel_rfl
theorem gt18 : (Tryd.prog.globals[18]?).map (·.type) = some 28 := by kernel_rfl
theorem gs17 : Tryd.prog.globalNamed "strconv.ErrSyntax" = some 17 := by kernel_rfl
theorem gt17 : (Tryd.prog.globals[17]?).map (·.type) = some 28 := by kernel_rfl
/-- What the row says of the package's variables. -/
abbrev laidF : List (String × DataW Unit) := Rows.parseBlanksRow.laid
def onF (g : Nat) : Bool := g == 0 || g == 1 || g == 2 || g == 3 || g == 4 || g == 5 || g == 6 || g == 7 || g == 8 || g == 9 || g == 10 || g == 11 || g == 12 || g == 13 || g == 14 || g == 15 || g == 17 || g == 18
abbrev mmF (W : World) : Nat → Option Obj := fun b => if b == 19 then W.heap[b]? else none
theorem env_ok {W : World} (h : laidMet Tryd.prog laidF W) : ∃ eb : Nat → Addr, EnvOK (seatV ⟨eb, onF, mmF W⟩) W (fun _ => False) := by
 obtain ⟨eb, he⟩ := laid_env (TE := 142) Tryd.underlying28 rowV Tryd.underlying140 Tryd.underlying142 rfl rfl Tryd.underlying9 cellsE cellsS h (fun g => if onF g = true then some (.sent g) else none) (by
  intro g x hg
  split at hg
  ·rename_i hlt
   cases hg
   refine ⟨rfl, ?_⟩
   have : g = 0 ∨ g = 1 ∨ g = 2 ∨ g = 3 ∨ g = 4 ∨ g = 5 ∨ g = 6 ∨ g = 7 ∨ g = 8 ∨ g = 9 ∨ g = 10 ∨ g = 11 ∨ g = 12 ∨ g = 13 ∨ g = 14 ∨ g = 15 ∨ g = 17 ∨ g = 18 := by simpa [onF, or_assoc] using hlt
   rcases this with rfl | rfl | rfl | rfl | rfl | rfl | rfl | rfl | rfl | rfl | rfl | rfl | rfl | rfl | rfl | rfl | rfl | rfl
   ·exact ⟨("augur/api.ErrNest", Rows.laid_augur_api_ErrNest), List.mem_of_getElem? (i := 5) rfl, gs0, gt0, _, rfl⟩
   ·exact ⟨("augur/api.ErrLarge", Rows.laid_augur_api_ErrLarge), List.mem_of_getElem? (i := 6) rfl, gs1, gt1, _, rfl⟩
   ·exact ⟨("augur/api.ErrSyntax", Rows.laid_augur_api_ErrSyntax), List.mem_of_getElem? (i := 4) rfl, gs2, gt2, _, rfl⟩
   ·exact ⟨("augur/api.ErrText", Rows.laid_augur_api_ErrText), List.mem_of_getElem? (i := 3) rfl, gs3, gt3, _, rfl⟩
   ·exact ⟨("augur/api.ErrNames", Rows.laid_augur_api_ErrNames), List.mem_of_getElem? (i := 7) rfl, gs4, gt4, _, rfl⟩
   ·exact ⟨("augur/api.ErrTypes", Rows.laid_augur_api_ErrTypes), List.mem_of_getElem? (i := 8) rfl, gs5, gt5, _, rfl⟩
   ·exact ⟨("augur/api.ErrModes", Rows.laid_augur_api_ErrModes), List.mem_of_getElem? (i := 9) rfl, gs6, gt6, _, rfl⟩
   ·exact ⟨("augur/api.ErrDet", Rows.laid_augur_api_ErrDet), List.mem_of_getElem? (i := 10) rfl, gs7, gt7, _, rfl⟩
   ·exact ⟨("augur/api.ErrNone", Rows.laid_augur_api_ErrNone), List.mem_of_getElem? (i := 11) rfl, gs8, gt8, _, rfl⟩
   ·exact ⟨("augur/api.ErrData", Rows.laid_augur_api_ErrData), List.mem_of_getElem? (i := 12) rfl, gs9, gt9, _, rfl⟩
   ·exact ⟨("augur/api.ErrBytes", Rows.laid_augur_api_ErrBytes), List.mem_of_getElem? (i := 13) rfl, gs10, gt10, _, rfl⟩
   ·exact ⟨("augur/api.ErrCode", Rows.laid_augur_api_ErrCode), List.mem_of_getElem? (i := 14) rfl, gs11, gt11, _, rfl⟩
   ·exact ⟨("augur/api.ErrFuel", Rows.laid_augur_api_ErrFuel), List.mem_of_getElem? (i := 15) rfl, gs12, gt12, _, rfl⟩
   ·exact ⟨("augur/api.ErrHeap", Rows.laid_augur_api_ErrHeap), List.mem_of_getElem? (i := 16) rfl, gs13, gt13, _, rfl⟩
   ·exact ⟨("augur/api.ErrFrames", Rows.laid_augur_api_ErrFrames), List.mem_of_getElem? (i := 17) rfl, gs14, gt14, _, rfl⟩
   ·exact ⟨("augur/api.ErrState", Rows.laid_augur_api_ErrState), List.mem_of_getElem? (i := 18) rfl, gs15, gt15, _, rfl⟩
   ·exact ⟨("strconv.ErrSyntax", Rows.laid_strconv_ErrSyntax), List.mem_of_getElem? (i := 20) rfl, gs17, gt17, _, rfl⟩
   ·exact ⟨("strconv.ErrRange", Rows.laid_strconv_ErrRange), List.mem_of_getElem? (i := 19) rfl, gs18, gt18, _, rfl⟩
  ·cases hg)
 exact ⟨eb, he (fun b => b == 19) (fun _ => false) (fun f => panL.contains f)⟩
theorem gtT : (Tryd.prog.globals[19]?).map (·.type) = some 145 := by kernel_rfl
theorem cellsT : Tryd.prog.cellsOf 145 = 20 := by kernel_rfl
theorem cellsU : Tryd.prog.cellsOf 125 = 1 := by kernel_rfl
theorem envs_ok {W : World} (h : laidMet Tryd.prog laidF W) (eb : Nat → Addr) : Envs ⟨eb, onF, mmF W⟩ := by
 obtain ⟨T, fr, hh⟩ := laid_tab (zs := Lib.pow10Tab) (k := .u64) (name := "internal/strconv.uint64pow10") h (by
  show _ ∈ Rows.parseBlanksRow.laid
  have : Lib.tabData (H := Unit) .u64 Lib.pow10Tab = Rows.laid_internal_strconv_uint64pow10 := rfl
  rw [this]; simp [Rows.parseBlanksRow]) pow10_named gtT Tryd.underlying145 Tryd.underlying125 cellsU cellsT
 exact ⟨⟨⟨rfl⟩, ⟨rfl⟩, ⟨rfl⟩, ⟨rfl⟩⟩, ⟨T, fr, hh⟩, ⟨rfl⟩, ⟨rfl⟩⟩
instance onAll {eb : Nat → Addr} {mm : Nat → Option Obj} : OnAll ⟨eb, onF, mm⟩ := ⟨fun g hg => by
 have : g = 0 ∨ g = 1 ∨ g = 2 ∨ g = 3 ∨ g = 4 ∨ g = 5 ∨ g = 6 ∨ g = 7 ∨ g = 8 ∨ g = 9 ∨ g = 10 ∨ g = 11 ∨ g = 12 ∨ g = 13 ∨ g = 14 ∨ g = 15 := by omega
 rcases this with rfl | rfl | rfl | rfl | rfl | rfl | rfl | rfl | rfl | rfl | rfl | rfl | rfl | rfl | rfl | rfl <;> rfl⟩
theorem read3 : Tryd.prog.readableRec 3 = true := by kernel_rfl
theorem size3 : 3 < Tryd.prog.types.size := of_decide_eq_true (by kernel_rfl)
theorem read9 : Tryd.prog.readableRec 9 = true := by kernel_rfl
theorem size9 : 9 < Tryd.prog.types.size := of_decide_eq_true (by kernel_rfl)
theorem str_rep {H : Type} {enc : TypeId × Value → H} {W : World} {base : Nat} {v0 : Value} {d0 : DataW H} {ps : List MemPlace} {V : Env}
  (hok : Value.okWide Tryd.prog W .any base 9 v0) (h0 : DataW.Trod enc Tryd.prog W 0 (fun _ => true) true 9 v0 d0 ps) : ∃ s : ByteArray, RepA V W (fun _ => False) v0 (.d (.str s)) := by
 unfold Value.okWide at hok
 simp only [Tryd.underlying9] at hok
 cases v0 with
 | string s => exact ⟨s, .d _ _ (.str s)⟩
 | _ => exact hok.elim
theorem closedI : closedT Tryd.prog [3] = true := by kernel_rfl
theorem int_rep {H : Type} {enc : TypeId × Value → H} {W : World} {base : Nat} {v0 : Value} {d0 : DataW H} {ps : List MemPlace} {V : Env}
  (hok : Value.okWide Tryd.prog W .any base 3 v0) (h0 : DataW.Trod enc Tryd.prog W 0 (fun _ => true) true 3 v0 d0 ps) : ∃ s : Int, (-9223372036854775808 ≤ s ∧ s ≤ 9223372036854775807) ∧ RepA V W (fun _ => False) v0 (.d (.int .i64 s)) := by
 unfold Value.okWide at hok
 simp only [Tryd.underlying3] at hok
 cases v0 with
 | int k s =>
  obtain ⟨fuel, h0⟩ := h0
  obtain ⟨ds, h1, h2⟩ := trod_rep (V := V) (Z := fun _ => False) closedI (fun _ h => h) fuel 3 _ _ (by decide) h0
  have h2' : RepL V W (fun _ => False) [.int k s] ds := h2
  cases fuel with
  | zero => exact h1.elim
  | succ fuel =>
   simp only [HasT, Tryd.underlying3] at h1
   obtain ⟨m, rfl, hm⟩ := h1
   have := (h2'.2 0 _ _ rfl rfl).1
   cases this
   exact ⟨s, by simpa [Lit.wf, IntKind.min, IntKind.max, IntKind.signed, IntKind.bits] using hm, .d _ _ (.int ..)⟩
 | _ => exact hok.elim
/-- The law's call, from its contract. -/
theorem law_callsN {P : Program} {f : FuncId} {V : Env} {W : World} {x0 x1 : D} {v0 v1 : Value} (ok : ACall P V f [.d x0, .d x1] (fun _ => none) (fun r _ => r = .d (.bool true))) (r0 : RepA V W (fun _ => False) v0 (.d x0)) (r1 : RepA V W (fun _ => False) v1 (.d x1)) (he : EnvOK V W (fun _ => False)) :
  Calls P f #[v0, v1] W fun e W' => e = .returned (.bool true) ∧ Below W.heap.size W W' := by
 have := ok (fun _ => False) W [v0, v1] rfl (fun j h h' => by
  match j with
  | 0 => exact r0
  | 1 => exact r1
  | j + 2 => exact absurd h (by simp only [List.length_cons, List.length_nil]; omega)) ⟨(fun b o h => by cases h), (fun b h => h.elim), he, (fun b o h => by cases h)⟩
 refine this.mono ?_
 rintro e W' ⟨v, r, Z', H', rfl, hv, _, hx, rfl⟩
 refine ⟨?_, below_of hx⟩
 cases hv with
 | d _ _ h => cases h; rfl
/-- The door's own heap meets the condition. -/
theorem door_met (os : Os) (args : Array Value) : laidMetH Tryd.prog laidF ((World.doorLaid Tryd.prog 700 os).forCall (fun _ _ => 0) ⟨#[], args, []⟩).memory :=
 laidMetH_of_parts3 (fuel := 8) (laidMet_of_run' 8 (by kernel_rfl) (by kernel_rfl)) (by kernel_rfl) (by kernel_rfl)
theorem parseBlanks_lifted (os : Os) (started : os.Started) (H : Type) (enc : TypeId × Value → H) :
  ReturnsInHanded {} Tryd.checked os 3 .any (fun w args => (Rows.parseBlanksSpec.pre enc Tryd.prog Tryd.f3 [] false w args ∧ laidMetH Tryd.prog laidF w) ∧ sizedMet enc Tryd.prog Tryd.f3 (OpenSpec.ofChange Rows.parseBlanksSpec) false w args)
   (Rows.parseBlanksSpec.post enc Tryd.prog Tryd.f3 false true false false) := by
 refine returnsInHanded_of_change_and (C := Tryd.checked) (X := fun w _ => laidMetH Tryd.prog laidF w) (fun _ _ _ hh h => h.of_heap hh) own started (by kernel_rfl) Tryd.func3
  (ChangeSpec.witness_shaped (enc := enc) (C := Tryd.checked) (os := os) (X := fun w _ => laidMetH Tryd.prog laidF w) false (World.doorLaid Tryd.prog 700 os) #[.string ⟨#[]⟩, .int .i64 0] 8 rfl (World.shaped_of_RefB (by kernel_rfl) (by kernel_rfl)) (by kernel_rfl) (by kernel_rfl) (by kernel_rfl) (door_met os _)) ?_
 intro W base args ds gs before hval0 hW _ _ hL _
 have hval : ∀ (j : Nat) t v, Tryd.f3.params[j]? = some t → args[j]? = some v → Value.okWide Tryd.prog W .any base t v := hval0
 have hW' := hW
 obtain ⟨p, q, hA0, hV, rfl, hfz, hnd⟩ := hW
 have hA : DataW.TrodAll enc Tryd.prog W 0 (fun _ => true) true Tryd.f3.params.toList args.toList ds p := hA0
 have hlt := hA.lt
 rw [Tryd.params3] at hA hval
 obtain ⟨v0, v1, d0, d1, p0, p1, rfl, rfl, rfl, h0, h1⟩ := trodAll_two hA
 obtain ⟨rfl, rfl⟩ := trodVars_none hV
 have hL' : laidMet Tryd.prog laidF W := by
  have := hL
  rwa [MakeChecks.laidMetH_plain _ _ _ (by kernel_rfl)] at this
 obtain ⟨eb, henv⟩ := env_ok hL'
 haveI := envs_ok hL' eb
 obtain ⟨s0, r0⟩ := str_rep (V := seatV ⟨eb, onF, mmF W⟩) (hval 0 9 v0 rfl rfl) h0
 obtain ⟨s1, i1, r1⟩ := int_rep (V := seatV ⟨eb, onF, mmF W⟩) (hval 1 3 v1 rfl rfl) h1
 refine (law_callsN (parseBlanks_ok s0 s1 i1 (fun _ => none) _ rfl) r0 r1 henv).mono ?_
 rintro e W' ⟨rfl, hbl⟩
 have e1 : Rows.parseBlanksSpec.fn H ([d0, d1] ++ []) = { results := [.lit (.bool true)], args := [d0, d1] } := rfl
 refine ⟨_, rfl, _, _, _, [], p0 ++ p1, [], hW', ?_, ?_, ?_, hbl.frame _, fun h => by cases h⟩
 ·rw [e1]; exact trodAll_mk1 (shut_bool Tryd.underlying4 true)
 ·rw [e1]; exact trodAll_mk2 (Below.trod laidOut read9 size9 h0 hbl (fun x hx => hlt x (List.mem_append.2 (.inl hx)))) (Below.trod laidOut read3 size3 h1 hbl (fun x hx => hlt x (List.mem_append.2 (.inr hx))))
 ·rw [e1]; rfl
theorem parseBlanks_holds : Rows.ParseBlanksSaid :=
 OpenClaim.holds_of_wide 3 Tryd.f3 rfl rfl rfl rfl rfl rfl rfl ⟨rfl, rfl, rfl, rfl, rfl⟩ rfl rfl rfl rfl rfl (by kernel_rfl) Tryd.func3 (by kernel_rfl)
  (of_decide_eq_true (by kernel_rfl)) (by unfold Func.isWrapper; first | (rw [if_pos (by decide +kernel)]; kernel_rfl) | (rw [if_neg (by decide +kernel)]; exact ⟨rfl, rfl⟩))
  (fun os started H enc _ => parseBlanks_lifted os started H enc)
theorem parseBlanks_card : Rows.ParseBlanksCardSaid :=
 Claim7.holds_tied_plain_at .later [] _ _ _ _ parseBlanks_holds (fun _ h => by cases h) (by kernel_rfl) (fun _ h => by cases h) parseBlanks_row_tie rfl ⟨rfl, rfl⟩ (by kernel_rfl) rfl
  (fun f fn hf hfn => by
   obtain rfl : f = 3 := Option.some.inj ((show Tryd.prog.funcNamed "augur/augurlaw02.ParseBlanks" = some 3 by kernel_rfl).symm.trans hf) |>.symm
   obtain rfl : fn = Tryd.f3 := (Option.some.inj (Tryd.func3.symm.trans hfn)).symm
   exact ⟨by kernel_rfl, fun j t ht => by
    rw [Tryd.params3] at ht
    have hm : t ∈ [9, 3] := by simpa using Array.mem_of_getElem? ht
    have hall : ([9, 3].all fun u => !Tryd.prog.wantsStandIn u) = true := by kernel_rfl
    exact (show Tryd.prog.wantsStandIn t = false by simpa using List.all_eq_true.1 hall t hm)⟩)
  (by kernel_rfl)
#print axioms parseBlanks_card
end Go.Proofs.YtckdiafomldepaaDoor
