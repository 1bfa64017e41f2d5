/- ParseDeep: the row and the card. -/
import Derived.Test.YtckdiafomldepaaDoorAugFour
import Derived.Test.YtckdiafomldepaaDoorRows
import Derived.Test.YtckdiafomldepaaDoorCards
import Derived.Test.YtckdiafomldepaaDoorTie
import Derived.ChangeSame
import Derived.ChangeVars
import Derived.JoinedOf
import Derived.RowKit
import Derived.RowKitTokens
import Derived.Carry
import Derived.LaidLaws
import Derived.LaidMore
import Derived.OpenShut
import Derived.Lay
import Derived.Stop.ErrReads
import Derived.Stop.Joined
import Derived.SevenTiedAt
import Derived.Test.YtckdiafomldepaaDoorReaderFour
set_option linter.all false
set_option linter.unusedVariables false
set_option linter.unusedSimpArgs false
set_option linter.unusedSectionVars false

/- ParseDeep: the row and the card. -/
namespace Go.Proofs.YtckdiafomldepaaDoor
open Go Go.Aug Go.ChangeShapes Go.WideShapes Go.RowKit
set_option maxRecDepth 100000
theorem own : ownKnob Tryd.prog.godebug = none := by kernel_rfl
theorem starV : "*" ++ "errors.errorString" = "*errors.errorString" := by decide
theorem rowV (u : TypeId) (h : Tryd.prog.typeName? 3 u = some "*errors.errorString") : u = 140 :=
 typeName_ptr_named (nm := "errors.errorString") (by rw [starV]; kernel_rfl) (by kernel_rfl) (by decide) u (by rw [starV]; exact h)
theorem cellsE : Tryd.prog.cellsOf 142 = 1 := by kernel_rfl
theorem cellsS : Tryd.prog.cellsOf 9 = 1 := by kernel_rfl
theorem laidOut : laidOutB Tryd.prog = true := by kernel_rfl
theorem gs3 : Tryd.prog.globalNamed "augur/api.ErrText" = some 3 := by kernel_rfl
theorem gt3 : (Tryd.prog.globals[3]?).map (·.type) = some 28 := by kernel_rfl
theorem gs2 : Tryd.prog.globalNamed "augur/api.ErrSyntax" = some 2 := by kernel_rfl
theorem gt2 : (Tryd.prog.globals[2]?).map (·.type) = some 28 := by kernel_rfl
theorem gs0 : Tryd.prog.globalNamed "augur/api.ErrNest" = some 0 := by kernel_rfl
theorem gt0 : (Tryd.prog.globals[0]?).map (·.type) = some 28 := by kernel_rfl
theorem gs1 : Tryd.prog.globalNamed "augur/api.ErrLarge" = some 1 := by kernel_rfl
theorem gt1 : (Tryd.prog.globals[1]?).map (·.type) = some 28 := by kernel_rfl
theorem gs18 : Tryd.prog.globalNamed "strconv.ErrRange" = some 18 := by kernel_rfl
theorem gt18 : (Tryd.prog.globals[18]?).map (·.type) = some 28 := by kernel_rfl
theorem gs17 : Tryd.prog.globalNamed "strconv.ErrSyntax" = some 17 := by kernel_rfl
theorem gt17 : (Tryd.prog.globals[17]?).map (·.type) = some 28 := by kernel_rfl
/-- What the row says of the package's variables. -/
abbrev laidF : List (String × DataW Unit) := Rows.parseDeepRow.laid
def onF (g : Nat) : Bool := g == 0 || g == 1 || g == 2 || g == 3 || g == 17 || g == 18
abbrev mmF (W : World) : Nat → Option Obj := fun b => if b == 19 then W.heap[b]? else none
theorem env_ok {W : World} (h : laidMet Tryd.prog laidF W) : ∃ eb : Nat → Addr, EnvOK (seatV ⟨eb, onF, mmF W⟩) W (fun _ => False) := by
 obtain ⟨eb, he⟩ := laid_env (TE := 142) Tryd.underlying28 rowV Tryd.underlying140 Tryd.underlying142 rfl rfl Tryd.underlying9 cellsE cellsS h (fun g => if onF g = true then some (.sent g) else none) (by
  intro g x hg
  split at hg
  ·rename_i hlt
   cases hg
   refine ⟨rfl, ?_⟩
   have : g = 0 ∨ g = 1 ∨ g = 2 ∨ g = 3 ∨ g = 17 ∨ g = 18 := by simpa [onF, or_assoc] using hlt
   rcases this with rfl | rfl | rfl | rfl | rfl | rfl
   ·exact ⟨("augur/api.ErrNest", Rows.laid_augur_api_ErrNest), List.mem_of_getElem? (i := 5) rfl, gs0, gt0, _, rfl⟩
   ·exact ⟨("augur/api.ErrLarge", Rows.laid_augur_api_ErrLarge), List.mem_of_getElem? (i := 6) rfl, gs1, gt1, _, rfl⟩
   ·exact ⟨("augur/api.ErrSyntax", Rows.laid_augur_api_ErrSyntax), List.mem_of_getElem? (i := 4) rfl, gs2, gt2, _, rfl⟩
   ·exact ⟨("augur/api.ErrText", Rows.laid_augur_api_ErrText), List.mem_of_getElem? (i := 3) rfl, gs3, gt3, _, rfl⟩
   ·exact ⟨("strconv.ErrSyntax", Rows.laid_strconv_ErrSyntax), List.mem_of_getElem? (i := 8) rfl, gs17, gt17, _, rfl⟩
   ·exact ⟨("strconv.ErrRange", Rows.laid_strconv_ErrRange), List.mem_of_getElem? (i := 7) rfl, gs18, gt18, _, rfl⟩
  ·cases hg)
 exact ⟨eb, he (fun b => b == 19) (fun _ => false) (fun f => panL.contains f)⟩
theorem gtT : (Tryd.prog.globals[19]?).map (·.type) = some 145 := by kernel_rfl
theorem cellsT : Tryd.prog.cellsOf 145 = 20 := by kernel_rfl
theorem cellsU : Tryd.prog.cellsOf 125 = 1 := by kernel_rfl
theorem envs_ok {W : World} (h : laidMet Tryd.prog laidF W) (eb : Nat → Addr) : Envs ⟨eb, onF, mmF W⟩ := by
 obtain ⟨T, fr, hh⟩ := laid_tab (zs := Lib.pow10Tab) (k := .u64) (name := "internal/strconv.uint64pow10") h (by
  show _ ∈ Rows.parseDeepRow.laid
  have : Lib.tabData (H := Unit) .u64 Lib.pow10Tab = Rows.laid_internal_strconv_uint64pow10 := rfl
  rw [this]; simp [Rows.parseDeepRow]) pow10_named gtT Tryd.underlying145 Tryd.underlying125 cellsU cellsT
 exact ⟨⟨⟨rfl⟩, ⟨rfl⟩, ⟨rfl⟩, ⟨rfl⟩⟩, ⟨T, fr, hh⟩, ⟨rfl⟩, ⟨rfl⟩⟩
theorem read3 : Tryd.prog.readableRec 3 = true := by kernel_rfl
theorem size3 : 3 < Tryd.prog.types.size := of_decide_eq_true (by kernel_rfl)
theorem closedI : closedT Tryd.prog [3] = true := by kernel_rfl
theorem int_rep {H : Type} {enc : TypeId × Value → H} {W : World} {base : Nat} {v0 : Value} {d0 : DataW H} {ps : List MemPlace} {V : Env}
  (hok : Value.okWide Tryd.prog W .any base 3 v0) (h0 : DataW.Trod enc Tryd.prog W 0 (fun _ => true) true 3 v0 d0 ps) : ∃ s : Int, (-9223372036854775808 ≤ s ∧ s ≤ 9223372036854775807) ∧ RepA V W (fun _ => False) v0 (.d (.int .i64 s)) := by
 unfold Value.okWide at hok
 simp only [Tryd.underlying3] at hok
 cases v0 with
 | int k s =>
  obtain ⟨fuel, h0⟩ := h0
  obtain ⟨ds, h1, h2⟩ := trod_rep (V := V) (Z := fun _ => False) closedI (fun _ h => h) fuel 3 _ _ (by decide) h0
  have h2' : RepL V W (fun _ => False) [.int k s] ds := h2
  cases fuel with
  | zero => exact h1.elim
  | succ fuel =>
   simp only [HasT, Tryd.underlying3] at h1
   obtain ⟨m, rfl, hm⟩ := h1
   have := (h2'.2 0 _ _ rfl rfl).1
   cases this
   exact ⟨s, by simpa [Lit.wf, IntKind.min, IntKind.max, IntKind.signed, IntKind.bits] using hm, .d _ _ (.int ..)⟩
 | _ => exact hok.elim
/-- The law's call, from its contract. -/
theorem law_callsN {P : Program} {f : FuncId} {V : Env} {W : World} {x0 : D} {v0 : Value} (ok : ACall P V f [.d x0] (fun _ => none) (fun r _ => r = .d (.bool true))) (r0 : RepA V W (fun _ => False) v0 (.d x0)) (he : EnvOK V W (fun _ => False)) :
  Calls P f #[v0] W fun e W' => e = .returned (.bool true) ∧ Below W.heap.size W W' := by
 have := ok (fun _ => False) W [v0] rfl (fun j h h' => by
  match j with
  | 0 => exact r0
  | j + 1 => exact absurd h (by simp only [List.length_cons, List.length_nil]; omega)) ⟨(fun b o h => by cases h), (fun b h => h.elim), he, (fun b o h => by cases h)⟩
 refine this.mono ?_
 rintro e W' ⟨v, r, Z', H', rfl, hv, _, hx, rfl⟩
 refine ⟨?_, below_of hx⟩
 cases hv with
 | d _ _ h => cases h; rfl
/-- The door's own heap meets the condition. -/
theorem door_met (os : Os) (args : Array Value) : laidMetH Tryd.prog laidF ((World.doorLaid Tryd.prog 700 os).forCall (fun _ _ => 0) ⟨#[], args, []⟩).memory :=
 laidMetH_of_parts3 (fuel := 8) (laidMet_of_run' 8 (by kernel_rfl) (by kernel_rfl)) (by kernel_rfl) (by kernel_rfl)
theorem parseDeep_lifted (os : Os) (started : os.Started) (H : Type) (enc : TypeId × Value → H) :
  ReturnsInHanded {} Tryd.checked os 8 .any (fun w args => (Rows.parseDeepSpec.pre enc Tryd.prog Tryd.f8 [] false w args ∧ laidMetH Tryd.prog laidF w) ∧ sizedMet enc Tryd.prog Tryd.f8 (OpenSpec.ofChange Rows.parseDeepSpec) false w args)
   (Rows.parseDeepSpec.post enc Tryd.prog Tryd.f8 false true false false) := by
 refine returnsInHanded_of_change_and (C := Tryd.checked) (X := fun w _ => laidMetH Tryd.prog laidF w) (fun _ _ _ hh h => h.of_heap hh) own started (by kernel_rfl) Tryd.func8
  (ChangeSpec.witness_shaped (enc := enc) (C := Tryd.checked) (os := os) (X := fun w _ => laidMetH Tryd.prog laidF w) false (World.doorLaid Tryd.prog 700 os) #[.int .i64 0] 8 rfl (World.shaped_of_RefB (by kernel_rfl) (by kernel_rfl)) (by kernel_rfl) (by kernel_rfl) (by kernel_rfl) (door_met os _)) ?_
 intro W base args ds gs before hval0 hW _ _ hL _
 have hval : ∀ (j : Nat) t v, Tryd.f8.params[j]? = some t → args[j]? = some v → Value.okWide Tryd.prog W .any base t v := hval0
 have hW' := hW
 obtain ⟨p, q, hA0, hV, rfl, hfz, hnd⟩ := hW
 have hA : DataW.TrodAll enc Tryd.prog W 0 (fun _ => true) true Tryd.f8.params.toList args.toList ds p := hA0
 have hlt := hA.lt
 rw [Tryd.params8] at hA hval
 obtain ⟨v0, d0, rfl, rfl, h0⟩ := trodAll_one hA
 obtain ⟨rfl, rfl⟩ := trodVars_none hV
 have hL' : laidMet Tryd.prog laidF W := by
  have := hL
  rwa [MakeChecks.laidMetH_plain _ _ _ (by kernel_rfl)] at this
 obtain ⟨eb, henv⟩ := env_ok hL'
 haveI := envs_ok hL' eb
 obtain ⟨s0, i0, r0⟩ := int_rep (V := seatV ⟨eb, onF, mmF W⟩) (hval 0 3 v0 rfl rfl) h0
 refine (law_callsN (parseDeep_ok s0 i0 (fun _ => none) _ rfl) r0 henv).mono ?_
 rintro e W' ⟨rfl, hbl⟩
 have e1 : Rows.parseDeepSpec.fn H ([d0] ++ []) = { results := [.lit (.bool true)], args := [d0] } := rfl
 refine ⟨_, rfl, _, _, _, [], p, [], hW', ?_, ?_, ?_, hbl.frame _, fun h => by cases h⟩
 ·rw [e1]; exact trodAll_mk1 (shut_bool Tryd.underlying4 true)
 ·rw [e1]; exact trodAll_mk1 (Below.trod laidOut read3 size3 h0 hbl hlt)
 ·rw [e1]; rfl
theorem parseDeep_holds : Rows.ParseDeepSaid :=
 OpenClaim.holds_of_wide 8 Tryd.f8 rfl rfl rfl rfl rfl rfl rfl ⟨rfl, rfl, rfl, rfl, rfl⟩ rfl rfl rfl rfl rfl (by kernel_rfl) Tryd.func8 (by kernel_rfl)
  (of_decide_eq_true (by kernel_rfl)) (by unfold Func.isWrapper; first | (rw [if_pos (by decide +kernel)]; kernel_rfl) | (rw [if_neg (by decide +kernel)]; exact ⟨rfl, rfl⟩))
  (fun os started H enc _ => parseDeep_lifted os started H enc)
theorem parseDeep_card : Rows.ParseDeepCardSaid :=
 Claim7.holds_tied_plain_at .later [] _ _ _ _ parseDeep_holds (fun _ h => by cases h) (by kernel_rfl) (fun _ h => by cases h) parseDeep_row_tie rfl ⟨rfl, rfl⟩ (by kernel_rfl) rfl
  (fun f fn hf hfn => by
   obtain rfl : f = 8 := Option.some.inj ((show Tryd.prog.funcNamed "augur/augurlaw02.ParseDeep" = some 8 by kernel_rfl).symm.trans hf) |>.symm
   obtain rfl : fn = Tryd.f8 := (Option.some.inj (Tryd.func8.symm.trans hfn)).symm
   exact ⟨by kernel_rfl, fun j t ht => by
    rw [Tryd.params8] at ht
    have hm : t ∈ [3] := by simpa using Array.mem_of_getElem? ht
    have hall : ([3].all fun u => !Tryd.prog.wantsStandIn u) = true := by kernel_rfl
    exact (show Tryd.prog.wantsStandIn t = false by simpa using List.all_eq_true.1 hall t hm)⟩)
  (by kernel_rfl)
#print axioms parseDeep_card
end Go.Proofs.YtckdiafomldepaaDoor
