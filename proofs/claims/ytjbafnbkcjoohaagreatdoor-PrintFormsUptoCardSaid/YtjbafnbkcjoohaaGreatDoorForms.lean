/- PrintForms answers true for every input of bulk at most 1048576, and the input reads as it did: the row and the tied card. -/
import Derived.Test.YtjbafnbkcjoohaaGreatDoorPrintThree
import Derived.Test.YtjbafnbkcjoohaaGreatDoorRows
import Derived.Test.YtjbafnbkcjoohaaGreatDoorCards
import Derived.Test.YtjbafnbkcjoohaaGreatDoorTie
import Derived.Deep.DeepHandedRow
import Derived.Deep.DeepWitnessRowRef
import Derived.LaidMore
import Derived.SevenTiedAt
set_option linter.all false
set_option linter.unusedVariables false
set_option linter.unusedSimpArgs false
set_option linter.unusedSectionVars false

/- PrintForms: the row and the card. -/
namespace Go.Proofs.YtjbafnbkcjoohaaGreatDoor
open Go Go.Aug Go.ChangeShapes Go.WideShapes Go.RowKit
set_option maxRecDepth 100000

theorem own : ownKnob Tryz.prog.godebug = none := by kernel_rfl
theorem starZ : "*" ++ "errors.errorString" = "*errors.errorString" := by decide
theorem rowZ (u : TypeId) (h : Tryz.prog.typeName? 3 u = some "*errors.errorString") : u = 312 :=
  typeName_ptr_named (nm := "errors.errorString") (by rw [starZ]; kernel_rfl) (by kernel_rfl) (by decide) u (by rw [starZ]; exact h)

/-- The measure of the second form. -/
theorem meas {H : Type} : Meas (Rows.uptoBulk (H := H)) where
  lit := fun l => by cases l <;> simp [Rows.uptoBulk]
  str := fun s => by simp [Rows.uptoBulk]
  nil := by simp [Rows.uptoBulk]
  slice := fun es sp => by
    have : ∀ l : List (DataW H), (l.map Rows.uptoBulk).sum = Rows.uptoBulkAll l := fun l => by
      induction l with
      | nil => simp [Rows.uptoBulkAll]
      | cons x l ih => simp [Rows.uptoBulkAll, ih]
    simp only [Rows.uptoBulk, this]; omega
  agg := fun ps => by
    have : ∀ l : List (DataW H), (l.map Rows.uptoBulk).sum = Rows.uptoBulkAll l := fun l => by
      induction l with
      | nil => simp [Rows.uptoBulkAll]
      | cons x l ih => simp [Rows.uptoBulkAll, ih]
    simp only [Rows.uptoBulk, this]; omega

abbrev laidL : List (String × DataW Unit) := Rows.printFormsUptoRow.laid

theorem gs1 : Tryz.prog.globalNamed "augur/api.ErrLarge" = some 1 := by kernel_rfl
theorem gs2 : Tryz.prog.globalNamed "augur/api.ErrSyntax" = some 2 := by kernel_rfl
theorem gs3 : Tryz.prog.globalNamed "augur/api.ErrText" = some 3 := by kernel_rfl
theorem gs5 : Tryz.prog.globalNamed "augur/api.ErrNest" = some 5 := by kernel_rfl
theorem gt1 : (Tryz.prog.globals[1]?).map (·.type) = some 55 := by kernel_rfl
theorem gt2 : (Tryz.prog.globals[2]?).map (·.type) = some 55 := by kernel_rfl
theorem gt3 : (Tryz.prog.globals[3]?).map (·.type) = some 55 := by kernel_rfl
theorem gt5 : (Tryz.prog.globals[5]?).map (·.type) = some 55 := by kernel_rfl
theorem gt6 : (Tryz.prog.globals[6]?).map (·.type) = some 223 := by kernel_rfl
theorem cellsE : Tryz.prog.cellsOf 314 = 1 := by kernel_rfl
theorem cells223 : Tryz.prog.cellsOf 223 = 20 := by kernel_rfl
theorem cells224 : Tryz.prog.cellsOf 152 = 1 := by kernel_rfl

theorem env_ok {W : World} (h : laidMet Tryz.prog laidL W) : ∃ eb : Nat → Addr, EnvOK (seatZ eb (fun b => if b == 6 then W.heap[b]? else none)) W (fun _ => False) := by
  obtain ⟨eb, he⟩ := laid_env (TE := 314) Tryz.underlying55 rowZ Tryz.underlying312 Tryz.underlying314 rfl rfl Tryz.underlying9 cellsE cellsStr h (fun g => if (0 < g && g < 4) || g == 5 then some (.sent g) else none) (by
    intro g x hg
    split at hg
    · rename_i hlt
      cases hg
      refine ⟨rfl, ?_⟩
      have : g = 1 ∨ g = 2 ∨ g = 3 ∨ g = 5 := by
        simp only [Bool.or_eq_true, Bool.and_eq_true, decide_eq_true_eq, beq_iff_eq] at hlt
        omega
      rcases this with rfl | rfl | rfl | rfl
      · exact ⟨("augur/api.ErrLarge", Rows.laid_augur_api_ErrLarge), List.mem_of_getElem? (i := 6) rfl, gs1, gt1, _, rfl⟩
      · exact ⟨("augur/api.ErrSyntax", Rows.laid_augur_api_ErrSyntax), List.mem_of_getElem? (i := 4) rfl, gs2, gt2, _, rfl⟩
      · exact ⟨("augur/api.ErrText", Rows.laid_augur_api_ErrText), List.mem_of_getElem? (i := 3) rfl, gs3, gt3, _, rfl⟩
      · exact ⟨("augur/api.ErrNest", Rows.laid_augur_api_ErrNest), List.mem_of_getElem? (i := 5) rfl, gs5, gt5, _, rfl⟩
    · cases hg)
  exact ⟨eb, he (fun b => b == 6)⟩

theorem tab_ok {W : World} (h : laidMet Tryz.prog laidL W) : TabM (fun b => if b == 6 then W.heap[b]? else none) := by
  obtain ⟨T, fr, hh⟩ := laid_tab (zs := Lib.pow10Tab) (k := .u64) (name := "internal/strconv.uint64pow10") h (by
    show _ ∈ Rows.printFormsUptoRow.laid
    have : Lib.tabData (H := Unit) .u64 Lib.pow10Tab = Rows.laid_internal_strconv_uint64pow10 := rfl
    rw [this]; simp [Rows.printFormsUptoRow]) pow10_named gt6 Tryz.underlying223 Tryz.underlying152 cells224 cells223
  exact ⟨T, fr, hh⟩

theorem laidOut : laidOutB Tryz.prog = true := by kernel_rfl
theorem plainList : (laidL.all fun x => x.2.handleName?.isNone) = true := by kernel_rfl

/-- The door's own heap meets the condition. -/
theorem door_met (os : Os) (args : Array Value) : laidMetH Tryz.prog laidL ((World.doorLaid Tryz.prog 214 os).forCall (fun _ _ => 0) ⟨#[], args, []⟩).memory :=
  laidMetH_of_parts3 (fuel := 8) (laidMet_of_run' 8 (by kernel_rfl) (by kernel_rfl)) (by kernel_rfl) (by kernel_rfl)

def ins0 : Value := .agg #[.int .i64 0, .string ⟨#[]⟩, .slice none 0 0, .slice none 0 0, .slice none 0 0, .slice none 0 0, .int .i64 0, .slice none 0 0, .int .i64 0, .int .i64 0, .string ⟨#[]⟩, .int .i64 0, .slice none 0 0, .int .i64 0, .string ⟨#[]⟩, .int .i64 0, .slice none 0 0, .string ⟨#[]⟩, .slice none 0 0, .slice none 0 0, .int .i64 0, .int .i64 0, .string ⟨#[]⟩, .int .i64 0, .slice none 0 0, .int .i64 0, .string ⟨#[]⟩, .int .i64 0, .slice none 0 0, .string ⟨#[]⟩, .slice none 0 0, .slice none 0 0, .int .i64 0, .string ⟨#[]⟩, .int .i64 0, .slice none 0 0, .bool false, .string ⟨#[]⟩, .slice none 0 0]

theorem read37 : Tryz.prog.readableRec 37 = true := by kernel_rfl
theorem size37 : 37 < Tryz.prog.types.size := of_decide_eq_true (by kernel_rfl)

theorem reads (os : Os) {H : Type} (enc : TypeId × Value → H) : ∃ places, DataW.whole enc Tryz.prog ((World.doorLaid Tryz.prog 214 os).forCall (fun _ _ => 0) ⟨#[], #[ins0], []⟩).memory Tryz.f3.params.toList Rows.printFormsSpec.vars false #[ins0].toList 8 = some ([.agg [.agg [.lit (.int .i64 0), .lit (.string []), .nil, .nil, .nil, .nil, .lit (.int .i64 0), .nil, .agg [.lit (.int .i64 0), .agg [.lit (.int .i64 0), .lit (.string []), .lit (.int .i64 0), .nil], .agg [.lit (.int .i64 0), .lit (.string []), .lit (.int .i64 0), .nil], .lit (.string []), .nil, .nil]], .agg [.lit (.int .i64 0), .agg [.lit (.int .i64 0), .lit (.string []), .lit (.int .i64 0), .nil], .agg [.lit (.int .i64 0), .lit (.string []), .lit (.int .i64 0), .nil], .lit (.string []), .nil, .nil], .agg [.lit (.int .i64 0), .lit (.string []), .lit (.int .i64 0), .nil], .agg [.lit (.bool false), .lit (.string []), .nil]]], [], places) :=
  ⟨[], by kernel_rfl⟩

theorem printFormsUpto_lifted (os : Os) (started : os.Started) (H : Type) (enc : TypeId × Value → H) (F : Stop.Interp) :
    ReturnsInHanded {} Tryz.checked os 3 .any ((Rows.OpenSpec.upto Rows.printFormsSpec).preRow enc Tryz.prog Tryz.f3 Rows.printFormsUptoRow.domain false Rows.printFormsUptoRow.laid) (((Rows.OpenSpec.upto Rows.printFormsSpec).at F).post enc Tryz.prog Tryz.f3 false true false false) := by
  obtain ⟨places, hx⟩ := reads os enc
  refine returnsInHanded_of_row (C := Tryz.checked) (s := Rows.OpenSpec.upto Rows.printFormsSpec) own started (by kernel_rfl) Tryz.func3
    (witness_row_atRef (enc := enc) (C := Tryz.checked) false (World.doorLaid Tryz.prog 214 os) #[ins0] rfl (by kernel_rfl) (by kernel_rfl) (by kernel_rfl)
      (OpenSpec.preRow_of_cond 8 hx (by kernel_rfl) (fun k hk => by cases hk; kernel_rfl) (by kernel_rfl) (door_met os _))) ?_
  intro W base args ds gs before hval0 hW _ hcond _ hL _ _
  have hval : ∀ (j : Nat) t v, Tryz.f3.params[j]? = some t → args[j]? = some v → Value.okWide Tryz.prog W .any base t v := hval0
  have hk : Rows.uptoBulkAll (ds ++ gs) ≤ 1048576 := of_decide_eq_true (hcond _ rfl)
  have hW' := hW
  obtain ⟨p, q, hA0, hV, rfl, hfz, hnd⟩ := hW
  have hA : DataW.TrodAll enc Tryz.prog W 0 (fun _ => true) true Tryz.f3.params.toList args.toList ds p := hA0
  have hlt := hA.lt
  rw [Tryz.params3] at hA hval
  obtain ⟨v0, d0, rfl, rfl, h0⟩ := trodAll_one hA
  obtain ⟨rfl, rfl⟩ := trodVars_none hV
  have hL' : laidMet Tryz.prog laidL W := by
    have := hL
    rwa [MakeChecks.laidMetH_plain _ _ _ (by kernel_rfl)] at this
  obtain ⟨eb, henv⟩ := env_ok hL'
  obtain ⟨n, cells, h1, h2, h3⟩ := arg_repB (V := seatZ eb (fun b => if b == 6 then W.heap[b]? else none)) meas closed37 (by decide) Tryz.underlying37 (hval 0 37 v0 rfl rfl) h0
  have hs : D.sizes cells ≤ 1048576 := by
    simp only [List.append_nil, Rows.uptoBulkAll] at hk
    omega
  obtain ⟨i, rfl, hi⟩ := hasT_fm h1 hs
  refine (law_calls (printForms_ok (tab_ok hL') (fun _ => none) i hi) h2 henv).mono ?_
  rintro e W' ⟨rfl, hbl⟩
  have e1 : Rows.printFormsSpec.fn H ([d0] ++ []) = { results := [.lit (.bool true)], args := [d0] } := rfl
  refine ⟨_, rfl, _, _, _, [], p, [], hW', ?_, ?_, ?_, hbl.frame _, fun h => by cases h⟩
  · show DataW.TrodAll _ _ _ _ _ _ _ _ (Rows.printFormsSpec.fn H ([d0] ++ [])).results _
    rw [e1]; exact trodAll_mk1 (shut_bool Tryz.underlying4 true)
  · show DataW.TrodAll _ _ _ _ _ _ _ _ (Rows.printFormsSpec.fn H ([d0] ++ [])).args _
    rw [e1]; exact trodAll_mk1 (Below.trod laidOut read37 size37 h0 hbl hlt)
  · show DataW.TrodVars _ _ _ _ _ (Rows.printFormsSpec.fn H ([d0] ++ [])).vars _
    rw [e1]; rfl

theorem printFormsUpto_holds : Rows.PrintFormsUptoSaid :=
  OpenClaim.holds_of_cond 3 Tryz.f3 rfl rfl rfl rfl rfl rfl rfl ⟨rfl, rfl, rfl, rfl, rfl⟩ rfl rfl rfl rfl rfl (by kernel_rfl) Tryz.func3 (by kernel_rfl)
    (of_decide_eq_true (by kernel_rfl)) (by unfold Func.isWrapper; first | (rw [if_pos (by decide +kernel)]; kernel_rfl) | (rw [if_neg (by decide +kernel)]; exact ⟨rfl, rfl⟩))
    (fun os started H enc _ F => by rw [OpenClaim.pre_eq_preRow]; exact printFormsUpto_lifted os started H enc F)

theorem printFormsUpto_card : Rows.PrintFormsUptoCardSaid :=
  Claim7.holds_tied_plain_at .later [] _ _ _ _ printFormsUpto_holds (fun _ h => by cases h) (by kernel_rfl) (fun _ h => by cases h) printFormsUpto_row_tie rfl ⟨rfl, rfl⟩ (by kernel_rfl) rfl
    (fun f fn hf hfn => by
      obtain rfl : f = 3 := Option.some.inj ((show Tryz.prog.funcNamed "augur/augurlaw03.PrintForms" = some 3 by kernel_rfl).symm.trans hf) |>.symm
      obtain rfl : fn = Tryz.f3 := (Option.some.inj (Tryz.func3.symm.trans hfn)).symm
      exact ⟨by kernel_rfl, fun j t ht => by
        rw [Tryz.params3] at ht
        have hm : t ∈ [37] := by simpa using Array.mem_of_getElem? ht
        have hall : ([37].all fun u => !Tryz.prog.wantsStandIn u) = true := by kernel_rfl
        exact (show Tryz.prog.wantsStandIn t = false by simpa using List.all_eq_true.1 hall t hm)⟩)
    (by kernel_rfl)
#print axioms printFormsUpto_card
end Go.Proofs.YtjbafnbkcjoohaaGreatDoor
