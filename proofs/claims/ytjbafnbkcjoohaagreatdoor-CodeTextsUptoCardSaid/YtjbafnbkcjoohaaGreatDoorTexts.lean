/- CodeTexts answers true for every instruction of bulk at most 1048576, and the input reads as it did: the row and the tied card. -/
import Derived.Test.YtjbafnbkcjoohaaGreatDoorTextsTwo
import Derived.Test.YtjbafnbkcjoohaaGreatDoorAugFive
import Derived.Test.YtjbafnbkcjoohaaGreatDoorRows
import Derived.Test.YtjbafnbkcjoohaaGreatDoorCards
import Derived.Test.YtjbafnbkcjoohaaGreatDoorTie
import Derived.Deep.DeepHandedRow
import Derived.Deep.DeepWitnessRowRef
import Derived.LaidMore
import Derived.SevenTiedAt
set_option linter.all false
set_option linter.unusedVariables false
set_option linter.unusedSimpArgs false
set_option linter.unusedSectionVars false

/- CodeTexts: the row and the card. -/
namespace Go.Proofs.YtjbafnbkcjoohaaGreatDoor
open Go Go.Aug Go.ChangeShapes Go.WideShapes Go.RowKit
set_option maxRecDepth 100000

theorem own : ownKnob Tryz.prog.godebug = none := by kernel_rfl
theorem cellsS : Tryz.prog.cellsOf 46 = 9 := by kernel_rfl
theorem cellsI : Tryz.prog.cellsOf 3 = 1 := by kernel_rfl
theorem cellsL : Tryz.prog.cellsOf 44 = 1 := by kernel_rfl
theorem closed46 : closedT Tryz.prog [3, 44, 46] = true := by kernel_rfl
theorem starZ : "*" ++ "errors.errorString" = "*errors.errorString" := by decide
theorem rowZ (u : TypeId) (h : Tryz.prog.typeName? 3 u = some "*errors.errorString") : u = 312 :=
  typeName_ptr_named (nm := "errors.errorString") (by rw [starZ]; kernel_rfl) (by kernel_rfl) (by decide) u (by rw [starZ]; exact h)

/-- The measure of the second form. -/
theorem meas {H : Type} : Meas (Rows.uptoBulk (H := H)) where
  lit := fun l => by cases l <;> simp [Rows.uptoBulk]
  str := fun s => by simp [Rows.uptoBulk]
  nil := by simp [Rows.uptoBulk]
  slice := fun es sp => by
    have : ∀ l : List (DataW H), (l.map Rows.uptoBulk).sum = Rows.uptoBulkAll l := fun l => by
      induction l with
      | nil => simp [Rows.uptoBulkAll]
      | cons x l ih => simp [Rows.uptoBulkAll, ih]
    simp only [Rows.uptoBulk, this]; omega
  agg := fun ps => by
    have : ∀ l : List (DataW H), (l.map Rows.uptoBulk).sum = Rows.uptoBulkAll l := fun l => by
      induction l with
      | nil => simp [Rows.uptoBulkAll]
      | cons x l ih => simp [Rows.uptoBulkAll, ih]
    simp only [Rows.uptoBulk, this]; omega

theorem hasT_intR {P : Program} {n : Nat} {t : TypeId} {ds : List D} (hu : P.underlying t = some (.int .i64)) (h : HasT P n t ds) : ∃ m, ds = [.int .i64 m] ∧ InR m := by
  cases n with
  | zero => exact h.elim
  | succ n =>
    simp only [HasT, hu] at h
    obtain ⟨m, e, hw⟩ := h
    refine ⟨m, e, ?_⟩
    simpa [InR, Lit.wf, IntKind.min, IntKind.max, IntKind.signed, IntKind.bits] using hw
theorem hasT_intsR {n : Nat} {ds : List D} (h : HasT Tryz.prog n 44 ds) : ∃ l : List Int, ds = [ints l] ∧ ∀ m ∈ l, InR m := by
  obtain ⟨m, ess, _, rfl, hess⟩ := hasT_slice Tryz.underlying44 h
  have : ∀ ess : List (List D), (∀ cs ∈ ess, HasT Tryz.prog m 3 cs) → ∃ l : List Int, ess.map (Aug.elemOf Tryz.prog 3) = l.map (fun n : Int => D.int .i64 n) ∧ ∀ m ∈ l, InR m := by
    intro ess h
    induction ess with
    | nil => exact ⟨[], rfl, fun m hm => by cases hm⟩
    | cons cs ess ih =>
      obtain ⟨k, rfl, hk⟩ := hasT_intR Tryz.underlying3 (h cs (by simp))
      obtain ⟨l, h1, h2⟩ := ih (fun cs hcs => h cs (by simp [hcs]))
      refine ⟨k :: l, ?_, fun m hm => ?_⟩
      · simp only [List.map_cons, h1]
        congr 1
      · rcases List.mem_cons.1 hm with rfl | hm
        · exact hk
        · exact h2 m hm
  obtain ⟨l, h1, h2⟩ := this ess hess
  exact ⟨l, by rw [h1]; rfl, h2⟩
theorem size_ints (l : List Int) : l.length + 1 ≤ (ints l).size := by
  have := D.length_le (l.map (D.int .i64))
  simp only [List.length_map] at this
  unfold ints
  simp only [D.size]
  exact Nat.add_le_add_right this 1

theorem hasT_ins {n : Nat} {ds : List D} (h : HasT Tryz.prog n 46 ds) (hs : D.sizes ds ≤ 1048576) : ∃ i : Ins, ds = i.cs ∧ i.ok := by
  obtain ⟨m, _, hl, hf⟩ := hasT_struct Tryz.underlying46 h
  rw [cellsS] at hl
  obtain ⟨a, b, c, d, e, f, g, i, j, rfl⟩ := len9 hl
  have h0 : HasT Tryz.prog m 3 (([a, b, c, d, e, f, g, i, j].drop 0).take (Tryz.prog.cellsOf 3)) := hf 0 _ rfl
  have h1 : HasT Tryz.prog m 3 (([a, b, c, d, e, f, g, i, j].drop 1).take (Tryz.prog.cellsOf 3)) := hf 1 _ rfl
  have h2 : HasT Tryz.prog m 3 (([a, b, c, d, e, f, g, i, j].drop 2).take (Tryz.prog.cellsOf 3)) := hf 2 _ rfl
  have h3 : HasT Tryz.prog m 3 (([a, b, c, d, e, f, g, i, j].drop 3).take (Tryz.prog.cellsOf 3)) := hf 3 _ rfl
  have h4 : HasT Tryz.prog m 3 (([a, b, c, d, e, f, g, i, j].drop 4).take (Tryz.prog.cellsOf 3)) := hf 4 _ rfl
  have h5 : HasT Tryz.prog m 3 (([a, b, c, d, e, f, g, i, j].drop 5).take (Tryz.prog.cellsOf 3)) := hf 5 _ rfl
  have h6 : HasT Tryz.prog m 44 (([a, b, c, d, e, f, g, i, j].drop 6).take (Tryz.prog.cellsOf 44)) := hf 6 _ rfl
  have h7 : HasT Tryz.prog m 44 (([a, b, c, d, e, f, g, i, j].drop 7).take (Tryz.prog.cellsOf 44)) := hf 7 _ rfl
  have h8 : HasT Tryz.prog m 44 (([a, b, c, d, e, f, g, i, j].drop 8).take (Tryz.prog.cellsOf 44)) := hf 8 _ rfl
  simp only [cellsI, cellsL] at h0 h1 h2 h3 h4 h5 h6 h7 h8
  obtain ⟨x0, e0, r0⟩ := hasT_intR Tryz.underlying3 h0
  obtain ⟨x1, e1, r1⟩ := hasT_intR Tryz.underlying3 h1
  obtain ⟨x2, e2, r2⟩ := hasT_intR Tryz.underlying3 h2
  obtain ⟨x3, e3, r3⟩ := hasT_intR Tryz.underlying3 h3
  obtain ⟨x4, e4, r4⟩ := hasT_intR Tryz.underlying3 h4
  obtain ⟨x5, e5, r5⟩ := hasT_intR Tryz.underlying3 h5
  obtain ⟨x6, e6, r6⟩ := hasT_intsR h6
  obtain ⟨x7, e7, r7⟩ := hasT_intsR h7
  obtain ⟨x8, e8, r8⟩ := hasT_intsR h8
  simp at e0 e1 e2 e3 e4 e5 e6 e7 e8
  subst e0 e1 e2 e3 e4 e5 e6 e7 e8
  have l6 := size_ints x6
  have l7 := size_ints x7
  have l8 := size_ints x8
  simp only [D.sizes] at hs
  refine ⟨⟨x0, x1, x2, x3, x4, x5, x6, x7, x8⟩, rfl, ⟨r0, ?_, ?_⟩⟩
  · intro n hn
    simp only [List.mem_cons, List.not_mem_nil, or_false] at hn
    rcases hn with rfl | rfl | rfl | rfl | rfl <;> assumption
  · intro l hl
    simp only [List.mem_cons, List.not_mem_nil, or_false] at hl
    rcases hl with rfl | rfl | rfl
    · exact ⟨by omega, r6⟩
    · exact ⟨by omega, r7⟩
    · exact ⟨by omega, r8⟩

abbrev laidL : List (String × DataW Unit) := Rows.codeTextsUptoRow.laid

theorem gs0 : Tryz.prog.globalNamed "augur/api.ErrCode" = some 0 := by kernel_rfl
theorem gs1 : Tryz.prog.globalNamed "augur/api.ErrLarge" = some 1 := by kernel_rfl
theorem gs2 : Tryz.prog.globalNamed "augur/api.ErrSyntax" = some 2 := by kernel_rfl
theorem gs3 : Tryz.prog.globalNamed "augur/api.ErrText" = some 3 := by kernel_rfl
theorem gs5 : Tryz.prog.globalNamed "augur/api.ErrNest" = some 5 := by kernel_rfl
theorem gt0 : (Tryz.prog.globals[0]?).map (·.type) = some 55 := by kernel_rfl
theorem gt1 : (Tryz.prog.globals[1]?).map (·.type) = some 55 := by kernel_rfl
theorem gt2 : (Tryz.prog.globals[2]?).map (·.type) = some 55 := by kernel_rfl
theorem gt3 : (Tryz.prog.globals[3]?).map (·.type) = some 55 := by kernel_rfl
theorem gt5 : (Tryz.prog.globals[5]?).map (·.type) = some 55 := by kernel_rfl
theorem gt6 : (Tryz.prog.globals[6]?).map (·.type) = some 223 := by kernel_rfl
theorem cellsE : Tryz.prog.cellsOf 314 = 1 := by kernel_rfl
theorem cellsStr : Tryz.prog.cellsOf 9 = 1 := by kernel_rfl
theorem cells223 : Tryz.prog.cellsOf 223 = 20 := by kernel_rfl
theorem cells224 : Tryz.prog.cellsOf 152 = 1 := by kernel_rfl

theorem env_ok {W : World} (h : laidMet Tryz.prog laidL W) : ∃ eb : Nat → Addr, EnvOK (seatZ eb (fun b => if b == 6 then W.heap[b]? else none)) W (fun _ => False) := by
  obtain ⟨eb, he⟩ := laid_env (TE := 314) Tryz.underlying55 rowZ Tryz.underlying312 Tryz.underlying314 rfl rfl Tryz.underlying9 cellsE cellsStr h (fun g => if g < 4 || g == 5 then some (.sent g) else none) (by
    intro g x hg
    split at hg
    · rename_i hlt
      cases hg
      refine ⟨rfl, ?_⟩
      have : g = 0 ∨ g = 1 ∨ g = 2 ∨ g = 3 ∨ g = 5 := by
        simp only [Bool.or_eq_true, decide_eq_true_eq, beq_iff_eq] at hlt
        omega
      rcases this with rfl | rfl | rfl | rfl | rfl
      · exact ⟨("augur/api.ErrCode", Rows.laid_augur_api_ErrCode), List.mem_of_getElem? (i := 7) rfl, gs0, gt0, _, rfl⟩
      · exact ⟨("augur/api.ErrLarge", Rows.laid_augur_api_ErrLarge), List.mem_of_getElem? (i := 6) rfl, gs1, gt1, _, rfl⟩
      · exact ⟨("augur/api.ErrSyntax", Rows.laid_augur_api_ErrSyntax), List.mem_of_getElem? (i := 4) rfl, gs2, gt2, _, rfl⟩
      · exact ⟨("augur/api.ErrText", Rows.laid_augur_api_ErrText), List.mem_of_getElem? (i := 3) rfl, gs3, gt3, _, rfl⟩
      · exact ⟨("augur/api.ErrNest", Rows.laid_augur_api_ErrNest), List.mem_of_getElem? (i := 5) rfl, gs5, gt5, _, rfl⟩
    · cases hg)
  exact ⟨eb, he (fun b => b == 6)⟩

theorem tab_ok {W : World} (h : laidMet Tryz.prog laidL W) : TabM (fun b => if b == 6 then W.heap[b]? else none) := by
  obtain ⟨T, fr, hh⟩ := laid_tab (zs := Lib.pow10Tab) (k := .u64) (name := "internal/strconv.uint64pow10") h (by
    show _ ∈ Rows.codeTextsUptoRow.laid
    have : Lib.tabData (H := Unit) .u64 Lib.pow10Tab = Rows.laid_internal_strconv_uint64pow10 := rfl
    rw [this]; simp [Rows.codeTextsUptoRow]) pow10_named gt6 Tryz.underlying223 Tryz.underlying152 cells224 cells223
  exact ⟨T, fr, hh⟩

theorem laidOut : laidOutB Tryz.prog = true := by kernel_rfl
theorem plainList : (laidL.all fun x => x.2.handleName?.isNone) = true := by kernel_rfl

/-- The door's own heap meets the condition. -/
theorem door_met (os : Os) (args : Array Value) : laidMetH Tryz.prog laidL ((World.doorLaid Tryz.prog 214 os).forCall (fun _ _ => 0) ⟨#[], args, []⟩).memory :=
  laidMetH_of_parts3 (fuel := 8) (laidMet_of_run' 8 (by kernel_rfl) (by kernel_rfl)) (by kernel_rfl) (by kernel_rfl)

def ins0 : Value := .agg #[.int .i64 0, .int .i64 0, .int .i64 0, .int .i64 0, .int .i64 0, .int .i64 0, .slice none 0 0, .slice none 0 0, .slice none 0 0]

theorem read46 : Tryz.prog.readableRec 46 = true := by kernel_rfl
theorem size46 : 46 < Tryz.prog.types.size := of_decide_eq_true (by kernel_rfl)

theorem reads (os : Os) {H : Type} (enc : TypeId × Value → H) : ∃ places, DataW.whole enc Tryz.prog ((World.doorLaid Tryz.prog 214 os).forCall (fun _ _ => 0) ⟨#[], #[ins0], []⟩).memory Tryz.f4.params.toList Rows.codeTextsSpec.vars false #[ins0].toList 8 = some ([.agg [.lit (.int .i64 0), .lit (.int .i64 0), .lit (.int .i64 0), .lit (.int .i64 0), .lit (.int .i64 0), .lit (.int .i64 0), .nil, .nil, .nil]], [], places) :=
  ⟨[], by kernel_rfl⟩

theorem codeTextsUpto_lifted (os : Os) (started : os.Started) (H : Type) (enc : TypeId × Value → H) (F : Stop.Interp) :
    ReturnsInHanded {} Tryz.checked os 4 .any ((Rows.OpenSpec.upto Rows.codeTextsSpec).preRow enc Tryz.prog Tryz.f4 Rows.codeTextsUptoRow.domain false Rows.codeTextsUptoRow.laid) (((Rows.OpenSpec.upto Rows.codeTextsSpec).at F).post enc Tryz.prog Tryz.f4 false true false false) := by
  obtain ⟨places, hx⟩ := reads os enc
  refine returnsInHanded_of_row (C := Tryz.checked) (s := Rows.OpenSpec.upto Rows.codeTextsSpec) own started (by kernel_rfl) Tryz.func4
    (witness_row_atRef (enc := enc) (C := Tryz.checked) false (World.doorLaid Tryz.prog 214 os) #[ins0] rfl (by kernel_rfl) (by kernel_rfl) (by kernel_rfl)
      (OpenSpec.preRow_of_cond 8 hx (by kernel_rfl) (fun k hk => by cases hk; kernel_rfl) (by kernel_rfl) (door_met os _))) ?_
  intro W base args ds gs before hval0 hW _ hcond _ hL _ _
  have hval : ∀ (j : Nat) t v, Tryz.f4.params[j]? = some t → args[j]? = some v → Value.okWide Tryz.prog W .any base t v := hval0
  have hk : Rows.uptoBulkAll (ds ++ gs) ≤ 1048576 := of_decide_eq_true (hcond _ rfl)
  have hW' := hW
  obtain ⟨p, q, hA0, hV, rfl, hfz, hnd⟩ := hW
  have hA : DataW.TrodAll enc Tryz.prog W 0 (fun _ => true) true Tryz.f4.params.toList args.toList ds p := hA0
  have hlt := hA.lt
  rw [Tryz.params4] at hA hval
  obtain ⟨v0, d0, rfl, rfl, h0⟩ := trodAll_one hA
  obtain ⟨rfl, rfl⟩ := trodVars_none hV
  have hL' : laidMet Tryz.prog laidL W := by
    have := hL
    rwa [MakeChecks.laidMetH_plain _ _ _ (by kernel_rfl)] at this
  obtain ⟨eb, henv⟩ := env_ok hL'
  obtain ⟨n, cells, h1, h2, h3⟩ := arg_repB (V := seatZ eb (fun b => if b == 6 then W.heap[b]? else none)) meas closed46 (by decide) Tryz.underlying46 (hval 0 46 v0 rfl rfl) h0
  have hs : D.sizes cells ≤ 1048576 := by
    simp only [List.append_nil, Rows.uptoBulkAll] at hk
    omega
  obtain ⟨i, rfl, hi⟩ := hasT_ins h1 hs
  refine (law_calls (codeTexts_ok (tab_ok hL') (fun _ => none) i hi) h2 henv).mono ?_
  rintro e W' ⟨rfl, hbl⟩
  have e1 : Rows.codeTextsSpec.fn H ([d0] ++ []) = { results := [.lit (.bool true)], args := [d0] } := rfl
  refine ⟨_, rfl, _, _, _, [], p, [], hW', ?_, ?_, ?_, hbl.frame _, fun h => by cases h⟩
  · show DataW.TrodAll _ _ _ _ _ _ _ _ (Rows.codeTextsSpec.fn H ([d0] ++ [])).results _
    rw [e1]; exact trodAll_mk1 (shut_bool Tryz.underlying4 true)
  · show DataW.TrodAll _ _ _ _ _ _ _ _ (Rows.codeTextsSpec.fn H ([d0] ++ [])).args _
    rw [e1]; exact trodAll_mk1 (Below.trod laidOut read46 size46 h0 hbl hlt)
  · show DataW.TrodVars _ _ _ _ _ (Rows.codeTextsSpec.fn H ([d0] ++ [])).vars _
    rw [e1]; rfl

theorem codeTextsUpto_holds : Rows.CodeTextsUptoSaid :=
  OpenClaim.holds_of_cond 4 Tryz.f4 rfl rfl rfl rfl rfl rfl rfl ⟨rfl, rfl, rfl, rfl, rfl⟩ rfl rfl rfl rfl rfl (by kernel_rfl) Tryz.func4 (by kernel_rfl)
    (of_decide_eq_true (by kernel_rfl)) (by unfold Func.isWrapper; first | (rw [if_pos (by decide +kernel)]; kernel_rfl) | (rw [if_neg (by decide +kernel)]; exact ⟨rfl, rfl⟩))
    (fun os started H enc _ F => by rw [OpenClaim.pre_eq_preRow]; exact codeTextsUpto_lifted os started H enc F)

theorem codeTextsUpto_card : Rows.CodeTextsUptoCardSaid :=
  Claim7.holds_tied_plain_at .later [] _ _ _ _ codeTextsUpto_holds (fun _ h => by cases h) (by kernel_rfl) (fun _ h => by cases h) codeTextsUpto_row_tie rfl ⟨rfl, rfl⟩ (by kernel_rfl) rfl
    (fun f fn hf hfn => by
      obtain rfl : f = 4 := Option.some.inj ((show Tryz.prog.funcNamed "augur/augurlaw15.CodeTexts" = some 4 by kernel_rfl).symm.trans hf) |>.symm
      obtain rfl : fn = Tryz.f4 := (Option.some.inj (Tryz.func4.symm.trans hfn)).symm
      exact ⟨by kernel_rfl, fun j t ht => by
        rw [Tryz.params4] at ht
        have hm : t ∈ [46] := by simpa using Array.mem_of_getElem? ht
        have hall : ([46].all fun u => !Tryz.prog.wantsStandIn u) = true := by kernel_rfl
        exact (show Tryz.prog.wantsStandIn t = false by simpa using List.all_eq_true.1 hall t hm)⟩)
    (by kernel_rfl)
#print axioms codeTextsUpto_card
end Go.Proofs.YtjbafnbkcjoohaaGreatDoor
