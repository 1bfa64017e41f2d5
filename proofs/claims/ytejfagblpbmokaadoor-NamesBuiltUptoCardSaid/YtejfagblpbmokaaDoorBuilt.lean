/- NamesBuilt answers true for every input of bulk at most 1048576, and the input reads as it did: the row and the tied card. -/
import Derived.Test.YtejfagblpbmokaaDoorAugFour
import Derived.Test.YtejfagblpbmokaaDoorRows
import Derived.Test.YtejfagblpbmokaaDoorCards
import Derived.Test.YtejfagblpbmokaaDoorTie
import Derived.ChangeSame
import Derived.ChangeVars
import Derived.JoinedOf
import Derived.RowKit
import Derived.RowKitTokens
import Derived.Carry
import Derived.LaidLaws
import Derived.LaidMore
import Derived.OpenShut
import Derived.Lay
import Derived.Stop.ErrReads
import Derived.Stop.Joined
import Derived.SevenTiedAt
import Derived.Deep.DeepHandedRow
import Derived.Deep.DeepWitnessRowRef
import Derived.Test.YtejfagblpbmokaaDoorResolvedTwo
set_option linter.all false
set_option linter.unusedVariables false
set_option linter.unusedSimpArgs false
set_option linter.unusedSectionVars false

/- NamesBuilt: the row and the card. -/
namespace Go.Proofs.YtejfagblpbmokaaDoor
open Go Go.Aug Go.ChangeShapes Go.WideShapes Go.RowKit
set_option maxRecDepth 100000
theorem own : ownKnob Tryd.prog.godebug = none := by kernel_rfl
theorem starV : "*" ++ "errors.errorString" = "*errors.errorString" := by decide
theorem rowV (u : TypeId) (h : Tryd.prog.typeName? 3 u = some "*errors.errorString") : u = 206 :=
 typeName_ptr_named (nm := "errors.errorString") (by rw [starV]; kernel_rfl) (by kernel_rfl) (by decide) u (by rw [starV]; exact h)
theorem cellsE : Tryd.prog.cellsOf 223 = 1 := by kernel_rfl
theorem cellsS : Tryd.prog.cellsOf 9 = 1 := by kernel_rfl
theorem laidOut : laidOutB Tryd.prog = true := by kernel_rfl
/-- The measure of the second form. -/
theorem meas {H : Type} : Meas (Rows.uptoBulk (H := H)) where
 lit := fun l => by cases l <;> simp [Rows.uptoBulk]
 str := fun s => by simp [Rows.uptoBulk]
 nil := by simp [Rows.uptoBulk]
 slice := fun es sp => by
  have : ∀ l : List (DataW H), (l.map Rows.uptoBulk).sum = Rows.uptoBulkAll l := fun l => by
   induction l with
   | nil => simp [Rows.uptoBulkAll]
   | cons x l ih => simp [Rows.uptoBulkAll, ih]
  simp only [Rows.uptoBulk, this]; omega
 agg := fun ps => by
  have : ∀ l : List (DataW H), (l.map Rows.uptoBulk).sum = Rows.uptoBulkAll l := fun l => by
   induction l with
   | nil => simp [Rows.uptoBulkAll]
   | cons x l ih => simp [Rows.uptoBulkAll, ih]
  simp only [Rows.uptoBulk, this]; omega
theorem gs0 : Tryd.prog.globalNamed "augur/api.ErrNames" = some 0 := by kernel_rfl
theorem gt0 : (Tryd.prog.globals[0]?).map (·.type) = some 43 := by kernel_rfl
/-- What the row says of the package's variables. -/
abbrev laidF : List (String × DataW Unit) := Rows.namesBuiltUptoRow.laid
def onF (g : Nat) : Bool := g == 0
theorem env_ok {W : World} (h : laidMet Tryd.prog laidF W) : ∃ eb : Nat → Addr, EnvOK (seatV ⟨eb, onF⟩) W (fun _ => False) := by
 obtain ⟨eb, he⟩ := laid_env (TE := 223) Tryd.underlying43 rowV Tryd.underlying206 Tryd.underlying223 rfl rfl Tryd.underlying9 cellsE cellsS h (fun g => if onF g = true then some (.sent g) else none) (by
  intro g x hg
  split at hg
  ·rename_i hlt
   cases hg
   refine ⟨rfl, ?_⟩
   have : g = 0 := by simpa [onF] using hlt
   subst this
   ·exact ⟨("augur/api.ErrNames", Rows.laid_augur_api_ErrNames), List.mem_of_getElem? (i := 0) rfl, gs0, gt0, _, rfl⟩
  ·cases hg)
 exact ⟨eb, he (fun _ => false) (fun _ => false)⟩
instance on0 {eb : Nat → Addr} : On ⟨eb, onF⟩ 0 := ⟨rfl⟩
theorem read3 : Tryd.prog.readableRec 3 = true := by kernel_rfl
theorem size3 : 3 < Tryd.prog.types.size := of_decide_eq_true (by kernel_rfl)
theorem read9 : Tryd.prog.readableRec 9 = true := by kernel_rfl
theorem size9 : 9 < Tryd.prog.types.size := of_decide_eq_true (by kernel_rfl)
theorem closedS : closedT Tryd.prog [9] = true := by kernel_rfl
theorem strB_rep {H : Type} {enc : TypeId × Value → H} {W : World} {base : Nat} {v0 : Value} {d0 : DataW H} {ps : List MemPlace} {V : Env}
  (hok : Value.okWide Tryd.prog W .any base 9 v0) (h0 : DataW.Trod enc Tryd.prog W 0 (fun _ => true) true 9 v0 d0 ps) : ∃ s : ByteArray, s.size ≤ Rows.uptoBulk d0 ∧ RepA V W (fun _ => False) v0 (.d (.str s)) := by
 unfold Value.okWide at hok
 simp only [Tryd.underlying9] at hok
 cases v0 with
 | string s =>
  obtain ⟨fuel, h0⟩ := h0
  obtain ⟨ds, h1, h2, h3⟩ := trod_repB (V := V) (Z := fun _ => False) meas closedS (fun _ h => h) fuel 9 _ _ (by decide) h0
  have h2' : RepL V W (fun _ => False) [.string s] ds := h2
  obtain ⟨m, rfl⟩ := hasT_str Tryd.underlying9 h1
  have := (h2'.2 0 _ _ rfl rfl).1
  cases this
  simp only [Go.Aug.elemOf, Tryd.underlying9, List.headD_cons, D.size] at h3
  exact ⟨s, by omega, .d _ _ (.str s)⟩
 | _ => exact hok.elim
theorem closedI : closedT Tryd.prog [3] = true := by kernel_rfl
theorem int_rep {H : Type} {enc : TypeId × Value → H} {W : World} {base : Nat} {v0 : Value} {d0 : DataW H} {ps : List MemPlace} {V : Env}
  (hok : Value.okWide Tryd.prog W .any base 3 v0) (h0 : DataW.Trod enc Tryd.prog W 0 (fun _ => true) true 3 v0 d0 ps) : ∃ s : Int, (-9223372036854775808 ≤ s ∧ s ≤ 9223372036854775807) ∧ RepA V W (fun _ => False) v0 (.d (.int .i64 s)) := by
 unfold Value.okWide at hok
 simp only [Tryd.underlying3] at hok
 cases v0 with
 | int k s =>
  obtain ⟨fuel, h0⟩ := h0
  obtain ⟨ds, h1, h2⟩ := trod_rep (V := V) (Z := fun _ => False) closedI (fun _ h => h) fuel 3 _ _ (by decide) h0
  have h2' : RepL V W (fun _ => False) [.int k s] ds := h2
  cases fuel with
  | zero => exact h1.elim
  | succ fuel =>
   simp only [HasT, Tryd.underlying3] at h1
   obtain ⟨m, rfl, hm⟩ := h1
   have := (h2'.2 0 _ _ rfl rfl).1
   cases this
   exact ⟨s, by simpa [Lit.wf, IntKind.min, IntKind.max, IntKind.signed, IntKind.bits] using hm, .d _ _ (.int ..)⟩
 | _ => exact hok.elim
/-- The law's call, from its contract. -/
theorem law_callsN {P : Program} {f : FuncId} {V : Env} {W : World} {x0 x1 : D} {v0 v1 : Value} (ok : ACall P V f [.d x0, .d x1] (fun _ => none) (fun r _ => r = .d (.bool true))) (r0 : RepA V W (fun _ => False) v0 (.d x0)) (r1 : RepA V W (fun _ => False) v1 (.d x1)) (he : EnvOK V W (fun _ => False)) :
  Calls P f #[v0, v1] W fun e W' => e = .returned (.bool true) ∧ Below W.heap.size W W' := by
 have := ok (fun _ => False) W [v0, v1] rfl (fun j h h' => by
  match j with
  | 0 => exact r0
  | 1 => exact r1
  | j + 2 => exact absurd h (by simp only [List.length_cons, List.length_nil]; omega)) ⟨(fun b o h => by cases h), (fun b h => h.elim), he, (fun b o h => by cases h)⟩
 refine this.mono ?_
 rintro e W' ⟨v, r, Z', H', rfl, hv, _, hx, rfl⟩
 refine ⟨?_, below_of hx⟩
 cases hv with
 | d _ _ h => cases h; rfl
/-- The door's own heap meets the condition. -/
theorem door_met (os : Os) (args : Array Value) : laidMetH Tryd.prog laidF ((World.doorLaid Tryd.prog 184 os).forCall (fun _ _ => 0) ⟨#[], args, []⟩).memory :=
 laidMetH_of_parts3 (fuel := 8) (laidMet_of_run' 8 (by kernel_rfl) (by kernel_rfl)) (by kernel_rfl) (by kernel_rfl)
theorem reads (os : Os) {H : Type} (enc : TypeId × Value → H) : ∃ places, DataW.whole enc Tryd.prog ((World.doorLaid Tryd.prog 184 os).forCall (fun _ _ => 0) ⟨#[], #[.string ⟨#[]⟩, .int .i64 0], []⟩).memory Tryd.f5.params.toList Rows.namesBuiltSpec.vars false #[.string ⟨#[]⟩, .int .i64 0].toList 8 = some ([.lit (.string []), .lit (.int .i64 0)], [], places) :=
 ⟨[], by kernel_rfl⟩
theorem namesBuiltUpto_lifted (os : Os) (started : os.Started) (H : Type) (enc : TypeId × Value → H) (F : Stop.Interp) :
  ReturnsInHanded {} Tryd.checked os 5 .any ((Rows.OpenSpec.upto Rows.namesBuiltSpec).preRow enc Tryd.prog Tryd.f5 Rows.namesBuiltUptoRow.domain false Rows.namesBuiltUptoRow.laid) (((Rows.OpenSpec.upto Rows.namesBuiltSpec).at F).post enc Tryd.prog Tryd.f5 false true false false) := by
 obtain ⟨places, hx⟩ := reads os enc
 refine returnsInHanded_of_row (C := Tryd.checked) (s := Rows.OpenSpec.upto Rows.namesBuiltSpec) own started (by kernel_rfl) Tryd.func5
  (witness_row_atRef (enc := enc) (C := Tryd.checked) false (World.doorLaid Tryd.prog 184 os) #[.string ⟨#[]⟩, .int .i64 0] rfl (by kernel_rfl) (by kernel_rfl) (by kernel_rfl)
   (OpenSpec.preRow_of_cond 8 hx (by kernel_rfl) (fun k hk => by cases hk; kernel_rfl) (by kernel_rfl) (door_met os _))) ?_
 intro W base args ds gs before hval0 hW _ hcond _ hL _ _
 have hval : ∀ (j : Nat) t v, Tryd.f5.params[j]? = some t → args[j]? = some v → Value.okWide Tryd.prog W .any base t v := hval0
 have hk : Rows.uptoBulkAll (ds ++ gs) ≤ 1048576 := of_decide_eq_true (hcond _ rfl)
 have hW' := hW
 obtain ⟨p, q, hA0, hV, rfl, hfz, hnd⟩ := hW
 have hA : DataW.TrodAll enc Tryd.prog W 0 (fun _ => true) true Tryd.f5.params.toList args.toList ds p := hA0
 have hlt := hA.lt
 rw [Tryd.params5] at hA hval
 obtain ⟨v0, v1, d0, d1, p0, p1, rfl, rfl, rfl, h0, h1⟩ := trodAll_two hA
 obtain ⟨rfl, rfl⟩ := trodVars_none hV
 have hL' : laidMet Tryd.prog laidF W := by
  have := hL
  rwa [MakeChecks.laidMetH_plain _ _ _ (by kernel_rfl)] at this
 obtain ⟨eb, henv⟩ := env_ok hL'
 obtain ⟨s0, i0, r0⟩ := strB_rep (V := seatV ⟨eb, onF⟩) (hval 0 9 v0 rfl rfl) h0
 obtain ⟨s1, i1, r1⟩ := int_rep (V := seatV ⟨eb, onF⟩) (hval 1 3 v1 rfl rfl) h1
 simp only [List.append_nil, Rows.uptoBulkAll] at hk
 refine (law_callsN (namesBuilt_ok s0 (by omega) s1 i1 (fun _ => none) _ rfl) r0 r1 henv).mono ?_
 rintro e W' ⟨rfl, hbl⟩
 have e1 : Rows.namesBuiltSpec.fn H ([d0, d1] ++ []) = { results := [.lit (.bool true)], args := [d0, d1] } := rfl
 refine ⟨_, rfl, _, _, _, [], p0 ++ p1, [], hW', ?_, ?_, ?_, hbl.frame _, fun h => by cases h⟩
 ·show DataW.TrodAll _ _ _ _ _ _ _ _ (Rows.namesBuiltSpec.fn H ([d0, d1] ++ [])).results _
  rw [e1]; exact trodAll_mk1 (shut_bool Tryd.underlying4 true)
 ·show DataW.TrodAll _ _ _ _ _ _ _ _ (Rows.namesBuiltSpec.fn H ([d0, d1] ++ [])).args _
  rw [e1]; exact trodAll_mk2 (Below.trod laidOut read9 size9 h0 hbl (fun x hx => hlt x (List.mem_append.2 (.inl hx)))) (Below.trod laidOut read3 size3 h1 hbl (fun x hx => hlt x (List.mem_append.2 (.inr hx))))
 ·show DataW.TrodVars _ _ _ _ _ (Rows.namesBuiltSpec.fn H ([d0, d1] ++ [])).vars _
  rw [e1]; rfl
theorem namesBuiltUpto_holds : Rows.NamesBuiltUptoSaid :=
 OpenClaim.holds_of_cond 5 Tryd.f5 rfl rfl rfl rfl rfl rfl rfl ⟨rfl, rfl, rfl, rfl, rfl⟩ rfl rfl rfl rfl rfl (by kernel_rfl) Tryd.func5 (by kernel_rfl)
  (of_decide_eq_true (by kernel_rfl)) (by unfold Func.isWrapper; first | (rw [if_pos (by decide +kernel)]; kernel_rfl) | (rw [if_neg (by decide +kernel)]; exact ⟨rfl, rfl⟩))
  (fun os started H enc _ F => by rw [OpenClaim.pre_eq_preRow]; exact namesBuiltUpto_lifted os started H enc F)
theorem namesBuiltUpto_card : Rows.NamesBuiltUptoCardSaid :=
 Claim7.holds_tied_plain_at .later [] _ _ _ _ namesBuiltUpto_holds (fun _ h => by cases h) (by kernel_rfl) (fun _ h => by cases h) namesBuiltUpto_row_tie rfl ⟨rfl, rfl⟩ (by kernel_rfl) rfl
  (fun f fn hf hfn => by
   obtain rfl : f = 5 := Option.some.inj ((show Tryd.prog.funcNamed "augur/augurlaw04.NamesBuilt" = some 5 by kernel_rfl).symm.trans hf) |>.symm
   obtain rfl : fn = Tryd.f5 := (Option.some.inj (Tryd.func5.symm.trans hfn)).symm
   exact ⟨by kernel_rfl, fun j t ht => by
    rw [Tryd.params5] at ht
    have hm : t ∈ [9, 3] := by simpa using Array.mem_of_getElem? ht
    have hall : ([9, 3].all fun u => !Tryd.prog.wantsStandIn u) = true := by kernel_rfl
    exact (show Tryd.prog.wantsStandIn t = false by simpa using List.all_eq_true.1 hall t hm)⟩)
  (by kernel_rfl)
#print axioms namesBuiltUpto_card
end Go.Proofs.YtejfagblpbmokaaDoor
