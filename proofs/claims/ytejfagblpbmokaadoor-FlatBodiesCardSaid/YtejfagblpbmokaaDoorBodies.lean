/- FlatBodies answers true for every input, and the input reads as it did: the row and the tied card; no conditions. -/
import Derived.Test.YtejfagblpbmokaaDoorBridge
import Derived.Test.YtejfagblpbmokaaDoorFlatSix
set_option linter.all false
set_option linter.unusedVariables false
set_option linter.unusedSimpArgs false
set_option linter.unusedSectionVars false

/- FlatBodies: the row and the card. -/
namespace Go.Proofs.YtejfagblpbmokaaDoor
open Go Go.Aug Go.ChangeShapes Go.WideShapes Go.RowKit
set_option maxRecDepth 100000
theorem ga3 : Tryd.prog.globalNamed "augur/api.ErrText" = some 3 := by kernel_rfl
theorem gu3 : (Tryd.prog.globals[3]?).map (·.type) = some 43 := by kernel_rfl
theorem ga4 : Tryd.prog.globalNamed "augur/api.ErrSyntax" = some 4 := by kernel_rfl
theorem gu4 : (Tryd.prog.globals[4]?).map (·.type) = some 43 := by kernel_rfl
theorem ga5 : Tryd.prog.globalNamed "augur/api.ErrNest" = some 5 := by kernel_rfl
theorem gu5 : (Tryd.prog.globals[5]?).map (·.type) = some 43 := by kernel_rfl
theorem ga2 : Tryd.prog.globalNamed "augur/api.ErrLarge" = some 2 := by kernel_rfl
theorem gu2 : (Tryd.prog.globals[2]?).map (·.type) = some 43 := by kernel_rfl
theorem ga0 : Tryd.prog.globalNamed "augur/api.ErrNames" = some 0 := by kernel_rfl
theorem gu0 : (Tryd.prog.globals[0]?).map (·.type) = some 43 := by kernel_rfl
theorem ga6 : Tryd.prog.globalNamed "augur/api.ErrTypes" = some 6 := by kernel_rfl
theorem gu6 : (Tryd.prog.globals[6]?).map (·.type) = some 43 := by kernel_rfl
theorem ga7 : Tryd.prog.globalNamed "augur/api.ErrModes" = some 7 := by kernel_rfl
theorem gu7 : (Tryd.prog.globals[7]?).map (·.type) = some 43 := by kernel_rfl
theorem ga8 : Tryd.prog.globalNamed "augur/api.ErrDet" = some 8 := by kernel_rfl
theorem gu8 : (Tryd.prog.globals[8]?).map (·.type) = some 43 := by kernel_rfl
theorem ga1 : Tryd.prog.globalNamed "augur/api.ErrNone" = some 1 := by kernel_rfl
theorem gu1 : (Tryd.prog.globals[1]?).map (·.type) = some 43 := by kernel_rfl
theorem ga9 : Tryd.prog.globalNamed "augur/api.ErrData" = some 9 := by kernel_rfl
theorem gu9 : (Tryd.prog.globals[9]?).map (·.type) = some 43 := by kernel_rfl
theorem ga10 : Tryd.prog.globalNamed "augur/api.ErrBytes" = some 10 := by kernel_rfl
theorem gu10 : (Tryd.prog.globals[10]?).map (·.type) = some 43 := by kernel_rfl
theorem ga11 : Tryd.prog.globalNamed "augur/api.ErrCode" = some 11 := by kernel_rfl
theorem gu11 : (Tryd.prog.globals[11]?).map (·.type) = some 43 := by kernel_rfl
theorem ga12 : Tryd.prog.globalNamed "augur/api.ErrFuel" = some 12 := by kernel_rfl
theorem gu12 : (Tryd.prog.globals[12]?).map (·.type) = some 43 := by kernel_rfl
theorem ga13 : Tryd.prog.globalNamed "augur/api.ErrHeap" = some 13 := by kernel_rfl
theorem gu13 : (Tryd.prog.globals[13]?).map (·.type) = some 43 := by kernel_rfl
theorem ga14 : Tryd.prog.globalNamed "augur/api.ErrFrames" = some 14 := by kernel_rfl
theorem gu14 : (Tryd.prog.globals[14]?).map (·.type) = some 43 := by kernel_rfl
theorem ga15 : Tryd.prog.globalNamed "augur/api.ErrState" = some 15 := by kernel_rfl
theorem gu15 : (Tryd.prog.globals[15]?).map (·.type) = some 43 := by kernel_rfl
/-- All the errors. -/
abbrev laidA : List (String × DataW Unit) := [("augur/api.ErrText", Rows.laid_augur_api_ErrText), ("augur/api.ErrSyntax", Rows.laid_augur_api_ErrSyntax), ("augur/api.ErrNest", Rows.laid_augur_api_ErrNest), ("augur/api.ErrLarge", Rows.laid_augur_api_ErrLarge), ("augur/api.ErrNames", Rows.laid_augur_api_ErrNames), ("augur/api.ErrTypes", Rows.laid_augur_api_ErrTypes), ("augur/api.ErrModes", Rows.laid_augur_api_ErrModes), ("augur/api.ErrDet", Rows.laid_augur_api_ErrDet), ("augur/api.ErrNone", Rows.laid_augur_api_ErrNone), ("augur/api.ErrData", Rows.laid_augur_api_ErrData), ("augur/api.ErrBytes", Rows.laid_augur_api_ErrBytes), ("augur/api.ErrCode", Rows.laid_augur_api_ErrCode), ("augur/api.ErrFuel", Rows.laid_augur_api_ErrFuel), ("augur/api.ErrHeap", Rows.laid_augur_api_ErrHeap), ("augur/api.ErrFrames", Rows.laid_augur_api_ErrFrames), ("augur/api.ErrState", Rows.laid_augur_api_ErrState)]
def onA (g : Nat) : Bool := decide (g < 16)
theorem env_okA {W : World} (h : laidMet Tryd.prog laidA W) : ∃ eb : Nat → Addr, EnvOK (seatV ⟨eb, onA⟩) W (fun _ => False) := by
 obtain ⟨eb, he⟩ := laid_env (TE := 223) Tryd.underlying43 rowV Tryd.underlying206 Tryd.underlying223 rfl rfl Tryd.underlying9 cellsE cellsS h (fun g => if onA g = true then some (.sent g) else none) (by
  intro g x hg
  split at hg
  ·rename_i hlt
   cases hg
   refine ⟨rfl, ?_⟩
   have hg' : g < 16 := of_decide_eq_true hlt
   have : g = 0 ∨ g = 1 ∨ g = 2 ∨ g = 3 ∨ g = 4 ∨ g = 5 ∨ g = 6 ∨ g = 7 ∨ g = 8 ∨ g = 9 ∨ g = 10 ∨ g = 11 ∨ g = 12 ∨ g = 13 ∨ g = 14 ∨ g = 15 := by omega
   rcases this with rfl | rfl | rfl | rfl | rfl | rfl | rfl | rfl | rfl | rfl | rfl | rfl | rfl | rfl | rfl | rfl
   ·exact ⟨("augur/api.ErrNames", Rows.laid_augur_api_ErrNames), List.mem_of_getElem? (i := 4) rfl, ga0, gu0, _, rfl⟩
   ·exact ⟨("augur/api.ErrNone", Rows.laid_augur_api_ErrNone), List.mem_of_getElem? (i := 8) rfl, ga1, gu1, _, rfl⟩
   ·exact ⟨("augur/api.ErrLarge", Rows.laid_augur_api_ErrLarge), List.mem_of_getElem? (i := 3) rfl, ga2, gu2, _, rfl⟩
   ·exact ⟨("augur/api.ErrText", Rows.laid_augur_api_ErrText), List.mem_of_getElem? (i := 0) rfl, ga3, gu3, _, rfl⟩
   ·exact ⟨("augur/api.ErrSyntax", Rows.laid_augur_api_ErrSyntax), List.mem_of_getElem? (i := 1) rfl, ga4, gu4, _, rfl⟩
   ·exact ⟨("augur/api.ErrNest", Rows.laid_augur_api_ErrNest), List.mem_of_getElem? (i := 2) rfl, ga5, gu5, _, rfl⟩
   ·exact ⟨("augur/api.ErrTypes", Rows.laid_augur_api_ErrTypes), List.mem_of_getElem? (i := 5) rfl, ga6, gu6, _, rfl⟩
   ·exact ⟨("augur/api.ErrModes", Rows.laid_augur_api_ErrModes), List.mem_of_getElem? (i := 6) rfl, ga7, gu7, _, rfl⟩
   ·exact ⟨("augur/api.ErrDet", Rows.laid_augur_api_ErrDet), List.mem_of_getElem? (i := 7) rfl, ga8, gu8, _, rfl⟩
   ·exact ⟨("augur/api.ErrData", Rows.laid_augur_api_ErrData), List.mem_of_getElem? (i := 9) rfl, ga9, gu9, _, rfl⟩
   ·exact ⟨("augur/api.ErrBytes", Rows.laid_augur_api_ErrBytes), List.mem_of_getElem? (i := 10) rfl, ga10, gu10, _, rfl⟩
   ·exact ⟨("augur/api.ErrCode", Rows.laid_augur_api_ErrCode), List.mem_of_getElem? (i := 11) rfl, ga11, gu11, _, rfl⟩
   ·exact ⟨("augur/api.ErrFuel", Rows.laid_augur_api_ErrFuel), List.mem_of_getElem? (i := 12) rfl, ga12, gu12, _, rfl⟩
   ·exact ⟨("augur/api.ErrHeap", Rows.laid_augur_api_ErrHeap), List.mem_of_getElem? (i := 13) rfl, ga13, gu13, _, rfl⟩
   ·exact ⟨("augur/api.ErrFrames", Rows.laid_augur_api_ErrFrames), List.mem_of_getElem? (i := 14) rfl, ga14, gu14, _, rfl⟩
   ·exact ⟨("augur/api.ErrState", Rows.laid_augur_api_ErrState), List.mem_of_getElem? (i := 15) rfl, ga15, gu15, _, rfl⟩
  ·cases hg)
 exact ⟨eb, he (fun _ => false)⟩
instance onAll {eb : Nat → Addr} : OnAll ⟨eb, onA⟩ := ⟨fun g hg => decide_eq_true hg⟩
theorem closed31 : closedT Tryd.prog [3, 9, 31] = true := by kernel_rfl
theorem cells31 : Tryd.prog.cellsOf 31 = 2 := by kernel_rfl
theorem cells9 : Tryd.prog.cellsOf 9 = 1 := by kernel_rfl
theorem cells3 : Tryd.prog.cellsOf 3 = 1 := by kernel_rfl
theorem read31 : Tryd.prog.readableRec 31 = true := by kernel_rfl
theorem size31 : 31 < Tryd.prog.types.size := of_decide_eq_true (by kernel_rfl)
/-- A key that comes in. -/
theorem key_rep {H : Type} {enc : TypeId × Value → H} {W : World} {base : Nat} {v0 : Value} {d0 : DataW H} {ps : List MemPlace} {V : Env}
  (hok : Value.okWide Tryd.prog W .any base 31 v0) (h0 : DataW.Trod enc Tryd.prog W 0 (fun _ => true) true 31 v0 d0 ps) : ∃ k : Ky, RepA V W (fun _ => False) v0 (.d k.d) := by
 unfold Value.okWide at hok
 simp only [Tryd.underlying31] at hok
 obtain ⟨cs, rfl, hsz, _⟩ := hok
 obtain ⟨fuel, h0⟩ := h0
 obtain ⟨ds, h1, h2⟩ := trod_rep (V := V) (Z := fun _ => False) closed31 (fun _ h => h) fuel 31 _ _ (by decide) h0
 have h2' : RepL V W (fun _ => False) cs.toList ds := h2
 obtain ⟨m, rfl, hlen, hf⟩ := hasT_struct Tryd.underlying31 h1
 rw [cells31] at hlen
 obtain ⟨x, y, rfl⟩ : ∃ x y, ds = [x, y] := by
  match ds, hlen with
  | [x, y], _ => exact ⟨x, y, rfl⟩
 have e0 : HasT Tryd.prog m 9 ((([x, y] : List D).drop 0).take (Tryd.prog.cellsOf 9)) := hf 0 _ rfl
 have e1 : HasT Tryd.prog m 3 ((([x, y] : List D).drop 1).take (Tryd.prog.cellsOf 3)) := hf 1 _ rfl
 simp only [cells9, cells3] at e0 e1
 obtain ⟨s, hs⟩ := hasT_str Tryd.underlying9 e0
 obtain ⟨n, hn⟩ := hasT_int Tryd.underlying3 e1
 simp only [List.drop_zero, List.take_succ_cons, List.take_zero, List.cons.injEq, and_true] at hs
 simp only [List.drop_succ_cons, List.drop_zero, List.take_succ_cons, List.take_zero, List.cons.injEq, and_true] at hn
 subst hs
 subst hn
 refine ⟨⟨s, n⟩, .d _ _ ?_⟩
 have e : Value.agg cs = .agg cs.toList.toArray := by simp
 rw [e]
 exact .agg cs.toList _ h2'.1 (fun v hv => by
  obtain ⟨j, hj⟩ := List.getElem?_of_mem hv
  have hjl := (List.getElem?_eq_some_iff.1 hj).1
  exact (h2'.2 j v _ hj (List.getElem?_eq_getElem (by rw [← h2'.1]; exact hjl))).2) (fun j hj hj' => (h2'.2 j _ _ (List.getElem?_eq_getElem hj) (List.getElem?_eq_getElem hj')).1)
theorem law_calls2 {P : Program} {f : FuncId} {x y : D} {V : Env} {W : World} {v0 v1 : Value} (ok : ACall P V f [.d x, .d y] (fun _ => none) (fun r _ => r = .d (.bool true))) (hr : RepA V W (fun _ => False) v0 (.d x)) (hr' : RepA V W (fun _ => False) v1 (.d y)) (he : EnvOK V W (fun _ => False)) :
  Calls P f #[v0, v1] W fun e W' => e = .returned (.bool true) ∧ Below W.heap.size W W' := by
 have := ok (fun _ => False) W [v0, v1] rfl (fun j h h' => by
  match j with
  | 0 => exact hr
  | 1 => exact hr'
  | j + 2 => simp at h; omega) ⟨(fun b o h => by cases h), (fun b h => h.elim), he, (fun b o h => by cases h)⟩
 refine this.mono ?_
 rintro e W' ⟨v, r, Z', H', rfl, hv, _, hx, rfl⟩
 refine ⟨?_, below_of hx⟩
 cases hv with
 | d _ _ h => cases h; rfl
theorem door_metA (os : Os) (args : Array Value) : laidMetH Tryd.prog laidA ((World.doorLaid Tryd.prog 360 os).forCall (fun _ _ => 0) ⟨#[], args, []⟩).memory :=
 laidMetH_of_parts3 (fuel := 8) (laidMet_of_run' 8 (by kernel_rfl) (by kernel_rfl)) (by kernel_rfl) (by kernel_rfl)
theorem flatBodies_lifted (os : Os) (started : os.Started) (H : Type) (enc : TypeId × Value → H) :
  ReturnsInHanded {} Tryd.checked os 8 .any (fun w args => (Rows.flatBodiesSpec.pre enc Tryd.prog Tryd.f8 [] false w args ∧ laidMetH Tryd.prog laidA w) ∧ sizedMet enc Tryd.prog Tryd.f8 (OpenSpec.ofChange Rows.flatBodiesSpec) false w args)
   (Rows.flatBodiesSpec.post enc Tryd.prog Tryd.f8 false true false false) := by
 refine returnsInHanded_of_change_and (C := Tryd.checked) (X := fun w _ => laidMetH Tryd.prog laidA w) (fun _ _ _ hh h => h.of_heap hh) own started (by kernel_rfl) Tryd.func8
  (ChangeSpec.witness_shaped (enc := enc) (C := Tryd.checked) (os := os) (X := fun w _ => laidMetH Tryd.prog laidA w) false (World.doorLaid Tryd.prog 360 os) #[.string ⟨#[]⟩, .agg #[.string ⟨#[]⟩, .int .i64 0]] 8 rfl (World.shaped_of_RefB (by kernel_rfl) (by kernel_rfl)) (by kernel_rfl) (by kernel_rfl) (by kernel_rfl) (door_metA os _)) ?_
 intro W base args ds gs before hval0 hW _ _ hL _
 have hval : ∀ (j : Nat) t v, Tryd.f8.params[j]? = some t → args[j]? = some v → Value.okWide Tryd.prog W .any base t v := hval0
 have hW' := hW
 obtain ⟨p, q, hA0, hV, rfl, hfz, hnd⟩ := hW
 have hA : DataW.TrodAll enc Tryd.prog W 0 (fun _ => true) true Tryd.f8.params.toList args.toList ds p := hA0
 have hlt := hA.lt
 rw [Tryd.params8] at hA hval
 obtain ⟨v0, v1, d0, d1, p0, p1, rfl, rfl, rfl, h0, h1⟩ := trodAll_two hA
 obtain ⟨rfl, rfl⟩ := trodVars_none hV
 have hL' : laidMet Tryd.prog laidA W := by
  have := hL
  rwa [MakeChecks.laidMetH_plain _ _ _ (by kernel_rfl)] at this
 obtain ⟨eb, henv⟩ := env_okA hL'
 obtain ⟨s, h2⟩ := str_rep (V := seatV ⟨eb, onA⟩) (hval 0 9 v0 rfl rfl) h0
 obtain ⟨k, h3⟩ := key_rep (V := seatV ⟨eb, onA⟩) (hval 1 31 v1 rfl rfl) h1
 refine (law_calls2 (flatBodies_ok s k (fun _ => none) _ rfl) h2 h3 henv).mono ?_
 rintro e W' ⟨rfl, hbl⟩
 have e1 : Rows.flatBodiesSpec.fn H ([d0, d1] ++ []) = { results := [.lit (.bool true)], args := [d0, d1] } := rfl
 refine ⟨_, rfl, _, _, _, [], p0 ++ p1, [], hW', ?_, ?_, ?_, hbl.frame _, fun h => by cases h⟩
 ·rw [e1]; exact trodAll_mk1 (shut_bool Tryd.underlying4 true)
 ·rw [e1]
  exact trodAll_mk2 (Below.trod laidOut read9 size9 h0 hbl (fun x hx => hlt x (List.mem_append.2 (.inl hx)))) (Below.trod laidOut read31 size31 h1 hbl (fun x hx => hlt x (List.mem_append.2 (.inr hx))))
 ·rw [e1]; rfl
theorem flatBodies_holds : Rows.FlatBodiesSaid :=
 OpenClaim.holds_of_wide 8 Tryd.f8 rfl rfl rfl rfl rfl rfl rfl ⟨rfl, rfl, rfl, rfl, rfl⟩ rfl rfl rfl rfl rfl (by kernel_rfl) Tryd.func8 (by kernel_rfl)
  (of_decide_eq_true (by kernel_rfl)) (by unfold Func.isWrapper; first | (rw [if_pos (by decide +kernel)]; kernel_rfl) | (rw [if_neg (by decide +kernel)]; exact ⟨rfl, rfl⟩))
  (fun os started H enc _ => flatBodies_lifted os started H enc)
theorem flatBodies_card : Rows.FlatBodiesCardSaid :=
 Claim7.holds_tied_plain_at .later [] _ _ _ _ flatBodies_holds (fun _ h => by cases h) (by kernel_rfl) (fun _ h => by cases h) flatBodies_row_tie rfl ⟨rfl, rfl⟩ (by kernel_rfl) rfl
  (fun f fn hf hfn => by
   obtain rfl : f = 8 := Option.some.inj ((show Tryd.prog.funcNamed "augur/augurlaw05.FlatBodies" = some 8 by kernel_rfl).symm.trans hf) |>.symm
   obtain rfl : fn = Tryd.f8 := (Option.some.inj (Tryd.func8.symm.trans hfn)).symm
   exact ⟨by kernel_rfl, fun j t ht => by
    rw [Tryd.params8] at ht
    have hm : t ∈ [9, 31] := by simpa using Array.mem_of_getElem? ht
    have hall : ([9, 31].all fun u => !Tryd.prog.wantsStandIn u) = true := by kernel_rfl
    exact (show Tryd.prog.wantsStandIn t = false by simpa using List.all_eq_true.1 hall t hm)⟩)
  (by kernel_rfl)
#print axioms flatBodies_card
end Go.Proofs.YtejfagblpbmokaaDoor
