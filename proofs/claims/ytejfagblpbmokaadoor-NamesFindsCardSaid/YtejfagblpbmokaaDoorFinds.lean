/- NamesFinds answers true for every input, and the input reads as it did: the row and the tied card; no conditions. -/
import Derived.Test.YtejfagblpbmokaaDoorAugFour
import Derived.Test.YtejfagblpbmokaaDoorRows
import Derived.Test.YtejfagblpbmokaaDoorCards
import Derived.Test.YtejfagblpbmokaaDoorTie
import Derived.ChangeSame
import Derived.ChangeVars
import Derived.JoinedOf
import Derived.RowKit
import Derived.RowKitTokens
import Derived.Carry
import Derived.LaidLaws
import Derived.LaidMore
import Derived.OpenShut
import Derived.Lay
import Derived.Stop.ErrReads
import Derived.Stop.Joined
import Derived.SevenTiedAt
import Derived.Test.YtejfagblpbmokaaDoorResolvedTwo
set_option linter.all false
set_option linter.unusedVariables false
set_option linter.unusedSimpArgs false
set_option linter.unusedSectionVars false

/- NamesFinds: the row and the card. -/
namespace Go.Proofs.YtejfagblpbmokaaDoor
open Go Go.Aug Go.ChangeShapes Go.WideShapes Go.RowKit
set_option maxRecDepth 100000
theorem own : ownKnob Tryd.prog.godebug = none := by kernel_rfl
theorem starV : "*" ++ "errors.errorString" = "*errors.errorString" := by decide
theorem rowV (u : TypeId) (h : Tryd.prog.typeName? 3 u = some "*errors.errorString") : u = 206 :=
 typeName_ptr_named (nm := "errors.errorString") (by rw [starV]; kernel_rfl) (by kernel_rfl) (by decide) u (by rw [starV]; exact h)
theorem cellsE : Tryd.prog.cellsOf 223 = 1 := by kernel_rfl
theorem cellsS : Tryd.prog.cellsOf 9 = 1 := by kernel_rfl
theorem laidOut : laidOutB Tryd.prog = true := by kernel_rfl
theorem gs0 : Tryd.prog.globalNamed "augur/api.ErrNames" = some 0 := by kernel_rfl
theorem gt0 : (Tryd.prog.globals[0]?).map (·.type) = some 43 := by kernel_rfl
/-- What the row says of the package's variables. -/
abbrev laidF : List (String × DataW Unit) := [("augur/api.ErrNames", Rows.laid_augur_api_ErrNames)]
def onF (g : Nat) : Bool := g == 0
theorem env_ok {W : World} (h : laidMet Tryd.prog laidF W) : ∃ eb : Nat → Addr, EnvOK (seatV ⟨eb, onF⟩) W (fun _ => False) := by
 obtain ⟨eb, he⟩ := laid_env (TE := 223) Tryd.underlying43 rowV Tryd.underlying206 Tryd.underlying223 rfl rfl Tryd.underlying9 cellsE cellsS h (fun g => if onF g = true then some (.sent g) else none) (by
  intro g x hg
  split at hg
  ·rename_i hlt
   cases hg
   refine ⟨rfl, ?_⟩
   have : g = 0 := by simpa [onF] using hlt
   subst this
   ·exact ⟨("augur/api.ErrNames", Rows.laid_augur_api_ErrNames), List.mem_of_getElem? (i := 0) rfl, gs0, gt0, _, rfl⟩
  ·cases hg)
 exact ⟨eb, he (fun _ => false) (fun _ => false)⟩
instance on0 {eb : Nat → Addr} : On ⟨eb, onF⟩ 0 := ⟨rfl⟩
theorem read31 : Tryd.prog.readableRec 31 = true := by kernel_rfl
theorem size31 : 31 < Tryd.prog.types.size := of_decide_eq_true (by kernel_rfl)
theorem read60 : Tryd.prog.readableRec 60 = true := by kernel_rfl
theorem size60 : 60 < Tryd.prog.types.size := of_decide_eq_true (by kernel_rfl)
theorem read9 : Tryd.prog.readableRec 9 = true := by kernel_rfl
theorem size9 : 9 < Tryd.prog.types.size := of_decide_eq_true (by kernel_rfl)
theorem str_rep {H : Type} {enc : TypeId × Value → H} {W : World} {base : Nat} {v0 : Value} {d0 : DataW H} {ps : List MemPlace} {V : Env}
  (hok : Value.okWide Tryd.prog W .any base 9 v0) (h0 : DataW.Trod enc Tryd.prog W 0 (fun _ => true) true 9 v0 d0 ps) : ∃ s : ByteArray, RepA V W (fun _ => False) v0 (.d (.str s)) := by
 unfold Value.okWide at hok
 simp only [Tryd.underlying9] at hok
 cases v0 with
 | string s => exact ⟨s, .d _ _ (.str s)⟩
 | _ => exact hok.elim
theorem closedK : closedT Tryd.prog [3, 9, 31] = true := by kernel_rfl
theorem cellsK : Tryd.prog.cellsOf 31 = 2 := by kernel_rfl
theorem cellsK9 : Tryd.prog.cellsOf 9 = 1 := by kernel_rfl
theorem cellsK3 : Tryd.prog.cellsOf 3 = 1 := by kernel_rfl
/-- A key that comes in. -/
theorem key_rep {H : Type} {enc : TypeId × Value → H} {W : World} {base : Nat} {v0 : Value} {d0 : DataW H} {ps : List MemPlace} {V : Env}
  (hok : Value.okWide Tryd.prog W .any base 31 v0) (h0 : DataW.Trod enc Tryd.prog W 0 (fun _ => true) true 31 v0 d0 ps) : ∃ k : Ky, RepA V W (fun _ => False) v0 (.d k.d) := by
 unfold Value.okWide at hok
 simp only [Tryd.underlying31] at hok
 obtain ⟨cs, rfl, hsz, _⟩ := hok
 obtain ⟨fuel, h0⟩ := h0
 obtain ⟨ds, h1, h2⟩ := trod_rep (V := V) (Z := fun _ => False) closedK (fun _ h => h) fuel 31 _ _ (by decide) h0
 have h2' : RepL V W (fun _ => False) cs.toList ds := h2
 obtain ⟨m, rfl, hlen, hf⟩ := hasT_struct Tryd.underlying31 h1
 rw [cellsK] at hlen
 obtain ⟨x, y, rfl⟩ : ∃ x y, ds = [x, y] := by
  match ds, hlen with
  | [x, y], _ => exact ⟨x, y, rfl⟩
 have e0 : HasT Tryd.prog m 9 ((([x, y] : List D).drop 0).take (Tryd.prog.cellsOf 9)) := hf 0 _ rfl
 have e1 : HasT Tryd.prog m 3 ((([x, y] : List D).drop 1).take (Tryd.prog.cellsOf 3)) := hf 1 _ rfl
 simp only [cellsK9, cellsK3] at e0 e1
 obtain ⟨s, hs⟩ := hasT_str Tryd.underlying9 e0
 obtain ⟨n, hn⟩ := hasT_int Tryd.underlying3 e1
 simp only [List.drop_zero, List.take_succ_cons, List.take_zero, List.cons.injEq, and_true] at hs
 simp only [List.drop_succ_cons, List.drop_zero, List.take_succ_cons, List.take_zero, List.cons.injEq, and_true] at hn
 subst hs
 subst hn
 refine ⟨⟨s, n⟩, .d _ _ ?_⟩
 have e : Value.agg cs = .agg cs.toList.toArray := by simp
 rw [e]
 exact .agg cs.toList _ h2'.1 (fun v hv => by
  obtain ⟨j, hj⟩ := List.getElem?_of_mem hv
  have hjl := (List.getElem?_eq_some_iff.1 hj).1
  exact (h2'.2 j v _ hj (List.getElem?_eq_getElem (by rw [← h2'.1]; exact hjl))).2) (fun j hj hj' => (h2'.2 j _ _ (List.getElem?_eq_getElem hj) (List.getElem?_eq_getElem hj')).1)
theorem closedB : closedT Tryd.prog [4, 60] = true := by kernel_rfl
theorem bools_rep {H : Type} {enc : TypeId × Value → H} {W : World} {base : Nat} {v0 : Value} {d0 : DataW H} {ps : List MemPlace} {V : Env}
  (hok : Value.okWide Tryd.prog W .any base 60 v0) (h0 : DataW.Trod enc Tryd.prog W 0 (fun _ => true) true 60 v0 d0 ps) : ∃ l : List Bool, RepA V W (fun _ => False) v0 (.d (.slice (l.map .bool))) := by
 unfold Value.okWide at hok
 simp only [Tryd.underlying60] at hok
 cases v0 with
 | slice a n c =>
  obtain ⟨fuel, h0⟩ := h0
  obtain ⟨ds, h1, h2⟩ := trod_rep (V := V) (Z := fun _ => False) closedB (fun _ h => h) fuel 60 _ _ (by decide) h0
  obtain ⟨m, ess, rfl, rfl, he⟩ := hasT_slice Tryd.underlying60 h1
  obtain ⟨l, hl⟩ := map_of (f := Go.Aug.elemOf Tryd.prog 4) (g := D.bool) (l := ess) fun cs hcs => by
   obtain ⟨b, rfl⟩ := hasT_bool Tryd.underlying4 (he cs hcs)
   exact ⟨b, rfl⟩
  have h2' : RepL V W (fun _ => False) [.slice a n c] _ := h2
  exact ⟨l, .d _ _ (by rw [← hl]; exact (h2'.2 0 _ _ rfl rfl).1)⟩
 | _ => exact hok.elim
/-- The law's call, from its contract. -/
theorem law_callsN {P : Program} {f : FuncId} {V : Env} {W : World} {x0 x1 x2 : D} {v0 v1 v2 : Value} (ok : ACall P V f [.d x0, .d x1, .d x2] (fun _ => none) (fun r _ => r = .d (.bool true))) (r0 : RepA V W (fun _ => False) v0 (.d x0)) (r1 : RepA V W (fun _ => False) v1 (.d x1)) (r2 : RepA V W (fun _ => False) v2 (.d x2)) (he : EnvOK V W (fun _ => False)) :
  Calls P f #[v0, v1, v2] W fun e W' => e = .returned (.bool true) ∧ Below W.heap.size W W' := by
 have := ok (fun _ => False) W [v0, v1, v2] rfl (fun j h h' => by
  match j with
  | 0 => exact r0
  | 1 => exact r1
  | 2 => exact r2
  | j + 3 => simp at h; omega) ⟨(fun b o h => by cases h), (fun b h => h.elim), he, (fun b o h => by cases h)⟩
 refine this.mono ?_
 rintro e W' ⟨v, r, Z', H', rfl, hv, _, hx, rfl⟩
 refine ⟨?_, below_of hx⟩
 cases hv with
 | d _ _ h => cases h; rfl
/-- The door's own heap meets the condition. -/
theorem door_met (os : Os) (args : Array Value) : laidMetH Tryd.prog laidF ((World.doorLaid Tryd.prog 184 os).forCall (fun _ _ => 0) ⟨#[], args, []⟩).memory :=
 laidMetH_of_parts3 (fuel := 8) (laidMet_of_run' 8 (by kernel_rfl) (by kernel_rfl)) (by kernel_rfl) (by kernel_rfl)
theorem namesFinds_lifted (os : Os) (started : os.Started) (H : Type) (enc : TypeId × Value → H) :
  ReturnsInHanded {} Tryd.checked os 9 .any (fun w args => (Rows.namesFindsSpec.pre enc Tryd.prog Tryd.f9 [] false w args ∧ laidMetH Tryd.prog laidF w) ∧ sizedMet enc Tryd.prog Tryd.f9 (OpenSpec.ofChange Rows.namesFindsSpec) false w args)
   (Rows.namesFindsSpec.post enc Tryd.prog Tryd.f9 false true false false) := by
 refine returnsInHanded_of_change_and (C := Tryd.checked) (X := fun w _ => laidMetH Tryd.prog laidF w) (fun _ _ _ hh h => h.of_heap hh) own started (by kernel_rfl) Tryd.func9
  (ChangeSpec.witness_shaped (enc := enc) (C := Tryd.checked) (os := os) (X := fun w _ => laidMetH Tryd.prog laidF w) false (World.doorLaid Tryd.prog 184 os) #[.string ⟨#[]⟩, .agg #[.string ⟨#[]⟩, .int .i64 0], .slice none 0 0] 8 rfl (World.shaped_of_RefB (by kernel_rfl) (by kernel_rfl)) (by kernel_rfl) (by kernel_rfl) (by kernel_rfl) (door_met os _)) ?_
 intro W base args ds gs before hval0 hW _ _ hL _
 have hval : ∀ (j : Nat) t v, Tryd.f9.params[j]? = some t → args[j]? = some v → Value.okWide Tryd.prog W .any base t v := hval0
 have hW' := hW
 obtain ⟨p, q, hA0, hV, rfl, hfz, hnd⟩ := hW
 have hA : DataW.TrodAll enc Tryd.prog W 0 (fun _ => true) true Tryd.f9.params.toList args.toList ds p := hA0
 have hlt := hA.lt
 rw [Tryd.params9] at hA hval
 obtain ⟨v0, v1, v2, d0, d1, d2, p0, p1, p2, rfl, rfl, rfl, h0, h1, h2⟩ := trodAll_three hA
 obtain ⟨rfl, rfl⟩ := trodVars_none hV
 have hL' : laidMet Tryd.prog laidF W := by
  have := hL
  rwa [MakeChecks.laidMetH_plain _ _ _ (by kernel_rfl)] at this
 obtain ⟨eb, henv⟩ := env_ok hL'
 obtain ⟨s0, r0⟩ := str_rep (V := seatV ⟨eb, onF⟩) (hval 0 9 v0 rfl rfl) h0
 obtain ⟨s1, r1⟩ := key_rep (V := seatV ⟨eb, onF⟩) (hval 1 31 v1 rfl rfl) h1
 obtain ⟨s2, r2⟩ := bools_rep (V := seatV ⟨eb, onF⟩) (hval 2 60 v2 rfl rfl) h2
 refine (law_callsN (namesFinds_ok s0 s1 s2 (fun _ => none) _ rfl) r0 r1 r2 henv).mono ?_
 rintro e W' ⟨rfl, hbl⟩
 have e1 : Rows.namesFindsSpec.fn H ([d0, d1, d2] ++ []) = { results := [.lit (.bool true)], args := [d0, d1, d2] } := rfl
 refine ⟨_, rfl, _, _, _, [], p0 ++ (p1 ++ p2), [], hW', ?_, ?_, ?_, hbl.frame _, fun h => by cases h⟩
 ·rw [e1]; exact trodAll_mk1 (shut_bool Tryd.underlying4 true)
 ·rw [e1]; exact trodAll_mk3 (Below.trod laidOut read9 size9 h0 hbl (fun x hx => hlt x (List.mem_append.2 (.inl (List.mem_append.2 (.inl hx)))))) (Below.trod laidOut read31 size31 h1 hbl (fun x hx => hlt x (List.mem_append.2 (.inl (List.mem_append.2 (.inr hx)))))) (Below.trod laidOut read60 size60 h2 hbl (fun x hx => hlt x (List.mem_append.2 (.inr hx))))
 ·rw [e1]; rfl
theorem namesFinds_holds : Rows.NamesFindsSaid :=
 OpenClaim.holds_of_wide 9 Tryd.f9 rfl rfl rfl rfl rfl rfl rfl ⟨rfl, rfl, rfl, rfl, rfl⟩ rfl rfl rfl rfl rfl (by kernel_rfl) Tryd.func9 (by kernel_rfl)
  (of_decide_eq_true (by kernel_rfl)) (by unfold Func.isWrapper; first | (rw [if_pos (by decide +kernel)]; kernel_rfl) | (rw [if_neg (by decide +kernel)]; exact ⟨rfl, rfl⟩))
  (fun os started H enc _ => namesFinds_lifted os started H enc)
theorem namesFinds_card : Rows.NamesFindsCardSaid :=
 Claim7.holds_tied_plain_at .later [] _ _ _ _ namesFinds_holds (fun _ h => by cases h) (by kernel_rfl) (fun _ h => by cases h) namesFinds_row_tie rfl ⟨rfl, rfl⟩ (by kernel_rfl) rfl
  (fun f fn hf hfn => by
   obtain rfl : f = 9 := Option.some.inj ((show Tryd.prog.funcNamed "augur/augurlaw04.NamesFinds" = some 9 by kernel_rfl).symm.trans hf) |>.symm
   obtain rfl : fn = Tryd.f9 := (Option.some.inj (Tryd.func9.symm.trans hfn)).symm
   exact ⟨by kernel_rfl, fun j t ht => by
    rw [Tryd.params9] at ht
    have hm : t ∈ [9, 31, 60] := by simpa using Array.mem_of_getElem? ht
    have hall : ([9, 31, 60].all fun u => !Tryd.prog.wantsStandIn u) = true := by kernel_rfl
    exact (show Tryd.prog.wantsStandIn t = false by simpa using List.all_eq_true.1 hall t hm)⟩)
  (by kernel_rfl)
#print axioms namesFinds_card
end Go.Proofs.YtejfagblpbmokaaDoor
