/- LiveWays answers true for every input, and the input reads as it did: the row and the tied card; no conditions. -/
import Derived.Test.YtilmlmncoghpfaaDoorLiveTwo
import Derived.Test.YtilmlmncoghpfaaDoorRows
import Derived.Test.YtilmlmncoghpfaaDoorCards
import Derived.Test.YtilmlmncoghpfaaDoorTie
import Derived.ChangeSame
import Derived.ChangeVars
import Derived.JoinedOf
import Derived.RowKit
import Derived.RowKitTokens
import Derived.Carry
import Derived.LaidLaws
import Derived.LaidMore
import Derived.OpenShut
import Derived.Lay
import Derived.Stop.ErrReads
import Derived.Stop.Joined
import Derived.SevenTiedAt
set_option linter.all false
set_option linter.unusedVariables false
set_option linter.unusedSimpArgs false
set_option linter.unusedSectionVars false

/- From a contract to the row and the card. -/
namespace Go.Proofs.YtilmlmncoghpfaaDoor
open Go Go.Aug Go.ChangeShapes Go.WideShapes Go.RowKit
set_option maxRecDepth 100000

theorem own : ownKnob Tryd.prog.godebug = none := by kernel_rfl
theorem gErr : Tryd.prog.globalNamed "augur/api.ErrCode" = some 0 := by kernel_rfl
theorem tErr : (Tryd.prog.globals[0]?).map (·.type) = some 34 := by kernel_rfl
theorem cells156 : Tryd.prog.cellsOf 156 = 1 := by kernel_rfl
theorem star : "*" ++ "errors.errorString" = "*errors.errorString" := by decide
theorem row139 (u : TypeId) (h : Tryd.prog.typeName? 3 u = some "*errors.errorString") : u = 139 :=
  typeName_ptr_named (nm := "errors.errorString") (by rw [star]; kernel_rfl) (by kernel_rfl) (by decide) u (by rw [star]; exact h)
abbrev laidL : List (String × DataW Unit) := [("augur/api.ErrCode", Rows.laid_augur_api_ErrCode)]

/-- What the condition gives: the sentinel's cell, and the block that it points into. -/
theorem sentinel_of {W : World} (h : laidMetH Tryd.prog laidL W) : ∃ a0 : Addr, W.cell? ⟨0, 0, none⟩ = some (.iface 139 (.pointer (some a0))) ∧ ∃ c t, W.heap[a0.block]? = some (.cells c t (0, 0)) := by
  rw [MakeChecks.laidMetH_plain _ _ _ (by kernel_rfl)] at h
  obtain ⟨ps, ⟨g0, t0, cs0, f0, p0, q0, hg0, ht0, hv0, hd0, hq, e0⟩, hnd, hrows⟩ := h
  obtain rfl := Option.some.inj (gErr.symm.trans hg0)
  obtain rfl := Option.some.inj (tErr.symm.trans ht0)
  subst e0
  obtain ⟨l0⟩ := cs0
  have ok0 : ∀ u v, l0 = [.iface u v] → Value.okWide Tryd.prog W .any 0 u v := fun u v e => by
    subst e
    exact (hrows 0 0 (by simp [MemPlace.row])).2 u v (by simpa using World.var?_cell hg0 hv0 0)
  obtain ⟨a0, s0, rfl, hc0, hs0, hz0, rfl⟩ := errorString_of_trod Tryd.underlying34 row139 Tryd.underlying139 Tryd.underlying156 rfl rfl Tryd.underlying9 cells156 Aug.cells9 hd0 ok0
  obtain ⟨c0, t0, hb0⟩ := (hrows a0.block a0.off (by simp [MemPlace.row])).1
  exact ⟨a0, by simpa using World.var?_cell hg0 hv0 0, c0, t0, hb0⟩

theorem env_ok {W : World} {a0 : Addr} (hc : W.cell? ⟨0, 0, none⟩ = some (.iface 139 (.pointer (some a0)))) (hb : ∃ c t, W.heap[a0.block]? = some (.cells c t (0, 0))) : EnvOK (seatV fun _ => a0) W (fun _ => False) where
  glob := fun g x hg => by
    simp only [seatV] at hg
    split at hg
    · rename_i e; subst e
      cases hg
      refine ⟨id, World.block_lt_of_cell? W _ hc, _, hc, rfl, ?_⟩
      exact RepD.sent (V := seatV fun _ => a0) 0
    · cases hg
  sent := fun g hg => by
    obtain ⟨c, t, hb⟩ := hb
    exact ⟨id, (Array.getElem?_eq_some_iff.1 hb).1, c, t, hb⟩
  inj := fun g g' hg hg' _ => by
    simp only [seatV] at hg hg'
    split at hg
    · split at hg'
      · rename_i e e'; rw [e, e']
      · cases hg'
    · cases hg

theorem below_of {Z' : Nat → Prop} {H' : Heap} {W W' : World} (x : Ext (fun _ => False) (fun _ => none) W Z' H' W') : Below W.heap.size W W' :=
  ⟨x.os, x.tape, x.output, x.size, fun k hk => x.block k hk (fun ⟨_, h, _⟩ => by cases h)⟩

/-- The argument, as a deep value. -/
theorem arg_rep {H : Type} {enc : TypeId × Value → H} {W : World} {base : Nat} {t : TypeId} {fs : Array Field} {v0 : Value} {d0 : DataW H} {ps : List MemPlace} {T : List TypeId} {V : Env} (hT : closedT Tryd.prog T = true) (ht : t ∈ T) (hu : Tryd.prog.underlying t = some (.struct fs))
    (hok : Value.okWide Tryd.prog W .any base t v0) (h0 : DataW.Trod enc Tryd.prog W 0 (fun _ => true) true t v0 d0 ps) : ∃ n ds, HasT Tryd.prog n t ds ∧ RepA V W (fun _ => False) v0 (.d (.agg ds)) := by
  unfold Value.okWide at hok
  simp only [hu] at hok
  obtain ⟨cs, rfl, hsz, _⟩ := hok
  obtain ⟨fuel, h0⟩ := h0
  obtain ⟨ds, h1, h2⟩ := trod_rep (V := V) (Z := fun _ => False) hT (fun _ h => h) fuel t _ _ ht h0
  refine ⟨fuel, ds, h1, .d _ _ ?_⟩
  have e : Value.agg cs = .agg cs.toList.toArray := by simp
  rw [e]
  have h2' : RepL V W (fun _ => False) cs.toList ds := h2
  exact .agg cs.toList ds h2'.1 (fun v hv => by
    obtain ⟨j, hj⟩ := List.getElem?_of_mem hv
    have hjl := (List.getElem?_eq_some_iff.1 hj).1
    exact (h2'.2 j v (ds[j]'(by rw [← h2'.1]; exact hjl)) hj (List.getElem?_eq_getElem _)).2) (fun j hj hj' => (h2'.2 j _ _ (List.getElem?_eq_getElem hj) (List.getElem?_eq_getElem hj')).1)

theorem law_calls {f : FuncId} {x : D} {V : Env} {W : World} {v0 : Value} (ok : ACall Tryd.prog V f [.d x] (fun _ => none) (fun r _ => r = .d (.bool true))) (hr : RepA V W (fun _ => False) v0 (.d x)) (he : EnvOK V W (fun _ => False)) :
    Calls Tryd.prog f #[v0] W fun e W' => e = .returned (.bool true) ∧ Below W.heap.size W W' := by
  have := ok (fun _ => False) W [v0] rfl (fun j h h' => by
    have : j = 0 := by simp at h; omega
    subst this; exact hr) ⟨(fun b o h => by cases h), (fun b h => h.elim), he, (fun b o h => by cases h)⟩
  refine this.mono ?_
  rintro e W' ⟨v, r, Z', H', rfl, hv, _, hx, rfl⟩
  refine ⟨?_, below_of hx⟩
  cases hv with
  | d _ _ h => cases h; rfl

theorem laidOut : laidOutB Tryd.prog = true := by kernel_rfl

/-- The door's own heap meets the condition. -/
theorem door_met (os : Os) (args : Array Value) : laidMetH Tryd.prog laidL ((World.doorLaid Tryd.prog 28 os).forCall (fun _ _ => 0) ⟨#[], args, []⟩).memory :=
  laidMetH_of_parts3 (fuel := 8) (laidMet_of_run' 8 (by kernel_rfl) (by kernel_rfl)) (by kernel_rfl) (by kernel_rfl)

def way0 : Value := .agg #[.string ⟨#[]⟩, .slice none 0 0, .slice none 0 0, .int .i64 0, .slice none 0 0, .slice none 0 0, .slice none 0 0, .int .i64 0, .int .i64 0]

theorem read29 : Tryd.prog.readableRec 29 = true := by kernel_rfl
theorem size29 : 29 < Tryd.prog.types.size := of_decide_eq_true (by kernel_rfl)

theorem liveWays_lifted (os : Os) (started : os.Started) (H : Type) (enc : TypeId × Value → H) :
    ReturnsInHanded {} Tryd.checked os 3 .any (fun w args => (Rows.liveWaysSpec.pre enc Tryd.prog Tryd.f3 [] false w args ∧ laidMetH Tryd.prog laidL w) ∧ sizedMet enc Tryd.prog Tryd.f3 (OpenSpec.ofChange Rows.liveWaysSpec) false w args)
      (Rows.liveWaysSpec.post enc Tryd.prog Tryd.f3 false true false false) := by
  refine returnsInHanded_of_change_and (C := Tryd.checked) (X := fun w _ => laidMetH Tryd.prog laidL w) (fun _ _ _ hh h => h.of_heap hh) own started (by kernel_rfl) Tryd.func3
    (ChangeSpec.witness_shaped (enc := enc) (C := Tryd.checked) (os := os) (X := fun w _ => laidMetH Tryd.prog laidL w) false (World.doorLaid Tryd.prog 28 os) #[way0] 8 rfl (World.shaped_of_RefB (by kernel_rfl) (by kernel_rfl)) (by kernel_rfl) (by kernel_rfl) (by kernel_rfl) (door_met os _)) ?_
  intro W base args ds gs before hval0 hW _ _ hL _
  have hval : ∀ (j : Nat) t v, Tryd.f3.params[j]? = some t → args[j]? = some v → Value.okWide Tryd.prog W .any base t v := hval0
  have hW' := hW
  obtain ⟨p, q, hA0, hV, rfl, hfz, hnd⟩ := hW
  have hA : DataW.TrodAll enc Tryd.prog W 0 (fun _ => true) true Tryd.f3.params.toList args.toList ds p := hA0
  have hlt := hA.lt
  rw [Tryd.params3] at hA hval
  obtain ⟨v0, d0, rfl, rfl, h0⟩ := trodAll_one hA
  obtain ⟨rfl, rfl⟩ := trodVars_none hV
  obtain ⟨a0, hc, hb⟩ := sentinel_of hL
  obtain ⟨n, cells, h1, h2⟩ := arg_rep (V := seatV fun _ => a0) closed29 (by decide) Tryd.underlying29 (hval 0 29 v0 rfl rfl) h0
  obtain ⟨x, rfl, hty⟩ := hasT_way h1
  refine (law_calls (liveWays_ok (fun _ => none) x hty _ rfl) h2 (env_ok hc hb)).mono ?_
  rintro e W' ⟨rfl, hbl⟩
  have e1 : Rows.liveWaysSpec.fn H ([d0] ++ []) = { results := [.lit (.bool true)], args := [d0] } := rfl
  refine ⟨_, rfl, _, _, _, [], p, [], hW', ?_, ?_, ?_, hbl.frame _, fun h => by cases h⟩
  · rw [e1]; exact trodAll_mk1 (shut_bool Tryd.underlying4 true)
  · rw [e1]; exact trodAll_mk1 (Below.trod laidOut read29 size29 h0 hbl hlt)
  · rw [e1]; rfl

theorem liveWays_holds : Rows.LiveWaysSaid :=
  OpenClaim.holds_of_wide 3 Tryd.f3 rfl rfl rfl rfl rfl rfl rfl ⟨rfl, rfl, rfl, rfl, rfl⟩ rfl rfl rfl rfl rfl (by kernel_rfl) Tryd.func3 (by kernel_rfl)
    (of_decide_eq_true (by kernel_rfl)) (by unfold Func.isWrapper; first | (rw [if_pos (by decide +kernel)]; kernel_rfl) | (rw [if_neg (by decide +kernel)]; exact ⟨rfl, rfl⟩))
    (fun os started H enc _ => liveWays_lifted os started H enc)

theorem liveWays_card : Rows.LiveWaysCardSaid :=
  Claim7.holds_tied_plain_at .later [] [.sentinel] true (true, "3d00f8af9d17db920a7537b5b09d82b900b8f3594a46bf0de6aba08e492247a1") true
    liveWays_holds (fun _ h => by cases h) (by kernel_rfl) (fun _ h => by cases h) liveWays_row_tie rfl ⟨rfl, rfl⟩ (by kernel_rfl) rfl
    (fun f fn hf hfn => by
      obtain rfl : f = 3 := Option.some.inj ((show Tryd.prog.funcNamed "augur/augurlaw16.LiveWays" = some 3 by kernel_rfl).symm.trans hf) |>.symm
      obtain rfl : fn = Tryd.f3 := (Option.some.inj (Tryd.func3.symm.trans hfn)).symm
      exact ⟨by kernel_rfl, fun j t ht => by
        rw [Tryd.params3] at ht
        have hm : t ∈ [29] := by simpa using Array.mem_of_getElem? ht
        have hall : ([29].all fun u => !Tryd.prog.wantsStandIn u) = true := by kernel_rfl
        exact (show Tryd.prog.wantsStandIn t = false by simpa using List.all_eq_true.1 hall t hm)⟩)
    (by kernel_rfl)
#print axioms liveWays_card
end Go.Proofs.YtilmlmncoghpfaaDoor
