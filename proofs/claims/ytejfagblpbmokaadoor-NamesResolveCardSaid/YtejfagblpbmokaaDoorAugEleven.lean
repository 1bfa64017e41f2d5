/- The abstract layer: abstract values and heaps, what code does to them, the conditions of its operations as equations; no conditions of its own. -/
import Derived.Test.YtejfagblpbmokaaDoorAugFive
import Derived.ChangeArms
import Derived.DataReads
import GoSem.ClaimChange
import Derived.Lib.LaidTab
import Derived.Stop.LaidErr
import Derived.ChangeSame
import Derived.ChangeVars
import Derived.JoinedOf
import Derived.RowKit
import Derived.Carry
import Derived.OpenShut
set_option linter.all false
set_option linter.unusedVariables false
set_option linter.unusedSimpArgs false
set_option linter.unusedSectionVars false

/-
  The abstract layer, part W: what is read as data is a deep value of its type's shape.
-/
namespace Go.Aug
section
variable {V : Env} {w : World} {Z : Nat → Prop} {P : Program}
variable {H : Type} {enc : TypeId × Value → H}
end
end Go.Aug

/-
  The abstract layer: what is read as data is a deep value of its type's shape, and no larger than the reading (a measure of the reading that counts each value and each letter).
-/
namespace Go.Aug
section
variable {V : Env} {w : World} {Z : Nat → Prop} {P : Program}
variable {H : Type} {enc : TypeId × Value → H} {f : DataW H → Nat}
end
end Go.Aug

/-
  The abstract layer: what a row's list of package variables (errors made by errors.New) gives the environment.
-/
namespace Go.Aug
open Go.ChangeShapes Go.RowKit
/-- A listed error. -/
def SentRow (P : Program) (ti : TypeId) (g : Nat) (x : String × DataW Unit) : Prop :=
  P.globalNamed x.1 = some g ∧ (P.globals[g]?).map (·.type) = some ti ∧ ∃ s, x.2 = .iface "*errors.errorString" (.ptr (.agg [.lit (.string s)]))
theorem laid_sents {P : Program} {W : World} {ti tp te ts : TypeId} {ms : Array (String × TypeId)} {f : Field}
    (hi : P.underlying ti = some (.interface ms)) (hrow : ∀ u, P.typeName? 3 u = some "*errors.errorString" → u = tp)
    (hp : P.underlying tp = some (.pointer te)) (he : P.underlying te = some (.struct #[f])) (hft : f.type = ts) (hfo : f.offset = 0) (hs : P.underlying ts = some .string) (hc : P.cellsOf te = 1) (hcs : P.cellsOf ts = 1) :
    ∀ (L : List (String × DataW Unit)) (ps : List MemPlace), DataW.LaidVars P W L ps → ps.Nodup →
      (∀ b off, MemPlace.cell b off ∈ ps → (∃ c t, W.heap[b]? = some (.cells c t (0, 0))) ∧ ∀ u v, W.cell? ⟨b, off, none⟩ = some (.iface u v) → Value.okWide P W .any 0 u v) →
      ∃ eb : Nat → Addr, (∀ x ∈ L, ∀ g, SentRow P ti g x → W.cell? ⟨g, 0, none⟩ = some (.iface tp (.pointer (some (eb g)))) ∧ (∃ c t, W.heap[(eb g).block]? = some (.cells c t (0, 0))) ∧ .cell g 0 ∈ ps ∧ .cell (eb g).block (eb g).off ∈ ps) ∧
        (∀ x ∈ L, ∀ y ∈ L, ∀ g g', SentRow P ti g x → SentRow P ti g' y → eb g = eb g' → g = g')
  | [], ps, _, _, _ => ⟨fun _ => ⟨0, 0, none⟩, ⟨fun x hx => (List.not_mem_nil hx).elim, fun x hx => (List.not_mem_nil hx).elim⟩⟩
  | (n, d) :: L, ps, hv, hnd, hrows => by
    obtain ⟨g0, t0, cs0, f0, p0, q0, hg0, ht0, hv0, hd0, hq, rfl⟩ := hv
    have hnd' := hnd
    rw [List.nodup_append] at hnd
    obtain ⟨hnd1, hnd2, hdis⟩ := hnd
    obtain ⟨eb, h1, h2⟩ := laid_sents hi hrow hp he hft hfo hs hc hcs L q0 hq hnd2 (fun b off hm => hrows b off (List.mem_append_right _ hm))
    by_cases hS : ∃ g, SentRow P ti g (n, d)
    · obtain ⟨g, hg, ht, s, hd⟩ := hS
      obtain rfl := Option.some.inj (hg.symm.trans hg0)
      obtain rfl := Option.some.inj (ht.symm.trans ht0)
      simp only at hd
      subst hd
      obtain ⟨l0⟩ := cs0
      have ok0 : ∀ u v, l0 = [.iface u v] → Value.okWide P W .any 0 u v := fun u v e => by
        subst e
        exact (hrows g 0 (by simp [MemPlace.row])).2 u v (by simpa using World.var?_cell hg0 hv0 0)
      obtain ⟨a0, s0, rfl, hc0, hs0, hz0, rfl⟩ := errorString_of_trod hi hrow hp he hft hfo hs hc hcs hd0 ok0
      have m1 : MemPlace.cell g 0 ∈ MemPlace.row ⟨g, 0, none⟩ (Array.mk [Value.iface tp (.pointer (some a0))]).size ++ MemPlace.row a0 1 := by simp [MemPlace.row]
      have m2 : MemPlace.cell a0.block a0.off ∈ MemPlace.row ⟨g, 0, none⟩ (Array.mk [Value.iface tp (.pointer (some a0))]).size ++ MemPlace.row a0 1 := by simp [MemPlace.row]
      refine ⟨fun k => if k = g then a0 else eb k, ?_, ?_⟩
      · intro x hx k hk
        rcases List.mem_cons.1 hx with rfl | hx
        · obtain rfl := Option.some.inj (hk.1.symm.trans hg0)
          simp only [if_true]
          exact ⟨by simpa using World.var?_cell hg0 hv0 0, (hrows _ _ (List.mem_append_left _ m2)).1, List.mem_append_left _ m1, List.mem_append_left _ m2⟩
        · obtain ⟨q1, q2, q3, q4⟩ := h1 x hx k hk
          have hne : k ≠ g := fun e => by subst e; exact hdis _ m1 _ q3 rfl
          simp only [if_neg hne]
          exact ⟨q1, q2, List.mem_append_right _ q3, List.mem_append_right _ q4⟩
      · intro x hx y hy k k' hk hk' e
        simp only at e
        rcases List.mem_cons.1 hx with rfl | hx <;> rcases List.mem_cons.1 hy with rfl | hy
        · exact Option.some.inj (hk.1.symm.trans hk'.1)
        · obtain rfl := Option.some.inj (hk.1.symm.trans hg0)
          obtain ⟨q1, q2, q3, q4⟩ := h1 y hy k' hk'
          by_cases hne : k' = k
          · exact hne.symm
          · rw [if_pos rfl, if_neg hne] at e
            rw [← e] at q4
            exact absurd rfl (hdis _ m2 _ q4)
        · obtain rfl := Option.some.inj (hk'.1.symm.trans hg0)
          obtain ⟨q1, q2, q3, q4⟩ := h1 x hx k hk
          by_cases hne : k = k'
          · exact hne
          · rw [if_pos rfl, if_neg hne] at e
            rw [e] at q4
            exact absurd rfl (hdis _ m2 _ q4)
        · have n1 : k ≠ g := fun e => by subst e; exact hdis _ m1 _ (h1 x hx _ hk).2.2.1 rfl
          have n2 : k' ≠ g := fun e => by subst e; exact hdis _ m1 _ (h1 y hy _ hk').2.2.1 rfl
          rw [if_neg n1, if_neg n2] at e
          exact h2 x hx y hy k k' hk hk' e
    · refine ⟨eb, ?_, ?_⟩
      · intro x hx k hk
        rcases List.mem_cons.1 hx with rfl | hx
        · exact absurd ⟨k, hk⟩ hS
        · obtain ⟨q1, q2, q3, q4⟩ := h1 x hx k hk
          exact ⟨q1, q2, List.mem_append_right _ q3, List.mem_append_right _ q4⟩
      · intro x hx y hy k k' hk hk' e
        rcases List.mem_cons.1 hx with rfl | hx
        · exact absurd ⟨k, hk⟩ hS
        · rcases List.mem_cons.1 hy with rfl | hy
          · exact absurd ⟨k', hk'⟩ hS
          · exact h2 x hx y hy k k' hk hk' e
/-- The environment that a row's list gives: its errors, and the blocks of its tables as they are. -/
theorem laid_env {P : Program} {W : World} {ti tp te ts TE : TypeId} {ms : Array (String × TypeId)} {f : Field}
    (hi : P.underlying ti = some (.interface ms)) (hrow : ∀ u, P.typeName? 3 u = some "*errors.errorString" → u = tp)
    (hp : P.underlying tp = some (.pointer te)) (he : P.underlying te = some (.struct #[f])) (hft : f.type = ts) (hfo : f.offset = 0) (hs : P.underlying ts = some .string) (hc : P.cellsOf te = 1) (hcs : P.cellsOf ts = 1)
    {L : List (String × DataW Unit)} (h : laidMet P L W) (G : Nat → Option D)
    (hG : ∀ g x, G g = some x → x = .sent g ∧ ∃ y ∈ L, SentRow P ti g y) :
    ∃ eb : Nat → Addr, ∀ (B : Nat → Bool) (nz : TypeId → Bool), EnvOK ⟨tp, TE, eb, G, fun b => if B b then W.heap[b]? else none, nz⟩ W (fun _ => False) := by
  obtain ⟨ps, hv, hnd, hrows⟩ := h
  obtain ⟨eb, h1, h2⟩ := laid_sents hi hrow hp he hft hfo hs hc hcs L ps hv hnd hrows
  refine ⟨eb, fun B nz => ⟨?_, ?_, ?_, ?_⟩⟩
  · intro g x hg
    obtain ⟨rfl, y, hy, hs⟩ := hG g x hg
    obtain ⟨q1, _, _, _⟩ := h1 y hy g hs
    exact ⟨id, World.block_lt_of_cell? W _ q1, _, q1, rfl, .sent (V := ⟨tp, TE, eb, G, fun b => if B b then W.heap[b]? else none, nz⟩) g⟩
  · intro g hg
    obtain ⟨_, y, hy, hs⟩ := hG g _ hg
    obtain ⟨_, ⟨c, t, hb⟩, _, _⟩ := h1 y hy g hs
    exact ⟨id, (Array.getElem?_eq_some_iff.1 hb).1, c, t, hb⟩
  · intro g g' hg hg' e
    obtain ⟨_, y, hy, hs⟩ := hG g _ hg
    obtain ⟨_, y', hy', hs'⟩ := hG g' _ hg'
    exact h2 y hy y' hy' g g' hs hs' e
  · intro b o hb
    simp only at hb
    split at hb
    · exact ⟨id, (Array.getElem?_eq_some_iff.1 hb).1, hb⟩
    · cases hb
end Go.Aug

/-
  The abstract layer: the bridge from a row's condition to a contract, for every program.
-/
namespace Go.Aug
open Go.ChangeShapes Go.WideShapes Go.RowKit
section
variable {P : Program} {n : Nat} {t e : TypeId} {ds : List D}
end
theorem below_of {Z' : Nat → Prop} {H' : Heap} {W W' : World} (x : Ext (fun _ => False) (fun _ => none) W Z' H' W') : Below W.heap.size W W' :=
  ⟨x.os, x.tape, x.output, x.size, fun k hk => x.block k hk (fun ⟨_, h, _⟩ => by cases h)⟩
theorem law_calls {P : Program} {f : FuncId} {x : D} {V : Env} {W : World} {v0 : Value} (ok : ACall P V f [.d x] (fun _ => none) (fun r _ => r = .d (.bool true))) (hr : RepA V W (fun _ => False) v0 (.d x)) (he : EnvOK V W (fun _ => False)) :
    Calls P f #[v0] W fun e W' => e = .returned (.bool true) ∧ Below W.heap.size W W' := by
  have := ok (fun _ => False) W [v0] rfl (fun j h h' => by
    have : j = 0 := by simp at h; omega
    subst this; exact hr) ⟨(fun b o h => by cases h), (fun b h => h.elim), he, (fun b o h => by cases h)⟩
  refine this.mono ?_
  rintro e W' ⟨v, r, Z', H', rfl, hv, _, hx, rfl⟩
  refine ⟨?_, below_of hx⟩
  cases hv with
  | d _ _ h => cases h; rfl
end Go.Aug
