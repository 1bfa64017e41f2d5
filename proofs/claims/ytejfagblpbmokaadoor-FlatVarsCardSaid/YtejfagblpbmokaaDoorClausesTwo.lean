/- The contracts of the reference's clauses; conditions stand in each contract. -/
import Derived.Test.YtejfagblpbmokaaDoorSameOne
set_option linter.all false
set_option linter.unusedVariables false
set_option linter.unusedSimpArgs false
set_option linter.unusedSectionVars false

/- The law FlatBodies: the walk. -/
namespace Go.Aug
open Go.Proofs
set_option maxRecDepth 100000
set_option linter.unusedSimpArgs false
attribute [local irreducible] hid andK letA onSome onVar onArr arrOnly onInt onBool onTup idxA ldV ldD addO appTo fillL slA srcK nilQ retW gif sgd sguard svc sops sdops sagain aopO aLoad aStore aBin aUn aConv aLen aIndexAddr aIndex aIndexAddrS aIndexS aSlice aAppend aBuild aBuildSlice aMakeSlice aField aFieldOf aCallOp deepK deepL frzM putE newK newV growV ACall roundQ thenQ inBlockQ sret cnd szs nilC onMap onRow aLookup aMapUpdate aMakeMap
attribute [local go_sem] Int.natCast_zero
theorem nflat_cases (l : List It) (x : Ix) (q : Ky) : ((nflat l x q).1 = 0 ∧ (nflat l x q).2.key = q) ∨ nflat l x q = (1, fp0) ∨ nflat l x q = (2, fp0) := by
 unfold nflat
 split
 ·exact .inr (.inl rfl)
 ·split
  ·exact .inr (.inl rfl)
  ·split
   ·exact .inr (.inr rfl)
   ·exact .inl ⟨rfl, rfl⟩
theorem fl0_fit : fl0.fit := ⟨Nat.zero_le _, Nat.zero_le _, trivial⟩
theorem nflat_fit {l : List It} (hl : Txt l) {x : Ix} (hp : ∀ p ∈ x.preds, PrAt l p) (q : Ky) : (nflat l x q).2.body.fit := by
 rcases nflat_cases l x q with ⟨h, _⟩ | h | h
 ·exact (nflat_in hl hp h).2.2.2.fit
 ·rw [h]; exact fl0_fit
 ·rw [h]; exact fl0_fit
theorem flat_hyps {l : List It} (hl : Txt l) {x : Ix} (hp : ∀ p ∈ x.preds, PrAt l p) (q : Ky) :
  (∀ p, pfind x.preds q = some p → 0 ≤ q.ar ∧ q.ar ≤ 1048576) ∧ (∀ p, pfind x.preds q = some p → p.clauses.length ≤ 1048576 ∧ (∀ c ∈ p.clauses, 0 ≤ c ∧ c < l.length) ∧ sumNodes (atIts l p.clauses) ≤ 549755813888) := by
 have hlen := hl.few
 refine ⟨fun p hpf => ?_, fun p hpf => ?_⟩
 ·have hok := (hp p (pfind_mem hpf).1).ar
  rw [(pfind_mem hpf).2] at hok; omega
 ·have hok := hp p (pfind_mem hpf).1
  exact ⟨by have := hok.few; omega, hok.range, sum_few hlen hl.nodes hok.few⟩
theorem flatten_any {eb : EbG} [ho1 : On eb 1] [ho2 : On eb 2] {l : List It} (hl : Txt l) {x : Ix} (hx : x.preds.length ≤ 519) (hp : ∀ p ∈ x.preds, PrAt l p) (q : Ky) (H : Heap) (K : A → Heap → Prop)
  (hK : K (.tup [.d (nflat l x q).2.d, .d (errD (nflat l x q).1)]) H) :
  ACall Tryd.prog (seatV eb) 15 [.d (.slice (l.map It.d)), .d x.d, .d q.d] H K :=
 flatten_ok l ⟨by have := hl.few; omega, hl.small⟩ x (by omega) q (flat_hyps hl hp q).1 (flat_hyps hl hp q).2 H K hK
theorem flatten05_any {eb : EbG} {l : List It} (hl : Txt l) {x : Ix} (hx : x.preds.length ≤ 519) (hp : ∀ p ∈ x.preds, PrAt l p) (q : Ky) (H : Heap) (K : A → Heap → Prop)
  (hK : K (.tup [.d (nflat l x q).2.d, .d (.int .i64 (errN (nflat l x q).1))]) H) :
  ACall Tryd.prog (seatV eb) 29 [.d (.slice (l.map It.d)), .d x.d, .d q.d] H K :=
 flatten05_ok l ⟨by have := hl.few; omega, hl.small⟩ x (by omega) q (flat_hyps hl hp q).1 (flat_hyps hl hp q).2 H K hK
end Go.Aug
