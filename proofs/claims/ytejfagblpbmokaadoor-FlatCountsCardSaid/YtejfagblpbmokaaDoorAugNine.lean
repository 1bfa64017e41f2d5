/- The abstract layer: abstract values and heaps, what code does to them, the conditions of its operations as equations; no conditions of its own. -/
import Derived.Test.YtejfagblpbmokaaDoorAugEight
set_option linter.all false
set_option linter.unusedVariables false
set_option linter.unusedSimpArgs false
set_option linter.unusedSectionVars false

/-
  The abstract layer: steps of what is known of the heap alone: rows are frozen; cells of a row that hold a frozen row's value are read as the row.
-/
namespace Go.Aug
section
variable {V : Env} {H H2 H3 : Heap}
end
end Go.Aug

/-
  The abstract layer: a contract holds whatever the builds keep raw; arguments may be read anew.
-/
namespace Go.Aug
section
variable {V : Env} {f : TypeId → Bool} {w : World} {Z : Nat → Prop}
end
end Go.Aug

/-
  The abstract layer: at a loop's head the heap may be seen anew; rows of one's own that lie in a row's cells are frozen, and the row is deep.
-/
namespace Go.Aug
section
variable {P : Program} {V : Env} {N : Nat} {F : Nat → A} {H H2 : Heap}
end
end Go.Aug

/-
  The abstract layer: a variable that nobody sets any more; what a closure holds stands for ever.
-/
namespace Go.Aug
section
variable {P : Program} {V : Env} {H : Heap} {w : World} {Z : Nat → Prop}
theorem del_ne (H : Heap) {b k : Nat} (h : k ≠ b) : del H b k = H k := by simp [del, h]
theorem del_same (H : Heap) (b : Nat) : del H b b = none := by simp [del]
/-- A variable of deep cells is set no more. -/
theorem Mem.still {b : Nat} {ds : List D} (m : Mem V Z H w) (h : H b = some (.var (ds.map .d))) :
    Mem V (fun k => Z k ∧ k ≠ b) (del H b) w ∧ Ext Z H w (fun k => Z k ∧ k ≠ b) (del H b) w ∧ RepA V w (fun k => Z k ∧ k ≠ b) (.pointer (some ⟨b, 0, none⟩)) (.imm ds) := by
  have hb := m.heap b _ h
  have k : Keeps Z w (fun k => Z k ∧ k ≠ b) w := ⟨Nat.le_refl _, fun _ _ _ => rfl, fun _ _ hz hz' => hz hz'.1⟩
  refine ⟨⟨?_, fun k hk => m.zlt k hk.1, m.env.keep k, ?_⟩, ?_, ?_⟩
  · intro k' o ho
    by_cases e : k' = b
    · subst e; rw [del_same] at ho; cases ho
    · rw [del_ne _ e] at ho
      exact (m.heap k' o ho).keep k fun hw => ⟨⟨m.own k' ⟨o, ho, hw⟩, e⟩, rfl⟩
  · intro k' o ho
    by_cases e : k' = b
    · subst e; rw [del_same] at ho; cases ho
    · rw [del_ne _ e] at ho; exact m.lt _ _ ho
  · refine ⟨rfl, rfl, rfl, Nat.le_refl _, fun _ _ _ => rfl, fun k hk => .inl hk.1, fun k hk ho => ⟨hk, ?_⟩, ?_⟩
    · rintro rfl; exact ho ⟨_, h, rfl⟩
    · rintro k ⟨o, ho, hw⟩
      by_cases e : k = b
      · subst e; rw [del_same] at ho; cases ho
      · rw [del_ne _ e] at ho; exact .inl ⟨o, ho, hw⟩
  · obtain ⟨hz, cv, T, hh, hl, h1, hr⟩ := hb
    rw [List.length_map] at hl
    refine .imm b 0 ds (fun j => cv.getD j undef) (fun x => x.2 rfl) (m.lt b _ h) (fun j hj => ?_) (fun j hj => ?_) fun j hj => ?_
    · rw [← hl] at hj
      simp [World.cell?, hh, List.getD, List.getElem?_eq_getElem hj]
    · rw [← hl] at hj
      simp only [List.getD, List.getElem?_eq_getElem hj, Option.getD_some]
      exact h1 _ (List.getElem_mem hj)
    · have hj' : j < cv.length := by rw [hl]; exact hj
      simp only [List.getD, List.getElem?_eq_getElem hj', Option.getD_some]
      have r := hr j hj' (by simpa using hj)
      rw [List.getElem_map] at r
      generalize cv[j] = u at r
      cases r with
      | d _ _ r => exact r.keep k
/-- What a closure of one variable holds is set no more. -/
theorem retW_still {b : Nat} {g : FuncId} {ds : List D} {K : A → Heap → Prop} (h : H b = some (.var (ds.map .d))) (k : retW V (.func g [.imm ds]) (del H b) K) : retW V (.func g [.ref b 0]) H K := fun Z w v r m => by
  cases r with
  | func _ cv _ hl hr =>
    match cv, hl, hr with
    | [u], _, hr =>
      have r0 := hr 0 (by simp) (by simp)
      simp only [List.getElem_cons_zero] at r0
      cases r0
      obtain ⟨m1, x1, ri⟩ := m.still h
      obtain ⟨y, Z', H', r', m', x', k'⟩ := k _ w _ (.func g [.pointer (some ⟨b, 0, none⟩)] [.imm ds] rfl fun j hj hj' => by
        match j, hj with
        | 0, _ => exact ri) m1
      exact ⟨y, Z', H', r', m', x1.trans m.zlt x', k'⟩
end
end Go.Aug
