/- The abstract layer: abstract values and heaps, what code does to them, the conditions of its operations as equations; no conditions of its own. -/
import Derived.Test.YtejfagblpbmokaaDoorAugTen
set_option linter.all false
set_option linter.unusedVariables false
set_option linter.unusedSimpArgs false
set_option linter.unusedSectionVars false

/-
  The abstract layer: at a loop's head the heap may be seen anew; rows of one's own that lie in a row's cells are frozen, and the row is deep.
-/
namespace Go.Aug
section
variable {P : Program} {V : Env} {N : Nat} {F : Nat → A} {H H2 : Heap}
theorem turn.step {K : (Nat → A) → Heap → Prop} (h : HStep V H H2) (k : turn V N F H2 K) : turn V N F H K := fun ds Z a w st =>
  let ⟨Z1, m1, x1⟩ := h Z w st.mem
  have st1 : St V N ds Z1 F H2 a w := ⟨st.defers, st.size, fun i hi => (st.slots i hi).keep (st.mem.keeps x1), m1⟩
  let ⟨Z2, F2, H3, st2, x2, k2⟩ := k ds Z1 a w st1
  ⟨Z2, F2, H3, st2, x1.trans st.mem.zlt x2, k2⟩
theorem svc_step {c : SCode} {Q : Post} (h : HStep V H H2) (k : svc P V N (.loop c) Q F H2) : svc P V N (.loop c) Q F H := turn.step h k
end
theorem okK_upd {ks : List Nat} {R : Heap} {b : Nat} {o : AObj} : ∀ {l : List (Nat × AObj)}, okK ks R l → inK b l = false → okK ks (upd R b o) l
  | [], _, _ => trivial
  | (k, _) :: l, h, hb => by
    simp only [inK, cnd] at hb
    split at hb
    · cases hb
    · rename_i e
      refine ⟨h.1.imp id fun h1 => ?_, okK_upd h.2 hb⟩
      rw [upd_ne _ _ (fun e' => e (by rw [e']; exact eqn_self))]; exact h1
theorem AccN.freeze {V : Env} {H : Heap} {ks : List Nat} {ps : List Pc} {l : List (Nat × AObj)} : ∀ {qs : List Pc} {R : Heap}, AccN H ks (ps ++ qs) R → okK ks R l →
    ∃ R2, HStep V (hp R l) (hp R2 l) ∧ AccN H ks ps R2 ∧ okK ks R2 l ∧ (∀ q ∈ qs, ∀ b v, q.a = .own b v → R2 b = some (.frz v q.xs)) ∧ ∀ b, (∀ q ∈ qs, blk q.a ≠ some b) → R2 b = R b
  | [], R, h, hl => ⟨R, .refl, by simpa using h, hl, fun _ h => (by cases h), fun _ _ => rfl⟩
  | q :: qs, R, h, hl => by
    rcases h.mid with ⟨e1, e2⟩ | ⟨b, v, e, h1, h2, h3, h4⟩
    · obtain ⟨R2, s1, s2, s3, s4, s5⟩ := AccN.freeze (V := V) (qs := qs) h.without hl
      refine ⟨R2, s1, s2, s3, fun q' hq b v e => ?_, fun b hb => s5 b fun q' hq => hb q' (.tail _ hq)⟩
      rcases List.mem_cons.1 hq with rfl | hq
      · rw [e2] at e; cases e
      · exact s4 q' hq b v e
    · have hout := h.out hl e
      have hs : HStep V (hp R l) (hp (upd R b (.frz v q.xs)) l) := by
        rw [← upd_hp_out hout]
        exact HStep.freeze (by rw [hp_not hout]; exact h4) h3
      have hf := (h.frozen e).2.2.weak (H := H) (fun k o hk => by rw [upd_ne _ _ (fun e' => by rw [e', h2] at hk; cases hk)]; exact hk)
      obtain ⟨R2, s1, s2, s3, s4, s5⟩ := AccN.freeze (V := V) (qs := qs) hf (okK_upd hl hout)
      refine ⟨R2, hs.trans s1, s2, s3, fun q' hq c u e' => ?_, fun c hc => ?_⟩
      · rcases List.mem_cons.1 hq with rfl | hq
        · rw [e] at e'; cases e'
          rw [s5 b fun q2 hq2 e3 => h.pair (List.mem_append.2 (.inr hq2)) b e3 (by rw [e]; rfl)]
          simp [upd]
        · exact s4 q' hq c u e'
      · rw [s5 c fun q' hq => hc q' (.tail _ hq), upd_ne _ _ (fun e' => hc q (.head _) (by rw [e, e']; rfl))]
end Go.Aug
