/- The abstract layer: abstract values and heaps, what code does to them, the conditions of its operations as equations; no conditions of its own. -/
import Derived.Test.YtejfagblpbmokaaDoorAugSeven
set_option linter.all false
set_option linter.unusedVariables false
set_option linter.unusedSimpArgs false
set_option linter.unusedSectionVars false

/-
  The abstract layer: a call that takes some of the rows that grow, and hands them back grown.
-/
namespace Go.Aug
theorem hp_in_any {R R' : Heap} {k : Nat} : ∀ {l : List (Nat × AObj)}, inK k l = true → hp R l k = hp R' l k
  | [], h => by cases h
  | (b, o) :: l, h => by
    rw [hp_at, hp_at]
    simp only [inK, cnd] at h ⊢
    split at h
    · rename_i e; rw [if_pos e, if_pos e]
    · rename_i e; rw [if_neg e, if_neg e]; exact hp_in_any h
theorem hp_in_is {R : Heap} {k : Nat} : ∀ {l : List (Nat × AObj)}, inK k l = true → ∃ o, hp R l k = some o
  | [], h => by cases h
  | (b, o) :: l, h => by
    rw [hp_at]
    simp only [inK, cnd] at h ⊢
    split at h
    · rename_i e; rw [if_pos e]; exact ⟨o, rfl⟩
    · rename_i e; rw [if_neg e]; exact hp_in_is h
open Classical in
/-- The heap without the blocks of some rows. -/
noncomputable def sans (qs : List Pc) (R : Heap) : Heap := fun b => if ∃ q ∈ qs, blk q.a = some b then none else R b
theorem accN_sub {Hc R : Heap} {ks : List Nat} {qs ps : List Pc} {l : List (Nat × AObj)} {r : Nat} {o : AObj} (h : AccN Hc ks (qs ++ ps) R) (hl : okK ks R ((r, o) :: l)) (hks : preK ks ((r, o) :: l)) (hr : inK r l = false) :
    ∃ H0 R2, hp R ((r, o) :: l) = hp R2 [(r, o)] ∧ AccN H0 [r] qs R2 ∧
      ∀ qs' R2', AccN H0 [r] qs' R2' → ∃ R', AccN Hc ks (qs' ++ ps) R' ∧ (∀ o', hp R2' [(r, o')] = hp R' ((r, o') :: l)) ∧ (∀ b, inK b ((r, o) :: l) = true → R b = none → R' b = none) := by
  have hcons : ∀ b, inK b l = false → b ≠ r → inK b ((r, o) :: l) = false := fun b h1 h2 => by
    simp only [inK, cnd, eqn_ne h2, h1]; rfl
  have hcons' : ∀ b, ¬ inK b ((r, o) :: l) = true → inK b l = false ∧ b ≠ r := fun b hb => by
    simp only [inK, cnd] at hb
    split at hb
    · exact absurd rfl hb
    · rename_i e
      exact ⟨by simpa using hb, fun e' => e (by rw [e']; exact eqn_self)⟩
  have out : ∀ q ∈ qs ++ ps, ∀ b, blk q.a = some b → inK b ((r, o) :: l) = false ∧ Hc b = none ∧ ∃ x, R b = some x := fun q hq b hb => by
    obtain ⟨pre, post, e⟩ := List.append_of_mem hq
    rw [e] at h
    rcases h.mid with ⟨_, e1⟩ | ⟨b', v, e1, e2, e3, e4, e5⟩
    · rw [e1] at hb; cases hb
    · rw [e1] at hb; cases hb
      exact ⟨h.out hl e1, e3, _, e5⟩
  have hne : ∀ q ∈ qs ++ ps, ∀ b, blk q.a = some b → inK b l = false ∧ b ≠ r := fun q hq b hb => by
    have := (out q hq b hb).1
    simp only [inK, cnd] at this
    split at this
    · cases this
    · rename_i e
      exact ⟨this, fun e' => e (by rw [e']; exact eqn_self)⟩
  have hap := h.ap
  rw [List.pairwise_append] at hap
  have hR2 : ∀ b, inK b l = false → hp R l b = R b := fun b hb => hp_not hb
  have sq : ∀ q ∈ qs, ∀ b, blk q.a = some b → sans qs (hp R l) b = none := fun q hq b hb => by simp only [sans]; rw [if_pos ⟨q, hq, hb⟩]
  have sn : ∀ b, (∀ q ∈ qs, blk q.a ≠ some b) → sans qs (hp R l) b = hp R l b := fun b hb => by simp only [sans]; rw [if_neg fun ⟨q, hq, e⟩ => hb q hq e]
  -- what the caller keeps
  have keepH : ∀ b x, Hc b = some x → R b = some x ∧ ∀ q ∈ qs, blk q.a ≠ some b := fun b x hb => ⟨h.le b x hb, fun q hq e => by
    have := (out q (List.mem_append.2 (.inl hq)) b e).2.1; rw [hb] at this; cases this⟩
  refine ⟨sans qs (hp R l), hp R l, ?_, ?_, ?_⟩
  · rfl
  · refine ⟨fun b x hb => ?_, fun q hq => ?_, hap.1⟩
    · simp only [sans] at hb; split at hb
      · cases hb
      · exact hb
    · rcases h.at_ q (List.mem_append.2 (.inl hq)) with h1 | ⟨b, v, e1, e2, e3, e4, e5⟩
      · exact .inl h1
      · have hb : blk q.a = some b := by rw [e1]; rfl
        have hn := hne q (List.mem_append.2 (.inl hq)) b hb
        refine .inr ⟨b, v, e1, ?_, sq q hq b hb, e4, by rw [hR2 b hn.1]; exact e5⟩
        simp only [memK, cnd]
        split
        · rename_i e; exact absurd (eqn_true e) hn.2
        · rfl
  · intro qs' R2' h'
    have new : ∀ q ∈ qs', ∀ b, blk q.a = some b → inK b l = false ∧ b ≠ r ∧ Hc b = none ∧ sans qs (hp R l) b = none := fun q hq b hb => by
      rcases h'.at_ q hq with ⟨_, e1⟩ | ⟨b', v, e1, e2, e3, e4, e5⟩
      · rw [e1] at hb; cases hb
      · rw [e1] at hb; cases hb
        have hrr : b ≠ r := fun e => by rw [e] at e2; simp [memK, cnd, eqn_self] at e2
        have hi : inK b l = false := by
          cases hc : inK b l with
          | false => rfl
          | true =>
            obtain ⟨x, hx⟩ := hp_in_is (R := R) hc
            rw [sn b (fun q hq e => by have := (hne q (List.mem_append.2 (.inl hq)) b e).1; rw [hc] at this; cases this), hx] at e3
            cases e3
        refine ⟨hi, hrr, ?_, e3⟩
        cases hc : Hc b with
        | none => rfl
        | some x =>
          have hk := keepH b x hc
          rw [sn b hk.2, hR2 b hi, hk.1] at e3
          cases e3
    refine ⟨fun b => if inK b ((r, o) :: l) = true then R b else R2' b, ⟨fun b x hb => ?_, fun q hq => ?_, ?_⟩, fun o' => ?_, fun b hb hn => by simp only [if_pos hb]; exact hn⟩
    · have hk := keepH b x hb
      by_cases hi : inK b ((r, o) :: l) = true
      · simp only [if_pos hi]; exact hk.1
      · simp only [if_neg hi]
        exact h'.le b x (by rw [sn b hk.2, hR2 b (hcons' b hi).1]; exact hk.1)
    · rcases List.mem_append.1 hq with hq | hq
      · rcases h'.at_ q hq with h1 | ⟨b, v, e1, e2, e3, e4, e5⟩
        · exact .inl h1
        · have hn := new q hq b (by rw [e1]; rfl)
          refine .inr ⟨b, v, e1, ?_, hn.2.2.1, e4, by simp only [hcons b hn.1 hn.2.1]; exact e5⟩
          cases hc : memK b ks with
          | false => rfl
          | true =>
            have := preK_in hks hc
            simp only [inK, cnd] at this
            split at this
            · rename_i e; exact absurd (eqn_true e) hn.2.1
            · rw [hn.1] at this; cases this
      · have hq' := List.mem_append.2 (.inr hq : q ∈ qs ∨ q ∈ ps)
        rcases h.at_ q hq' with h1 | ⟨b, v, e1, e2, e3, e4, e5⟩
        · exact .inl h1
        · have hb : blk q.a = some b := by rw [e1]; rfl
          have hi := (hne q hq' b hb).1
          refine .inr ⟨b, v, e1, e2, e3, e4, ?_⟩
          simp only [hcons b hi (hne q hq' b hb).2]
          exact h'.le b _ (by rw [sn b (fun q' hq'' e => hap.2.2 q' hq'' q hq b e hb), hR2 b hi]; exact e5)
    · rw [List.pairwise_append]
      refine ⟨h'.ap, hap.2.1, fun a ha b hb c hc hcb => ?_⟩
      have hb' := List.mem_append.2 (.inr hb : b ∈ qs ∨ b ∈ ps)
      have hn := new a ha c hc
      obtain ⟨x, hx⟩ := (out b hb' c hcb).2.2
      rw [sn c (fun q' hq'' e => hap.2.2 q' hq'' b hb c e hcb), hR2 c hn.1, hx] at hn
      cases hn.2.2.2
    · funext k
      rw [hp_at, hp_at]
      simp only [hp_nil_at, cnd, hid]
      split
      · rfl
      · rename_i er
        have hkr : k ≠ r := fun e' => er (by rw [e']; exact eqn_self)
        by_cases hi : inK k l = true
        · obtain ⟨x, hx⟩ := hp_in_is (R := R) hi
          have := h'.le k x (by rw [sn k (fun q hq e => by have := (hne q (List.mem_append.2 (.inl hq)) k e).1; rw [hi] at this; cases this)]; exact hx)
          rw [this, ← hx]; exact hp_in_any hi
        · rw [hp_not (by simpa using hi)]; simp only [hcons k (by simpa using hi) hkr]; rfl
end Go.Aug
