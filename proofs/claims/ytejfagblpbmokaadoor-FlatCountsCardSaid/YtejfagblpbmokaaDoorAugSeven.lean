/- The abstract layer: abstract values and heaps, what code does to them, the conditions of its operations as equations; no conditions of its own. -/
import Derived.Test.YtejfagblpbmokaaDoorAugSix
set_option linter.all false
set_option linter.unusedVariables false
set_option linter.unusedSimpArgs false
set_option linter.unusedSectionVars false

/-
  The abstract layer: several rows that grow, side by side.
-/
namespace Go.Aug
/-- A row that grows: its elements' type and size, what it holds, its value. -/
structure Pc where
  E : TypeId
  sz : Nat
  xs : List D
  a : A
def Pc.at (H : Heap) (ks : List Nat) (R : Heap) (p : Pc) : Prop :=
  (p.xs = [] ∧ p.a = .nils) ∨ ∃ b v, p.a = .own b v ∧ memK b ks = false ∧ H b = none ∧ v.ownBlock = some b ∧ R b = some (.arr p.E p.sz v p.xs)
def blk : A → Option Nat
  | .own b _ => some b
  | _ => none
def apart (p q : Pc) : Prop := ∀ b, blk p.a = some b → blk q.a ≠ some b
/-- These rows, in R over H, none of them one of the keys. -/
structure AccN (H : Heap) (ks : List Nat) (ps : List Pc) (R : Heap) : Prop where
  le : LeH H R
  at_ : ∀ p ∈ ps, p.at H ks R
  ap : ps.Pairwise apart
section
variable {H R : Heap} {ks : List Nat} {ps pre post : List Pc} {p : Pc} {l : List (Nat × AObj)}
theorem apart.symm {p q : Pc} (h : apart p q) : apart q p := fun b hb hp => h b hp hb
theorem AccN.none (H : Heap) (ks : List Nat) : AccN H ks [] H := ⟨.refl _, fun _ h => (by cases h), .nil⟩
theorem AccN.nil (h : AccN H ks ps R) (E : TypeId) (sz : Nat) : AccN H ks (⟨E, sz, [], .nils⟩ :: ps) R :=
  ⟨h.le, fun p hp => by
    rcases List.mem_cons.1 hp with rfl | hp
    · exact .inl ⟨rfl, rfl⟩
    · exact h.at_ p hp, .cons (fun _ _ b hb => by cases hb) h.ap⟩
theorem AccN.mid (h : AccN H ks (pre ++ p :: post) R) : p.at H ks R := h.at_ p (by simp)
theorem AccN.allD (h : AccN H ks (pre ++ p :: post) R) {t : List A} : allD (p.a :: t) = Option.none := by
  rcases h.mid with ⟨_, e⟩ | ⟨b, v, e, _⟩ <;> rw [e] <;> rfl
theorem AccN.one (h : AccN H ks (pre ++ p :: post) R) : p.a.good = true ∧ p.a.cells = [p.a] := by
  rcases h.mid with ⟨_, e⟩ | ⟨b, v, e, _⟩ <;> rw [e] <;> exact ⟨rfl, rfl⟩
theorem AccN.out (h : AccN H ks (pre ++ p :: post) R) (hl : okK ks R l) {b : Nat} {v : Value} (ha : p.a = .own b v) : inK b l = false := by
  rcases h.mid with ⟨_, e⟩ | ⟨b', v', e, h1, h2, h3, h4⟩
  · rw [e] at ha; cases ha
  · rw [e] at ha; cases ha
    cases hb : inK b l with
    | false => rfl
    | true =>
      rcases okK_in hl hb with h5 | h5
      · rw [h1] at h5; cases h5
      · rw [h4] at h5; cases h5
theorem AccN.pair (h : AccN H ks (pre ++ p :: post) R) {q : Pc} (hq : q ∈ pre ++ post) : apart q p := by
  have := h.ap
  rw [List.pairwise_append] at this
  rcases List.mem_append.1 hq with hq | hq
  · exact this.2.2 q hq p (.head _)
  · exact ((List.pairwise_cons.1 this.2.1).1 q hq).symm
theorem AccN.without (h : AccN H ks (pre ++ p :: post) R) : AccN H ks (pre ++ post) R := by
  refine ⟨h.le, fun q hq => h.at_ q ?_, ?_⟩
  · rcases List.mem_append.1 hq with hq | hq
    · exact List.mem_append.2 (.inl hq)
    · exact List.mem_append.2 (.inr (.tail _ hq))
  · have := h.ap
    rw [List.pairwise_append] at this ⊢
    exact ⟨this.1, (List.pairwise_cons.1 this.2.1).2, fun a ha b hb => this.2.2 a ha b (.tail _ hb)⟩
/-- One row stands in place of another. -/
theorem AccN.with (h : AccN H ks (pre ++ p :: post) R) {p' : Pc} {R' : Heap} (hle : LeH H R') (hp : p'.at H ks R') (hap : ∀ q ∈ pre ++ post, apart q p') (hk : ∀ q ∈ pre ++ post, ∀ b, blk q.a = some b → R' b = R b) : AccN H ks (pre ++ p' :: post) R' := by
  have hold : ∀ q ∈ pre ++ post, q.at H ks R' := fun q hq => by
    rcases h.without.at_ q hq with h1 | ⟨b, v, h1, h2, h3, h4, h5⟩
    · exact .inl h1
    · exact .inr ⟨b, v, h1, h2, h3, h4, by rw [hk q hq b (by rw [h1]; rfl)]; exact h5⟩
  refine ⟨hle, fun q hq => ?_, ?_⟩
  · rcases List.mem_append.1 hq with hq | hq
    · exact hold q (List.mem_append.2 (.inl hq))
    · rcases List.mem_cons.1 hq with rfl | hq
      · exact hp
      · exact hold q (List.mem_append.2 (.inr hq))
  · have := h.ap
    rw [List.pairwise_append] at this ⊢
    refine ⟨this.1, .cons (fun q hq => (hap q (List.mem_append.2 (.inr hq))).symm) (List.pairwise_cons.1 this.2.1).2, fun a ha b hb => ?_⟩
    rcases List.mem_cons.1 hb with rfl | hb
    · exact hap a (List.mem_append.2 (.inl ha))
    · exact this.2.2 a ha b (.tail _ hb)
theorem AccN.some_ne (h : AccN H ks (pre ++ p :: post) R) {q : Pc} (hq : q ∈ pre ++ post) {b : Nat} (hb : blk q.a = some b) : ∃ o, R b = some o := by
  rcases h.without.at_ q hq with ⟨_, e⟩ | ⟨b', v, e, _, _, _, h5⟩
  · rw [e] at hb; cases hb
  · rw [e] at hb; cases hb; exact ⟨_, h5⟩
theorem AccN.appTo {ns : List D} {by_ : Nat} {K : A → Heap → Prop} (h : AccN H ks (pre ++ p :: post) R) (hl : okK ks R l) (hks : preK ks l) (hsz : (p.xs.length + ns.length) * by_ ≤ 140737488355328)
    (hK : ∀ a' R', AccN H ks (pre ++ ⟨p.E, p.sz, p.xs ++ ns, a'⟩ :: post) R' → (∀ k, inK k l = true → R k = Option.none → R' k = Option.none) → K a' (hp R' l)) : appTo p.a ns p.E p.sz by_ (hp R l) K := by
  obtain ⟨E, sz, xs, a⟩ := p
  have hm : ∀ {b}, inK b l = false → memK b ks = false := fun {b} hb => by
    cases hc : memK b ks with
    | false => rfl
    | true => rw [preK_in hks hc] at hb; cases hb
  have hout := fun b v (e : a = .own b v) => h.out hl e
  have hmid := h.mid
  have hle := h.le
  simp only [Pc.at] at hmid
  rcases hmid with ⟨rfl, rfl⟩ | ⟨b, v, rfl, h1, h2, hv, hH⟩
  · refine appTo_nils' (by simpa using hsz) ?_ ?_
    · rintro rfl; exact hK _ _ h fun _ _ h => h
    · intro _ b v hb hv
      have ho := off_of hb
      rw [upd_hp_out (off_in ho)]
      refine hK _ _ (h.with (hle.up (off_base ho)) (.inr ⟨b, v, rfl, hm (off_in ho), hle.free (off_base ho), hv, by simp [upd]⟩) (fun q hq c hc hcb => ?_) (fun q hq c hc => ?_)) fun k hk hn => ?_
      · cases hcb
        obtain ⟨o, h5⟩ := h.some_ne hq hc
        rw [off_base ho] at h5; cases h5
      · rw [upd_ne]
        rintro rfl
        obtain ⟨o, h5⟩ := h.some_ne hq hc
        rw [off_base ho] at h5; cases h5
      · refine upd_eq_none.2 ⟨?_, hn⟩
        rintro rfl; rw [off_in ho] at hk; cases hk
  · have hb0 := hout b v rfl
    simp only [Go.Aug.appTo, hp_not hb0, hH, true_and]
    refine ⟨hsz, ?_⟩
    intro b' v' hb' hv'
    have hnew : b' = b ∨ (b' ≠ b ∧ R b' = Option.none) := by
      rcases hb' with rfl | hb'
      · exact .inl rfl
      · by_cases e : b' = b
        · exact .inl e
        · exact .inr ⟨e, off_base (off_of hb')⟩
    have hin : inK b' l = false ∧ H b' = Option.none := by
      rcases hb' with rfl | hb'
      · exact ⟨hb0, h2⟩
      · exact ⟨off_in (off_of hb'), hle.free (off_base (off_of hb'))⟩
    have hne : ∀ q ∈ pre ++ post, ∀ c, blk q.a = some c → c ≠ b ∧ c ≠ b' := fun q hq c hc => by
      have hcb : c ≠ b := fun e => h.pair hq c hc (by rw [e]; rfl)
      refine ⟨hcb, ?_⟩
      rcases hnew with rfl | ⟨_, hn⟩
      · exact hcb
      · rintro rfl
        obtain ⟨o, h5⟩ := h.some_ne hq hc
        rw [hn] at h5; cases h5
    rw [del_hp_out hb0, upd_hp_out hin.1]
    refine hK _ _ (h.with (leH_upd hin.2 (leH_del h2 hle)) (.inr ⟨b', v', rfl, hm hin.1, hin.2, hv', by simp [upd]⟩) (fun q hq c hc hcb => ?_) (fun q hq c hc => ?_)) fun k hk hn => ?_
    · cases hcb; exact (hne q hq _ hc).2 rfl
    · rw [upd_ne _ _ (hne q hq c hc).2]
      simp [del, (hne q hq c hc).1]
    · refine upd_eq_none.2 ⟨?_, del_eq_none.2 (.inr hn)⟩
      rintro rfl; rw [hin.1] at hk; cases hk
/-- A row is let go. -/
theorem AccN.deep {K : D → Heap → Prop} (h : AccN H ks (pre ++ p :: post) R) (hl : okK ks R l) (hK : ∀ R', AccN H ks (pre ++ post) R' → (∀ k, R k = Option.none → R' k = Option.none) → K (.slice p.xs) (hp R' l)) : deepK (hp R l) p.a K := by
  obtain ⟨E, sz, xs, a⟩ := p
  have hout := fun b v (e : a = .own b v) => h.out hl e
  have hmid := h.mid
  simp only [Pc.at] at hmid
  rcases hmid with ⟨rfl, rfl⟩ | ⟨b, v, rfl, h1, h2, hv, hH⟩
  · simp only [deepK_nils]; exact hK _ h.without fun _ h => h
  · simp only [deepK, hp_not (hout b v rfl), hH, true_and]
    rw [upd_hp_out (hout b v rfl)]
    have hw := h.without
    refine hK _ ⟨leH_upd h2 hw.le, fun q hq => ?_, hw.ap⟩ fun k hk => upd_eq_none.2 ⟨fun e => (by rw [e, hH] at hk; cases hk), hk⟩
    rcases hw.at_ q hq with h3 | ⟨c, v2, h3, h4, h5, h6, h7⟩
    · exact .inl h3
    · refine .inr ⟨c, v2, h3, h4, h5, h6, ?_⟩
      have : c ≠ b := fun e => h.pair hq c (by rw [h3]; rfl) (by rw [e]; rfl)
      rw [upd_ne _ _ this]; exact h7
/-- A new row. -/
theorem AccN.new {b : Nat} {v : Value} {E : TypeId} {sz : Nat} {xs : List D} (h : AccN H ks ps R) (h1 : memK b ks = false) (h2 : R b = Option.none) (h3 : v.ownBlock = some b) : AccN H ks (⟨E, sz, xs, .own b v⟩ :: ps) (upd R b (.arr E sz v xs)) := by
  have hs : ∀ q ∈ ps, ∀ c, blk q.a = some c → c ≠ b := fun q hq c hc => by
    rintro rfl
    rcases h.at_ q hq with ⟨_, e⟩ | ⟨b', v', e, _, _, _, h5⟩
    · rw [e] at hc; cases hc
    · rw [e] at hc; cases hc; rw [h2] at h5; cases h5
  refine ⟨h.le.up h2, fun q hq => ?_, .cons (fun q hq c hc hcq => ?_) h.ap⟩
  · rcases List.mem_cons.1 hq with rfl | hq
    · exact .inr ⟨b, v, rfl, h1, h.le.free h2, h3, upd_same ..⟩
    · rcases h.at_ q hq with h4 | ⟨c, w, e, h5, h6, h7, h8⟩
      · exact .inl h4
      · exact .inr ⟨c, w, e, h5, h6, h7, by rw [upd_ne _ _ (hs q hq c (by rw [e]; rfl))]; exact h8⟩
  · cases hc; exact hs q hq _ hcq rfl
end
theorem leH_hp02 {H R : Heap} {l : List (Nat × AObj)} (h0 : LeH H R) (h2 : offR H [] l) : LeH H (hp R l) := leH_hp2 (l1 := []) h0 trivial h2
/-- The heap with a row that a call has handed back. -/
def withA (H : Heap) (a : A) (E : TypeId) (sz : Nat) (xs : List D) : Heap := match a with
  | .own b v => upd H b (.arr E sz v xs)
  | _ => H
/-- A row that a call has handed back: nil, or one of its own. -/
def RowA (H : Heap) (ks : List Nat) (xs : List D) (a : A) : Prop :=
  (xs = [] ∧ a = .nils) ∨ ∃ b v, a = .own b v ∧ memK b ks = false ∧ H b = none ∧ v.ownBlock = some b
theorem inK_preK {b : Nat} : ∀ {ks : List Nat} {l : List (Nat × AObj)}, preK ks l → inK b l = false → memK b ks = false := fun {ks l} h hb => by
  cases hc : memK b ks with
  | false => rfl
  | true => rw [preK_in h hc] at hb; cases hb
/-- A row that was handed back is one of ours. -/
theorem AccN.take {H R : Heap} {ks ks' : List Nat} {ps : List Pc} {l : List (Nat × AObj)} {E : TypeId} {sz : Nat} {xs : List D} {a : A} (h : AccN H ks ps R) (hks : preK ks l) (hr : RowA (hp R l) ks' xs a) :
    AccN H ks (⟨E, sz, xs, a⟩ :: ps) (withA R a E sz xs) ∧ (∀ l' : List (Nat × AObj), (∀ b, inK b l = false → inK b l' = false) → withA (hp R l') a E sz xs = hp (withA R a E sz xs) l') ∧ ∀ k, inK k l = true → R k = Option.none → withA R a E sz xs k = Option.none := by
  rcases hr with ⟨rfl, rfl⟩ | ⟨b, v, rfl, _, hb, hv⟩
  · exact ⟨h.nil E sz, fun _ _ => rfl, fun _ _ h => h⟩
  · have ho := off_of hb
    have hin := off_in ho
    refine ⟨h.new (inK_preK hks hin) (off_base ho) hv, fun l' hl' => upd_hp_out (hl' b hin), fun k hk hn => upd_eq_none.2 ⟨?_, hn⟩⟩
    rintro rfl; rw [hin] at hk; cases hk
/-- A row of ours is handed back. -/
theorem retW_rowX {V : Env} {H R : Heap} {ks : List Nat} {ps : List Pc} {l l1 : List (Nat × AObj)} {E : TypeId} {sz : Nat} {xs : List D} {a x : A} {K : A → Heap → Prop} (h : AccN H ks (⟨E, sz, xs, a⟩ :: ps) R) (hl : okK ks R l)
    (h1 : subL (hp R l) l1) (h2 : offR H l1 l) (hk : RowA H ks xs a → K x (withA (hp H l1) a E sz xs)) : retW V x (hp R l) K := by
  have hle : LeH (hp H l1) (hp R l) := leH_hp2 h.le h1 h2
  have hout := fun b v (e : a = .own b v) => AccN.out (pre := []) h hl (p := ⟨E, sz, xs, a⟩) e
  rcases AccN.mid (pre := []) h with ⟨e1, e2⟩ | ⟨b, v, e1, e2, e3, e4, e5⟩
  · simp only at e1 e2
    subst e1; subst e2
    exact retW_drop hle (retW_is (hk (.inl ⟨rfl, rfl⟩)))
  · simp only at e1 e2 e3 e4 e5
    subst e1
    refine retW_drop ?_ (retW_is (hk (.inr ⟨b, v, rfl, e2, e3, e4⟩)))
    refine leH_upd_l ?_ fun k o _ hk => hle k o hk
    rw [hp_not (hout b v rfl)]; exact e5
theorem retW_row {V : Env} {H R : Heap} {ks : List Nat} {ps : List Pc} {l l1 : List (Nat × AObj)} {E : TypeId} {sz : Nat} {xs : List D} {a : A} {K : A → Heap → Prop} (h : AccN H ks (⟨E, sz, xs, a⟩ :: ps) R) (hl : okK ks R l)
    (h1 : subL (hp R l) l1) (h2 : offR H l1 l) (hk : RowA H ks xs a → K a (withA (hp H l1) a E sz xs)) : retW V a (hp R l) K := retW_rowX h hl h1 h2 hk
theorem AccN.src {H R : Heap} {ks : List Nat} {pre post : List Pc} {p : Pc} {l : List (Nat × AObj)} {K : List D → Prop} (h : AccN H ks (pre ++ p :: post) R) (hl : okK ks R l) : srcK (hp R l) p.a K = K p.xs := by
  obtain ⟨E, sz, xs, a⟩ := p
  have hout := fun b v (e : a = .own b v) => h.out hl e
  have hmid := h.mid
  simp only [Pc.at] at hmid
  rcases hmid with ⟨rfl, rfl⟩ | ⟨b, v, rfl, h1, h2, hv, hH⟩
  · simp [srcK]
  · simp only [srcK, hp_not (hout b v rfl), hH, true_and]
theorem setL_off {R : Heap} {b : Nat} {o : AObj} : ∀ {l : List (Nat × AObj)}, off R l b → setL b o l = l ++ [(b, o)]
  | [], _ => rfl
  | (k, x) :: l, h => by
    simp only [setL, cnd, h.1, Bool.false_eq_true, if_false, List.cons_append]
    rw [setL_off h.2.2]
/-- A new row is handed back. -/
theorem row_new {H : Heap} {ks : List Nat} {l1 : List (Nat × AObj)} {E : TypeId} {sz : Nat} {xs : List D} {b : Nat} {v : Value} {K : A → Heap → Prop} (hK : ∀ a, RowA H ks xs a → K a (withA (hp H l1) a E sz xs)) (hks : preK ks l1) (ho : off H l1 b) (hv : v.ownBlock = some b) :
    K (.own b v) (hp H (l1 ++ [(b, .arr E sz v xs)])) := by
  have := hK (.own b v) (.inr ⟨b, v, rfl, inK_preK hks (off_in ho), off_base ho, hv⟩)
  rw [withA, upd_hp, setL_off ho] at this
  exact this
end Go.Aug
