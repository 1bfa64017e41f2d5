/- The abstract layer, sixth part: rows that grow side by side, heaps as lists; no conditions. -/
import Derived.Test.YtejfagblpbmokaaDoorRunTwo
set_option linter.all false
set_option linter.unusedVariables false
set_option linter.unusedSimpArgs false
set_option linter.unusedSectionVars false

/-
  The abstract layer, heaps said by a list over another heap: what is known of a frame's blocks is a list, in the order in which they were made.
-/
namespace Go.Aug
/-- A heap by its list over another; the first entry counts. -/
def hp (R : Heap) : List (Nat × AObj) → Heap
  | [] => R
  | (b, o) :: l => upd (hp R l) b o
def setL (b : Nat) (o : AObj) : List (Nat × AObj) → List (Nat × AObj)
  | [] => [(b, o)]
  | (k, x) :: l => cnd (eqn b k) ((k, o) :: l) ((k, x) :: setL b o l)
def delL (b : Nat) : List (Nat × AObj) → List (Nat × AObj)
  | [] => []
  | (k, x) :: l => cnd (eqn b k) (delL b l) ((k, x) :: delL b l)
/-- A block that is none of these, nor one of the heap below. -/
def off (R : Heap) : List (Nat × AObj) → Nat → Prop
  | [], b => R b = none
  | (k, _) :: l, b => eqn b k = false ∧ eqn k b = false ∧ off R l b
def subL (H : Heap) : List (Nat × AObj) → Prop
  | [] => True
  | (b, o) :: l => H b = some o ∧ subL H l
def inK (b : Nat) : List (Nat × AObj) → Bool
  | [] => false
  | (k, _) :: l => cnd (eqn b k) true (inK b l)
def offR (R : Heap) (l1 : List (Nat × AObj)) : List (Nat × AObj) → Prop
  | [] => True
  | (b, _) :: l => (inK b l1 = true ∨ R b = none) ∧ offR R l1 l
section
variable {R : Heap} {l l1 l2 : List (Nat × AObj)} {b k : Nat} {o x : AObj}
@[go_sem] theorem hp_nil_at : hp R [] k = R k := Eq.trans rfl rfl
@[go_sem] theorem hp_at : hp R ((b, o) :: l) k = cnd (eqn k b) (some o) (hid (hp R l k) ⟨⟩) := upd_at
@[go_sem] theorem setL_nil : setL b o [] = [(b, o)] := Eq.trans rfl rfl
@[go_sem] theorem setL_cons : setL b o ((k, x) :: l) = cnd (eqn b k) ((k, o) :: l) (hid ((k, x) :: setL b o l) ⟨⟩) := Eq.trans rfl rfl
@[go_sem] theorem delL_nil : delL b [] = [] := Eq.trans rfl rfl
@[go_sem] theorem delL_cons : delL b ((k, x) :: l) = cnd (eqn b k) (delL b l) (hid ((k, x) :: delL b l) ⟨⟩) := Eq.trans rfl rfl
@[go_sem] theorem inK_nil : inK b [] = false := Eq.trans rfl rfl
@[go_sem] theorem inK_cons : inK b ((k, x) :: l) = cnd (eqn b k) true (hid (inK b l) ⟨⟩) := Eq.trans rfl rfl
@[go_sem] theorem off_nil : off R [] b = (R b = none) := Eq.trans rfl rfl
@[go_sem] theorem off_cons : off R ((k, x) :: l) b = (eqn b k = false ∧ eqn k b = false ∧ off R l b) := Eq.trans rfl rfl
@[go_sem] theorem subL_nil {H : Heap} : subL H [] = True := Eq.trans rfl rfl
@[go_sem] theorem subL_cons {H : Heap} : subL H ((b, o) :: l) = (H b = some o ∧ subL H l) := Eq.trans rfl rfl
@[go_sem] theorem offR_nil : offR R l1 [] = True := Eq.trans rfl rfl
@[go_sem] theorem offR_cons : offR R l1 ((b, o) :: l) = ((inK b l1 = true ∨ R b = none) ∧ offR R l1 l) := Eq.trans rfl rfl
theorem eqn_true {a b : Nat} (h : eqn a b = true) : a = b := by simpa [eqn] using h
theorem eqn_false {a b : Nat} (h : eqn a b = false) : a ≠ b := by simpa [eqn] using h
@[go_sem] theorem upd_hp : upd (hp R l) b o = hp R (setL b o l) := by
  induction l with
  | nil => rfl
  | cons p l ih =>
    obtain ⟨k, x⟩ := p
    simp only [setL, hp, cnd]
    split
    · rename_i h
      have := eqn_true h; subst this
      funext j; simp only [hp, upd]; split <;> rfl
    · rename_i h
      rw [hp, ← ih]
      funext j
      have hne : b ≠ k := fun e => h (by simp [eqn, e])
      simp only [upd]
      split <;> split <;> simp_all
/-- With R b = none. -/
@[go_sem] theorem del_hp (h : R b = none) : del (hp R l) b = hp R (delL b l) := by
  induction l with
  | nil => funext j; simp only [delL, hp, del]; split <;> simp_all
  | cons p l ih =>
    obtain ⟨k, x⟩ := p
    simp only [delL, hp, cnd]
    split
    · rename_i h'
      have := eqn_true h'; subst this
      rw [← ih]
      funext j; simp only [del, upd]; split <;> simp_all
    · rename_i h'
      rw [hp, ← ih]
      have hne : b ≠ k := fun e => h' (by simp [eqn, e])
      funext j
      simp only [upd, del]
      split <;> split <;> simp_all
theorem off_of : ∀ {l : List (Nat × AObj)}, hp R l b = none → off R l b
  | [], h => h
  | (k, x) :: l, h => by
    have h1 := upd_eq_none.1 h
    exact ⟨eqn_ne h1.1, eqn_ne (Ne.symm h1.1), off_of h1.2⟩
theorem off_none : ∀ {l : List (Nat × AObj)}, off R l b → hp R l b = none
  | [], h => h
  | (k, x) :: l, h => upd_eq_none.2 ⟨eqn_false h.1, off_none h.2.2⟩
theorem newK_hp {f : Nat → Prop} {lk : Lk f} (h : ∀ b, off R l b → f b) : newK (hp R l) (hid f lk) := fun b hb => h b (off_of hb)
theorem newV_hp {f : Nat → Value → Prop} {lk : Lk f} (h : ∀ b v, off R l b → v.ownBlock = some b → f b v) : newV (hp R l) (hid f lk) := fun b v hb hv => h b v (off_of hb) hv
theorem growV_hp {b0 : Nat} {f : Nat → Value → Prop} {lk : Lk f} (h0 : off R (delL b0 l) b0) (hR : R b0 = none) (h : ∀ b v, off R (delL b0 l) b → v.ownBlock = some b → f b v) : growV (hp R l) b0 (hid f lk) := fun b v hb hv => by
  refine h b v ?_ hv
  rcases hb with rfl | hb
  · exact h0
  · refine off_of ?_
    rw [← del_hp hR]
    exact del_eq_none.2 (.inr hb)
theorem hp_not : ∀ {l : List (Nat × AObj)}, inK b l = false → hp R l b = R b
  | [], _ => rfl
  | (k, x) :: l, h => by
    simp only [inK, cnd] at h
    split at h
    · cases h
    · rename_i e
      have hne : b ≠ k := fun e' => e (by simp [eqn, e'])
      simp only [hp, upd, if_neg hne]
      exact hp_not h
theorem hp_sub {H : Heap} : ∀ {l : List (Nat × AObj)}, subL H l → inK b l = true → hp R l b = some o → H b = some o
  | [], _, h, _ => by cases h
  | (k, x) :: l, hs, h, hg => by
    by_cases e : b = k
    · subst e
      simp only [hp, upd, if_true] at hg
      rw [← hg]; exact hs.1
    · simp only [hp, upd, if_neg e] at hg
      simp only [inK, cnd, eqn_ne e, Bool.false_eq_true, if_false] at h
      exact hp_sub hs.2 h hg
theorem offR_in : ∀ {l : List (Nat × AObj)}, offR R l1 l → inK b l = true → inK b l1 = true ∨ R b = none
  | [], _, h => by cases h
  | (k, x) :: l, ho, h => by
    simp only [inK, cnd] at h
    split at h
    · rename_i e; have := eqn_true e; subst this; exact ho.1
    · exact offR_in ho.2 h
theorem leH_hp (h1 : subL (hp R l2) l1) (h2 : offR R l1 l2) : LeH (hp R l1) (hp R l2) := by
  intro j o hj
  cases h : inK j l1 with
  | true => exact hp_sub h1 h hj
  | false =>
    rw [hp_not h] at hj
    cases h' : inK j l2 with
    | true =>
      rcases offR_in h2 h' with h3 | h3
      · rw [h] at h3; cases h3
      · rw [h3] at hj; cases hj
    | false => rw [hp_not h']; exact hj
/-- What is known of a heap, said as a list. -/
theorem hp_one (h : R b = some o) : hp R [(b, o)] = R := by
  funext j; simp only [hp, upd]; split <;> simp_all
theorem ACall.hp_in {P : Program} {V : Env} {f : FuncId} {args : List A} {K : A → Heap → Prop} (h : R b = some o) (k : ACall P V f args (hp R [(b, o)]) K) : ACall P V f args R K := by rw [hp_one h] at k; exact k
theorem ACall.hp_start {P : Program} {V : Env} {f : FuncId} {args : List A} {K : A → Heap → Prop} (k : ACall P V f args (hp R []) K) : ACall P V f args R K := k
theorem leH_hp0 (h : offR R [] l) : LeH R (hp R l) := leH_hp (l1 := []) trivial h
end
theorem leH_hp2 {R R' : Heap} {l1 l2 : List (Nat × AObj)} (h0 : LeH R R') (h1 : subL (hp R' l2) l1) (h2 : offR R l1 l2) : LeH (hp R l1) (hp R' l2) := by
  intro j o hj
  cases h : inK j l1 with
  | true => exact hp_sub h1 h hj
  | false =>
    rw [hp_not h] at hj
    cases h' : inK j l2 with
    | true =>
      rcases offR_in h2 h' with h3 | h3
      · rw [h] at h3; cases h3
      · rw [h3] at hj; cases hj
    | false => rw [hp_not h']; exact h0 j o hj
/-- One of these keys. -/
def memK (k : Nat) : List Nat → Bool
  | [] => false
  | j :: l => cnd (eqn k j) true (memK k l)
/-- Each block of the list is a key, or not one of the heap below. -/
def okK (ks : List Nat) (R : Heap) : List (Nat × AObj) → Prop
  | [] => True
  | (k, _) :: l => (memK k ks = true ∨ R k = none) ∧ okK ks R l
@[go_sem] theorem memK_nil {k : Nat} : memK k [] = false := Eq.trans rfl rfl
@[go_sem] theorem memK_cons {k j : Nat} {l : List Nat} : memK k (j :: l) = cnd (eqn k j) true (hid (memK k l) ⟨⟩) := Eq.trans rfl rfl
@[go_sem] theorem okK_nil {ks : List Nat} {R : Heap} : okK ks R [] = True := Eq.trans rfl rfl
@[go_sem] theorem okK_cons {ks : List Nat} {R : Heap} {k : Nat} {o : AObj} {l : List (Nat × AObj)} : okK ks R ((k, o) :: l) = ((memK k ks = true ∨ R k = none) ∧ okK ks R l) := Eq.trans rfl rfl
theorem okK_in {ks : List Nat} {R : Heap} {b : Nat} : ∀ {l : List (Nat × AObj)}, okK ks R l → inK b l = true → memK b ks = true ∨ R b = none
  | [], _, h => by cases h
  | (k, x) :: l, ho, h => by
    simp only [inK, cnd] at h
    split at h
    · rename_i e; have := eqn_true e; subst this; exact ho.1
    · exact okK_in ho.2 h
theorem off_in {R : Heap} {b : Nat} : ∀ {l : List (Nat × AObj)}, off R l b → inK b l = false
  | [], _ => rfl
  | (k, x) :: l, h => by simp only [inK, cnd, h.1, Bool.false_eq_true, if_false]; exact off_in h.2.2
theorem off_base {R : Heap} {b : Nat} : ∀ {l : List (Nat × AObj)}, off R l b → R b = none
  | [], h => h
  | (_, _) :: _, h => off_base h.2.2
theorem upd_hp_out {R : Heap} {b : Nat} {o : AObj} : ∀ {l : List (Nat × AObj)}, inK b l = false → upd (hp R l) b o = hp (upd R b o) l
  | [], _ => rfl
  | (k, x) :: l, h => by
    simp only [inK, cnd] at h
    split at h
    · cases h
    · rename_i e
      have hne : b ≠ k := fun e' => e (by simp [eqn, e'])
      simp only [hp]
      rw [← upd_hp_out h, upd_comm (Ne.symm hne)]
theorem del_hp_out {R : Heap} {b : Nat} : ∀ {l : List (Nat × AObj)}, inK b l = false → del (hp R l) b = hp (del R b) l
  | [], _ => rfl
  | (k, x) :: l, h => by
    simp only [inK, cnd] at h
    split at h
    · cases h
    · rename_i e
      have hne : b ≠ k := fun e' => e (by simp [eqn, e'])
      simp only [hp]
      rw [← del_hp_out h]
      funext j; simp only [del, upd]; split <;> split <;> simp_all
theorem hp_base {R : Heap} {b : Nat} {o : AObj} {l : List (Nat × AObj)} (h : inK b l = false) : hp (upd R b o) l = hp R (setL b o l) := by rw [← upd_hp_out h, upd_hp]
theorem aMark_intro {H : Heap} {b : Nat} {v : Value} {E : TypeId} {sz : Nat} {ds : List D} {K : A → Heap → Prop} (h : H b = some (.arr E sz v ds)) (k : K (.own b v) (upd H b (.frz v ds))) : aMark (.own b v) H K := by
  simp only [aMark, h]; exact ⟨trivial, k⟩
/-- The keys are the first ones of the list. -/
def preK : List Nat → List (Nat × AObj) → Prop
  | [], _ => True
  | k :: ks, (j, _) :: l => k = j ∧ preK ks l
  | _ :: _, [] => False
@[go_sem] theorem preK_nil {l : List (Nat × AObj)} : preK [] l = True := by simp [preK]
@[go_sem] theorem preK_cons {k j : Nat} {o : AObj} {ks : List Nat} {l : List (Nat × AObj)} : preK (k :: ks) ((j, o) :: l) = (k = j ∧ preK ks l) := Eq.trans rfl rfl
theorem preK_in {b : Nat} : ∀ {ks : List Nat} {l : List (Nat × AObj)}, preK ks l → memK b ks = true → inK b l = true
  | [], _, _, h => by cases h
  | k :: ks, [], hp, _ => hp.elim
  | k :: ks, (j, o) :: l, hp, h => by
    obtain ⟨rfl, hp⟩ := hp
    simp only [memK, inK, cnd] at h ⊢
    split
    · rfl
    · rename_i e; rw [if_neg e] at h; exact preK_in hp h
/-- A row that grows, nil at first, in the heap R' over R; ks: the keys that it is not one of. -/
def Acc (R : Heap) (ks : List Nat) (E : TypeId) (sz : Nat) (xs : List D) (a : A) (R' : Heap) : Prop :=
  LeH R R' ∧ ((xs = [] ∧ a = .nils) ∨ ∃ b v, a = .own b v ∧ memK b ks = false ∧ R b = none ∧ v.ownBlock = some b ∧ R' b = some (.arr E sz v xs))
section
variable {R R' : Heap} {ks : List Nat} {E : TypeId} {sz : Nat} {xs : List D} {a : A} {l : List (Nat × AObj)}
theorem Acc.nils (R : Heap) (ks : List Nat) (E : TypeId) (sz : Nat) : Acc R ks E sz [] .nils R := ⟨.refl _, .inl ⟨rfl, rfl⟩⟩
theorem Acc.new {b : Nat} {v : Value} (h1 : memK b ks = false) (h2 : R b = none) (h3 : v.ownBlock = some b) : Acc R ks E sz xs (.own b v) (upd R b (.arr E sz v xs)) :=
  ⟨leH_upd h2 (.refl R), .inr ⟨b, v, rfl, h1, h2, h3, upd_same ..⟩⟩
theorem Acc.le (h : Acc R ks E sz xs a R') : LeH R R' := h.1
theorem Acc.allD (h : Acc R ks E sz xs a R') {t : List A} : allD (a :: t) = none := by
  rcases h.2 with ⟨_, rfl⟩ | ⟨b, v, rfl, _⟩ <;> rfl
theorem Acc.one (h : Acc R ks E sz xs a R') : a.good = true ∧ a.cells = [a] := by
  rcases h.2 with ⟨_, rfl⟩ | ⟨b, v, rfl, _⟩ <;> exact ⟨rfl, rfl⟩
theorem Acc.out (h : Acc R ks E sz xs a R') (hl : okK ks R' l) {b : Nat} {v : Value} (ha : a = .own b v) : inK b l = false := by
  rcases h.2 with ⟨_, rfl⟩ | ⟨b', v', rfl, h1, h2, h3, h4⟩
  · cases ha
  · cases ha
    cases hb : inK b l with
    | false => rfl
    | true =>
      rcases okK_in hl hb with h5 | h5
      · rw [h1] at h5; cases h5
      · rw [h4] at h5; cases h5
theorem Acc.appTo {ns : List D} {by_ : Nat} {K : A → Heap → Prop} (h : Acc R ks E sz xs a R') (hl : okK ks R' l) (hks : preK ks l) (hsz : (xs.length + ns.length) * by_ ≤ 140737488355328)
    (hK : ∀ a' R'', Acc R ks E sz (xs ++ ns) a' R'' → (∀ k, inK k l = true → R' k = none → R'' k = none) → K a' (hp R'' l)) : appTo a ns E sz by_ (hp R' l) K := by
  have hm : ∀ {b}, inK b l = false → memK b ks = false := fun {b} hb => by
    cases hc : memK b ks with
    | false => rfl
    | true => rw [preK_in hks hc] at hb; cases hb
  have hout := fun b v (e : a = .own b v) => h.out hl e
  obtain ⟨hle, ⟨rfl, rfl⟩ | ⟨b, v, rfl, h1, h2, hv, hH⟩⟩ := h
  · refine appTo_nils' (by simpa using hsz) ?_ ?_
    · rintro rfl; exact hK _ _ ⟨hle, .inl ⟨rfl, rfl⟩⟩ fun _ _ h => h
    · intro _ b v hb hv
      have ho := off_of hb
      rw [upd_hp_out (off_in ho)]
      refine hK _ _ ⟨hle.up (off_base ho), .inr ⟨b, v, rfl, hm (off_in ho), hle.free (off_base ho), hv, by simp [upd]⟩⟩ fun k hk hn => ?_
      refine upd_eq_none.2 ⟨?_, hn⟩
      rintro rfl; rw [off_in ho] at hk; cases hk
  · have hb0 := hout b v rfl
    simp only [Go.Aug.appTo, hp_not hb0, hH, true_and]
    refine ⟨hsz, ?_⟩
    intro b' v' hb' hv'
    have hin : inK b' l = false ∧ R b' = none := by
      rcases hb' with rfl | hb'
      · exact ⟨hb0, h2⟩
      · exact ⟨off_in (off_of hb'), hle.free (off_base (off_of hb'))⟩
    rw [del_hp_out hb0, upd_hp_out hin.1]
    refine hK _ _ ⟨leH_upd hin.2 (leH_del h2 hle), .inr ⟨b', v', rfl, hm hin.1, hin.2, hv', by simp [upd]⟩⟩ fun k hk hn => ?_
    refine upd_eq_none.2 ⟨?_, del_eq_none.2 (.inr hn)⟩
    intro e; rw [e, hin.1] at hk; cases hk
/-- The row, let go. -/
theorem Acc.deep {K : D → Heap → Prop} (h : Acc R ks E sz xs a R') (hl : okK ks R' l) (hK : ∀ R'', LeH R R'' → (∀ k, R' k = none → R'' k = none) → K (.slice xs) (hp R'' l)) : deepK (hp R' l) a K := by
  have hout := fun b v (e : a = .own b v) => h.out hl e
  obtain ⟨hle, ⟨rfl, rfl⟩ | ⟨b, v, rfl, h1, h2, hv, hH⟩⟩ := h
  · simp only [deepK_nils]; exact hK _ hle fun _ h => h
  · simp only [deepK, hp_not (hout b v rfl), hH, true_and]
    rw [upd_hp_out (hout b v rfl)]
    exact hK _ (leH_upd h2 hle) fun k hk => upd_eq_none.2 ⟨fun e => (by rw [e, hH] at hk; cases hk), hk⟩
theorem Acc.len {K : A → Prop} (h : Acc R ks E sz xs a R') (hl : okK ks R' l) : aLen a (hp R' l) K = K (.d (.int .i64 xs.length)) := by
  have hout := fun b v (e : a = .own b v) => h.out hl e
  obtain ⟨hle, ⟨rfl, rfl⟩ | ⟨b, v, rfl, h1, h2, hv, hH⟩⟩ := h
  · simp [aLen]
  · simp only [aLen, hp_not (hout b v rfl), hH, true_and]
theorem Acc.lenable {P : Program} {t : TypeId} (h : Acc R ks E sz xs a R') (ht : isSliceT P t = true) : lenable P t a = true := by
  rcases h.2 with ⟨_, rfl⟩ | ⟨b, v, rfl, _⟩
  · rw [lenable_nils, ht]
  · rw [lenable_own, ht]
theorem Acc.up {R'' : Heap} (h : Acc R ks E sz xs a R') (hle : LeH R' R'') : Acc R ks E sz xs a R'' := by
  obtain ⟨h0, h | ⟨b, v, h1, h2, h3, h4, h5⟩⟩ := h
  · exact ⟨h0.trans hle, .inl h⟩
  · exact ⟨h0.trans hle, .inr ⟨b, v, h1, h2, h3, h4, hle _ _ h5⟩⟩
/-- Two rows, one over the other: the first one is let go. -/
theorem Acc.deep2 {R2 : Heap} {E2 : TypeId} {sz2 : Nat} {ys : List D} {a2 : A} {K : D → Heap → Prop} (h : Acc R ks E sz xs a R') (h2 : Acc R' ks E2 sz2 ys a2 R2) (hl : okK ks R2 l)
    (hK : ∀ R3, Acc R ks E2 sz2 ys a2 R3 → (∀ k, R2 k = none → R3 k = none) → K (.slice xs) (hp R3 l)) : deepK (hp R2 l) a K := by
  have hup := h.up h2.le
  have hout := fun b v (e : a = .own b v) => hup.out hl e
  have hb2 : ∀ R3, LeH R R3 → (∀ b, R' b = none → R3 b = R2 b) → Acc R ks E2 sz2 ys a2 R3 := fun R3 hle he => by
    refine ⟨hle, ?_⟩
    rcases h2.2 with h3 | ⟨b, v, h3, h4, h5, h6, h7⟩
    · exact .inl h3
    · exact .inr ⟨b, v, h3, h4, h.le.free h5, h6, by rw [he b h5]; exact h7⟩
  have hsome : ∀ b v, a = .own b v → ∃ o, R' b = some o := fun b v e => by
    rcases h.2 with ⟨_, rfl⟩ | ⟨b', v', rfl, _, _, _, h5⟩
    · cases e
    · cases e; exact ⟨_, h5⟩
  obtain ⟨hle, ⟨rfl, rfl⟩ | ⟨b, v, rfl, h1, h2', hv, hH⟩⟩ := hup
  · simp only [deepK_nils]; exact hK _ (hb2 _ hle fun _ _ => rfl) fun _ h => h
  · simp only [deepK, hp_not (hout b v rfl), hH, true_and]
    rw [upd_hp_out (hout b v rfl)]
    refine hK _ (hb2 _ (leH_upd h2' hle) fun c hc => ?_) fun k hk => upd_eq_none.2 ⟨fun e => (by rw [e, hH] at hk; cases hk), hk⟩
    rw [upd_ne]
    rintro rfl
    obtain ⟨o, ho⟩ := hsome _ v rfl
    rw [ho] at hc; cases hc
end
theorem hpS : type_of% @hp_at ∧ type_of% @hp_nil_at ∧ type_of% @setL_cons ∧ type_of% @setL_nil ∧ type_of% @delL_cons ∧ type_of% @delL_nil ∧ type_of% @inK_cons ∧ type_of% @inK_nil ∧ type_of% @off_cons ∧ type_of% @off_nil ∧ type_of% @subL_cons ∧ type_of% @subL_nil ∧ type_of% @offR_cons ∧ type_of% @offR_nil ∧ type_of% @okK_cons ∧ type_of% @okK_nil ∧ type_of% @memK_cons ∧ type_of% @memK_nil ∧ type_of% @preK_cons ∧ type_of% @preK_nil ∧ type_of% @eqn_self ∧ type_of% @cnd_true ∧ type_of% @cnd_false ∧ type_of% @true_or ∧ type_of% @or_true ∧ type_of% @and_true ∧ type_of% @true_and ∧ type_of% @and_self := ⟨@hp_at, @hp_nil_at, @setL_cons, @setL_nil, @delL_cons, @delL_nil, @inK_cons, @inK_nil, @off_cons, @off_nil, @subL_cons, @subL_nil, @offR_cons, @offR_nil, @okK_cons, @okK_nil, @memK_cons, @memK_nil, @preK_cons, @preK_nil, @eqn_self, @cnd_true, @cnd_false, @true_or, @or_true, @and_true, @true_and, @and_self⟩
end Go.Aug

/-
  The abstract layer: several rows that grow, side by side.
-/
namespace Go.Aug
/-- A row that grows: its elements' type and size, what it holds, its value. -/
structure Pc where
  E : TypeId
  sz : Nat
  xs : List D
  a : A
def Pc.at (H : Heap) (ks : List Nat) (R : Heap) (p : Pc) : Prop :=
  (p.xs = [] ∧ p.a = .nils) ∨ ∃ b v, p.a = .own b v ∧ memK b ks = false ∧ H b = none ∧ v.ownBlock = some b ∧ R b = some (.arr p.E p.sz v p.xs)
def blk : A → Option Nat
  | .own b _ => some b
  | _ => none
def apart (p q : Pc) : Prop := ∀ b, blk p.a = some b → blk q.a ≠ some b
/-- These rows, in R over H, none of them one of the keys. -/
structure AccN (H : Heap) (ks : List Nat) (ps : List Pc) (R : Heap) : Prop where
  le : LeH H R
  at_ : ∀ p ∈ ps, p.at H ks R
  ap : ps.Pairwise apart
section
variable {H R : Heap} {ks : List Nat} {ps pre post : List Pc} {p : Pc} {l : List (Nat × AObj)}
theorem apart.symm {p q : Pc} (h : apart p q) : apart q p := fun b hb hp => h b hp hb
theorem AccN.none (H : Heap) (ks : List Nat) : AccN H ks [] H := ⟨.refl _, fun _ h => (by cases h), .nil⟩
theorem AccN.nil (h : AccN H ks ps R) (E : TypeId) (sz : Nat) : AccN H ks (⟨E, sz, [], .nils⟩ :: ps) R :=
  ⟨h.le, fun p hp => by
    rcases List.mem_cons.1 hp with rfl | hp
    · exact .inl ⟨rfl, rfl⟩
    · exact h.at_ p hp, .cons (fun _ _ b hb => by cases hb) h.ap⟩
theorem AccN.mid (h : AccN H ks (pre ++ p :: post) R) : p.at H ks R := h.at_ p (by simp)
theorem AccN.allD (h : AccN H ks (pre ++ p :: post) R) {t : List A} : allD (p.a :: t) = Option.none := by
  rcases h.mid with ⟨_, e⟩ | ⟨b, v, e, _⟩ <;> rw [e] <;> rfl
theorem AccN.one (h : AccN H ks (pre ++ p :: post) R) : p.a.good = true ∧ p.a.cells = [p.a] := by
  rcases h.mid with ⟨_, e⟩ | ⟨b, v, e, _⟩ <;> rw [e] <;> exact ⟨rfl, rfl⟩
theorem AccN.out (h : AccN H ks (pre ++ p :: post) R) (hl : okK ks R l) {b : Nat} {v : Value} (ha : p.a = .own b v) : inK b l = false := by
  rcases h.mid with ⟨_, e⟩ | ⟨b', v', e, h1, h2, h3, h4⟩
  · rw [e] at ha; cases ha
  · rw [e] at ha; cases ha
    cases hb : inK b l with
    | false => rfl
    | true =>
      rcases okK_in hl hb with h5 | h5
      · rw [h1] at h5; cases h5
      · rw [h4] at h5; cases h5
theorem AccN.pair (h : AccN H ks (pre ++ p :: post) R) {q : Pc} (hq : q ∈ pre ++ post) : apart q p := by
  have := h.ap
  rw [List.pairwise_append] at this
  rcases List.mem_append.1 hq with hq | hq
  · exact this.2.2 q hq p (.head _)
  · exact ((List.pairwise_cons.1 this.2.1).1 q hq).symm
theorem AccN.without (h : AccN H ks (pre ++ p :: post) R) : AccN H ks (pre ++ post) R := by
  refine ⟨h.le, fun q hq => h.at_ q ?_, ?_⟩
  · rcases List.mem_append.1 hq with hq | hq
    · exact List.mem_append.2 (.inl hq)
    · exact List.mem_append.2 (.inr (.tail _ hq))
  · have := h.ap
    rw [List.pairwise_append] at this ⊢
    exact ⟨this.1, (List.pairwise_cons.1 this.2.1).2, fun a ha b hb => this.2.2 a ha b (.tail _ hb)⟩
/-- One row stands in place of another. -/
theorem AccN.with (h : AccN H ks (pre ++ p :: post) R) {p' : Pc} {R' : Heap} (hle : LeH H R') (hp : p'.at H ks R') (hap : ∀ q ∈ pre ++ post, apart q p') (hk : ∀ q ∈ pre ++ post, ∀ b, blk q.a = some b → R' b = R b) : AccN H ks (pre ++ p' :: post) R' := by
  have hold : ∀ q ∈ pre ++ post, q.at H ks R' := fun q hq => by
    rcases h.without.at_ q hq with h1 | ⟨b, v, h1, h2, h3, h4, h5⟩
    · exact .inl h1
    · exact .inr ⟨b, v, h1, h2, h3, h4, by rw [hk q hq b (by rw [h1]; rfl)]; exact h5⟩
  refine ⟨hle, fun q hq => ?_, ?_⟩
  · rcases List.mem_append.1 hq with hq | hq
    · exact hold q (List.mem_append.2 (.inl hq))
    · rcases List.mem_cons.1 hq with rfl | hq
      · exact hp
      · exact hold q (List.mem_append.2 (.inr hq))
  · have := h.ap
    rw [List.pairwise_append] at this ⊢
    refine ⟨this.1, .cons (fun q hq => (hap q (List.mem_append.2 (.inr hq))).symm) (List.pairwise_cons.1 this.2.1).2, fun a ha b hb => ?_⟩
    rcases List.mem_cons.1 hb with rfl | hb
    · exact hap a (List.mem_append.2 (.inl ha))
    · exact this.2.2 a ha b (.tail _ hb)
theorem AccN.some_ne (h : AccN H ks (pre ++ p :: post) R) {q : Pc} (hq : q ∈ pre ++ post) {b : Nat} (hb : blk q.a = some b) : ∃ o, R b = some o := by
  rcases h.without.at_ q hq with ⟨_, e⟩ | ⟨b', v, e, _, _, _, h5⟩
  · rw [e] at hb; cases hb
  · rw [e] at hb; cases hb; exact ⟨_, h5⟩
theorem AccN.appTo {ns : List D} {by_ : Nat} {K : A → Heap → Prop} (h : AccN H ks (pre ++ p :: post) R) (hl : okK ks R l) (hks : preK ks l) (hsz : (p.xs.length + ns.length) * by_ ≤ 140737488355328)
    (hK : ∀ a' R', AccN H ks (pre ++ ⟨p.E, p.sz, p.xs ++ ns, a'⟩ :: post) R' → (∀ k, inK k l = true → R k = Option.none → R' k = Option.none) → K a' (hp R' l)) : appTo p.a ns p.E p.sz by_ (hp R l) K := by
  obtain ⟨E, sz, xs, a⟩ := p
  have hm : ∀ {b}, inK b l = false → memK b ks = false := fun {b} hb => by
    cases hc : memK b ks with
    | false => rfl
    | true => rw [preK_in hks hc] at hb; cases hb
  have hout := fun b v (e : a = .own b v) => h.out hl e
  have hmid := h.mid
  have hle := h.le
  simp only [Pc.at] at hmid
  rcases hmid with ⟨rfl, rfl⟩ | ⟨b, v, rfl, h1, h2, hv, hH⟩
  · refine appTo_nils' (by simpa using hsz) ?_ ?_
    · rintro rfl; exact hK _ _ h fun _ _ h => h
    · intro _ b v hb hv
      have ho := off_of hb
      rw [upd_hp_out (off_in ho)]
      refine hK _ _ (h.with (hle.up (off_base ho)) (.inr ⟨b, v, rfl, hm (off_in ho), hle.free (off_base ho), hv, by simp [upd]⟩) (fun q hq c hc hcb => ?_) (fun q hq c hc => ?_)) fun k hk hn => ?_
      · cases hcb
        obtain ⟨o, h5⟩ := h.some_ne hq hc
        rw [off_base ho] at h5; cases h5
      · rw [upd_ne]
        rintro rfl
        obtain ⟨o, h5⟩ := h.some_ne hq hc
        rw [off_base ho] at h5; cases h5
      · refine upd_eq_none.2 ⟨?_, hn⟩
        rintro rfl; rw [off_in ho] at hk; cases hk
  · have hb0 := hout b v rfl
    simp only [Go.Aug.appTo, hp_not hb0, hH, true_and]
    refine ⟨hsz, ?_⟩
    intro b' v' hb' hv'
    have hnew : b' = b ∨ (b' ≠ b ∧ R b' = Option.none) := by
      rcases hb' with rfl | hb'
      · exact .inl rfl
      · by_cases e : b' = b
        · exact .inl e
        · exact .inr ⟨e, off_base (off_of hb')⟩
    have hin : inK b' l = false ∧ H b' = Option.none := by
      rcases hb' with rfl | hb'
      · exact ⟨hb0, h2⟩
      · exact ⟨off_in (off_of hb'), hle.free (off_base (off_of hb'))⟩
    have hne : ∀ q ∈ pre ++ post, ∀ c, blk q.a = some c → c ≠ b ∧ c ≠ b' := fun q hq c hc => by
      have hcb : c ≠ b := fun e => h.pair hq c hc (by rw [e]; rfl)
      refine ⟨hcb, ?_⟩
      rcases hnew with rfl | ⟨_, hn⟩
      · exact hcb
      · rintro rfl
        obtain ⟨o, h5⟩ := h.some_ne hq hc
        rw [hn] at h5; cases h5
    rw [del_hp_out hb0, upd_hp_out hin.1]
    refine hK _ _ (h.with (leH_upd hin.2 (leH_del h2 hle)) (.inr ⟨b', v', rfl, hm hin.1, hin.2, hv', by simp [upd]⟩) (fun q hq c hc hcb => ?_) (fun q hq c hc => ?_)) fun k hk hn => ?_
    · cases hcb; exact (hne q hq _ hc).2 rfl
    · rw [upd_ne _ _ (hne q hq c hc).2]
      simp [del, (hne q hq c hc).1]
    · refine upd_eq_none.2 ⟨?_, del_eq_none.2 (.inr hn)⟩
      rintro rfl; rw [hin.1] at hk; cases hk
/-- A row is let go. -/
theorem AccN.deep {K : D → Heap → Prop} (h : AccN H ks (pre ++ p :: post) R) (hl : okK ks R l) (hK : ∀ R', AccN H ks (pre ++ post) R' → (∀ k, R k = Option.none → R' k = Option.none) → K (.slice p.xs) (hp R' l)) : deepK (hp R l) p.a K := by
  obtain ⟨E, sz, xs, a⟩ := p
  have hout := fun b v (e : a = .own b v) => h.out hl e
  have hmid := h.mid
  simp only [Pc.at] at hmid
  rcases hmid with ⟨rfl, rfl⟩ | ⟨b, v, rfl, h1, h2, hv, hH⟩
  · simp only [deepK_nils]; exact hK _ h.without fun _ h => h
  · simp only [deepK, hp_not (hout b v rfl), hH, true_and]
    rw [upd_hp_out (hout b v rfl)]
    have hw := h.without
    refine hK _ ⟨leH_upd h2 hw.le, fun q hq => ?_, hw.ap⟩ fun k hk => upd_eq_none.2 ⟨fun e => (by rw [e, hH] at hk; cases hk), hk⟩
    rcases hw.at_ q hq with h3 | ⟨c, v2, h3, h4, h5, h6, h7⟩
    · exact .inl h3
    · refine .inr ⟨c, v2, h3, h4, h5, h6, ?_⟩
      have : c ≠ b := fun e => h.pair hq c (by rw [h3]; rfl) (by rw [e]; rfl)
      rw [upd_ne _ _ this]; exact h7
theorem AccN.len {K : A → Prop} (h : AccN H ks (pre ++ p :: post) R) (hl : okK ks R l) : aLen p.a (hp R l) K = K (.d (.int .i64 p.xs.length)) := by
  obtain ⟨E, sz, xs, a⟩ := p
  have hout := fun b v (e : a = .own b v) => h.out hl e
  have hmid := h.mid
  simp only [Pc.at] at hmid
  rcases hmid with ⟨rfl, rfl⟩ | ⟨b, v, rfl, h1, h2, hv, hH⟩
  · simp [aLen]
  · simp only [aLen, hp_not (hout b v rfl), hH, true_and]
theorem AccN.lenable {P : Program} {t : TypeId} (h : AccN H ks (pre ++ p :: post) R) (ht : isSliceT P t = true) : lenable P t p.a = true := by
  rcases h.mid with ⟨_, e⟩ | ⟨b, v, e, _⟩ <;> rw [e]
  · rw [lenable_nils, ht]
  · rw [lenable_own, ht]
/-- A new row. -/
theorem AccN.new {b : Nat} {v : Value} {E : TypeId} {sz : Nat} {xs : List D} (h : AccN H ks ps R) (h1 : memK b ks = false) (h2 : R b = Option.none) (h3 : v.ownBlock = some b) : AccN H ks (⟨E, sz, xs, .own b v⟩ :: ps) (upd R b (.arr E sz v xs)) := by
  have hs : ∀ q ∈ ps, ∀ c, blk q.a = some c → c ≠ b := fun q hq c hc => by
    rintro rfl
    rcases h.at_ q hq with ⟨_, e⟩ | ⟨b', v', e, _, _, _, h5⟩
    · rw [e] at hc; cases hc
    · rw [e] at hc; cases hc; rw [h2] at h5; cases h5
  refine ⟨h.le.up h2, fun q hq => ?_, .cons (fun q hq c hc hcq => ?_) h.ap⟩
  · rcases List.mem_cons.1 hq with rfl | hq
    · exact .inr ⟨b, v, rfl, h1, h.le.free h2, h3, upd_same ..⟩
    · rcases h.at_ q hq with h4 | ⟨c, w, e, h5, h6, h7, h8⟩
      · exact .inl h4
      · exact .inr ⟨c, w, e, h5, h6, h7, by rw [upd_ne _ _ (hs q hq c (by rw [e]; rfl))]; exact h8⟩
  · cases hc; exact hs q hq _ hcq rfl
end
theorem leH_hp02 {H R : Heap} {l : List (Nat × AObj)} (h0 : LeH H R) (h2 : offR H [] l) : LeH H (hp R l) := leH_hp2 (l1 := []) h0 trivial h2
/-- The heap with a row that a call has handed back. -/
def withA (H : Heap) (a : A) (E : TypeId) (sz : Nat) (xs : List D) : Heap := match a with
  | .own b v => upd H b (.arr E sz v xs)
  | _ => H
/-- A row that a call has handed back: nil, or one of its own. -/
def RowA (H : Heap) (ks : List Nat) (xs : List D) (a : A) : Prop :=
  (xs = [] ∧ a = .nils) ∨ ∃ b v, a = .own b v ∧ memK b ks = false ∧ H b = none ∧ v.ownBlock = some b
theorem inK_preK {b : Nat} : ∀ {ks : List Nat} {l : List (Nat × AObj)}, preK ks l → inK b l = false → memK b ks = false := fun {ks l} h hb => by
  cases hc : memK b ks with
  | false => rfl
  | true => rw [preK_in h hc] at hb; cases hb
/-- A row that was handed back is one of ours. -/
theorem AccN.take {H R : Heap} {ks ks' : List Nat} {ps : List Pc} {l : List (Nat × AObj)} {E : TypeId} {sz : Nat} {xs : List D} {a : A} (h : AccN H ks ps R) (hks : preK ks l) (hr : RowA (hp R l) ks' xs a) :
    AccN H ks (⟨E, sz, xs, a⟩ :: ps) (withA R a E sz xs) ∧ (∀ l' : List (Nat × AObj), (∀ b, inK b l = false → inK b l' = false) → withA (hp R l') a E sz xs = hp (withA R a E sz xs) l') ∧ ∀ k, inK k l = true → R k = Option.none → withA R a E sz xs k = Option.none := by
  rcases hr with ⟨rfl, rfl⟩ | ⟨b, v, rfl, _, hb, hv⟩
  · exact ⟨h.nil E sz, fun _ _ => rfl, fun _ _ h => h⟩
  · have ho := off_of hb
    have hin := off_in ho
    refine ⟨h.new (inK_preK hks hin) (off_base ho) hv, fun l' hl' => upd_hp_out (hl' b hin), fun k hk hn => upd_eq_none.2 ⟨?_, hn⟩⟩
    rintro rfl; rw [hin] at hk; cases hk
/-- A row of ours is handed back. -/
theorem retW_rowX {V : Env} {H R : Heap} {ks : List Nat} {ps : List Pc} {l l1 : List (Nat × AObj)} {E : TypeId} {sz : Nat} {xs : List D} {a x : A} {K : A → Heap → Prop} (h : AccN H ks (⟨E, sz, xs, a⟩ :: ps) R) (hl : okK ks R l)
    (h1 : subL (hp R l) l1) (h2 : offR H l1 l) (hk : RowA H ks xs a → K x (withA (hp H l1) a E sz xs)) : retW V x (hp R l) K := by
  have hle : LeH (hp H l1) (hp R l) := leH_hp2 h.le h1 h2
  have hout := fun b v (e : a = .own b v) => AccN.out (pre := []) h hl (p := ⟨E, sz, xs, a⟩) e
  rcases AccN.mid (pre := []) h with ⟨e1, e2⟩ | ⟨b, v, e1, e2, e3, e4, e5⟩
  · simp only at e1 e2
    subst e1; subst e2
    exact retW_drop hle (retW_is (hk (.inl ⟨rfl, rfl⟩)))
  · simp only at e1 e2 e3 e4 e5
    subst e1
    refine retW_drop ?_ (retW_is (hk (.inr ⟨b, v, rfl, e2, e3, e4⟩)))
    refine leH_upd_l ?_ fun k o _ hk => hle k o hk
    rw [hp_not (hout b v rfl)]; exact e5
theorem retW_row {V : Env} {H R : Heap} {ks : List Nat} {ps : List Pc} {l l1 : List (Nat × AObj)} {E : TypeId} {sz : Nat} {xs : List D} {a : A} {K : A → Heap → Prop} (h : AccN H ks (⟨E, sz, xs, a⟩ :: ps) R) (hl : okK ks R l)
    (h1 : subL (hp R l) l1) (h2 : offR H l1 l) (hk : RowA H ks xs a → K a (withA (hp H l1) a E sz xs)) : retW V a (hp R l) K := retW_rowX h hl h1 h2 hk
theorem AccN.src {H R : Heap} {ks : List Nat} {pre post : List Pc} {p : Pc} {l : List (Nat × AObj)} {K : List D → Prop} (h : AccN H ks (pre ++ p :: post) R) (hl : okK ks R l) : srcK (hp R l) p.a K = K p.xs := by
  obtain ⟨E, sz, xs, a⟩ := p
  have hout := fun b v (e : a = .own b v) => h.out hl e
  have hmid := h.mid
  simp only [Pc.at] at hmid
  rcases hmid with ⟨rfl, rfl⟩ | ⟨b, v, rfl, h1, h2, hv, hH⟩
  · simp [srcK]
  · simp only [srcK, hp_not (hout b v rfl), hH, true_and]
theorem setL_off {R : Heap} {b : Nat} {o : AObj} : ∀ {l : List (Nat × AObj)}, off R l b → setL b o l = l ++ [(b, o)]
  | [], _ => rfl
  | (k, x) :: l, h => by
    simp only [setL, cnd, h.1, Bool.false_eq_true, if_false, List.cons_append]
    rw [setL_off h.2.2]
/-- A new row is handed back. -/
theorem row_new {H : Heap} {ks : List Nat} {l1 : List (Nat × AObj)} {E : TypeId} {sz : Nat} {xs : List D} {b : Nat} {v : Value} {K : A → Heap → Prop} (hK : ∀ a, RowA H ks xs a → K a (withA (hp H l1) a E sz xs)) (hks : preK ks l1) (ho : off H l1 b) (hv : v.ownBlock = some b) :
    K (.own b v) (hp H (l1 ++ [(b, .arr E sz v xs)])) := by
  have := hK (.own b v) (.inr ⟨b, v, rfl, inK_preK hks (off_in ho), off_base ho, hv⟩)
  rw [withA, upd_hp, setL_off ho] at this
  exact this
end Go.Aug

/-
  The abstract layer: a call that takes some of the rows that grow, and hands them back grown.
-/
namespace Go.Aug
theorem hp_in_any {R R' : Heap} {k : Nat} : ∀ {l : List (Nat × AObj)}, inK k l = true → hp R l k = hp R' l k
  | [], h => by cases h
  | (b, o) :: l, h => by
    rw [hp_at, hp_at]
    simp only [inK, cnd] at h ⊢
    split at h
    · rename_i e; rw [if_pos e, if_pos e]
    · rename_i e; rw [if_neg e, if_neg e]; exact hp_in_any h
theorem hp_in_is {R : Heap} {k : Nat} : ∀ {l : List (Nat × AObj)}, inK k l = true → ∃ o, hp R l k = some o
  | [], h => by cases h
  | (b, o) :: l, h => by
    rw [hp_at]
    simp only [inK, cnd] at h ⊢
    split at h
    · rename_i e; rw [if_pos e]; exact ⟨o, rfl⟩
    · rename_i e; rw [if_neg e]; exact hp_in_is h
open Classical in
/-- The heap without the blocks of some rows. -/
noncomputable def sans (qs : List Pc) (R : Heap) : Heap := fun b => if ∃ q ∈ qs, blk q.a = some b then none else R b
theorem accN_sub {Hc R : Heap} {ks : List Nat} {qs ps : List Pc} {l : List (Nat × AObj)} {r : Nat} {o : AObj} (h : AccN Hc ks (qs ++ ps) R) (hl : okK ks R ((r, o) :: l)) (hks : preK ks ((r, o) :: l)) (hr : inK r l = false) :
    ∃ H0 R2, hp R ((r, o) :: l) = hp R2 [(r, o)] ∧ AccN H0 [r] qs R2 ∧
      ∀ qs' R2', AccN H0 [r] qs' R2' → ∃ R', AccN Hc ks (qs' ++ ps) R' ∧ (∀ o', hp R2' [(r, o')] = hp R' ((r, o') :: l)) ∧ (∀ b, inK b ((r, o) :: l) = true → R b = none → R' b = none) := by
  have hcons : ∀ b, inK b l = false → b ≠ r → inK b ((r, o) :: l) = false := fun b h1 h2 => by
    simp only [inK, cnd, eqn_ne h2, h1]; rfl
  have hcons' : ∀ b, ¬ inK b ((r, o) :: l) = true → inK b l = false ∧ b ≠ r := fun b hb => by
    simp only [inK, cnd] at hb
    split at hb
    · exact absurd rfl hb
    · rename_i e
      exact ⟨by simpa using hb, fun e' => e (by rw [e']; exact eqn_self)⟩
  have out : ∀ q ∈ qs ++ ps, ∀ b, blk q.a = some b → inK b ((r, o) :: l) = false ∧ Hc b = none ∧ ∃ x, R b = some x := fun q hq b hb => by
    obtain ⟨pre, post, e⟩ := List.append_of_mem hq
    rw [e] at h
    rcases h.mid with ⟨_, e1⟩ | ⟨b', v, e1, e2, e3, e4, e5⟩
    · rw [e1] at hb; cases hb
    · rw [e1] at hb; cases hb
      exact ⟨h.out hl e1, e3, _, e5⟩
  have hne : ∀ q ∈ qs ++ ps, ∀ b, blk q.a = some b → inK b l = false ∧ b ≠ r := fun q hq b hb => by
    have := (out q hq b hb).1
    simp only [inK, cnd] at this
    split at this
    · cases this
    · rename_i e
      exact ⟨this, fun e' => e (by rw [e']; exact eqn_self)⟩
  have hap := h.ap
  rw [List.pairwise_append] at hap
  have hR2 : ∀ b, inK b l = false → hp R l b = R b := fun b hb => hp_not hb
  have sq : ∀ q ∈ qs, ∀ b, blk q.a = some b → sans qs (hp R l) b = none := fun q hq b hb => by simp only [sans]; rw [if_pos ⟨q, hq, hb⟩]
  have sn : ∀ b, (∀ q ∈ qs, blk q.a ≠ some b) → sans qs (hp R l) b = hp R l b := fun b hb => by simp only [sans]; rw [if_neg fun ⟨q, hq, e⟩ => hb q hq e]
  -- what the caller keeps
  have keepH : ∀ b x, Hc b = some x → R b = some x ∧ ∀ q ∈ qs, blk q.a ≠ some b := fun b x hb => ⟨h.le b x hb, fun q hq e => by
    have := (out q (List.mem_append.2 (.inl hq)) b e).2.1; rw [hb] at this; cases this⟩
  refine ⟨sans qs (hp R l), hp R l, ?_, ?_, ?_⟩
  · rfl
  · refine ⟨fun b x hb => ?_, fun q hq => ?_, hap.1⟩
    · simp only [sans] at hb; split at hb
      · cases hb
      · exact hb
    · rcases h.at_ q (List.mem_append.2 (.inl hq)) with h1 | ⟨b, v, e1, e2, e3, e4, e5⟩
      · exact .inl h1
      · have hb : blk q.a = some b := by rw [e1]; rfl
        have hn := hne q (List.mem_append.2 (.inl hq)) b hb
        refine .inr ⟨b, v, e1, ?_, sq q hq b hb, e4, by rw [hR2 b hn.1]; exact e5⟩
        simp only [memK, cnd]
        split
        · rename_i e; exact absurd (eqn_true e) hn.2
        · rfl
  · intro qs' R2' h'
    have new : ∀ q ∈ qs', ∀ b, blk q.a = some b → inK b l = false ∧ b ≠ r ∧ Hc b = none ∧ sans qs (hp R l) b = none := fun q hq b hb => by
      rcases h'.at_ q hq with ⟨_, e1⟩ | ⟨b', v, e1, e2, e3, e4, e5⟩
      · rw [e1] at hb; cases hb
      · rw [e1] at hb; cases hb
        have hrr : b ≠ r := fun e => by rw [e] at e2; simp [memK, cnd, eqn_self] at e2
        have hi : inK b l = false := by
          cases hc : inK b l with
          | false => rfl
          | true =>
            obtain ⟨x, hx⟩ := hp_in_is (R := R) hc
            rw [sn b (fun q hq e => by have := (hne q (List.mem_append.2 (.inl hq)) b e).1; rw [hc] at this; cases this), hx] at e3
            cases e3
        refine ⟨hi, hrr, ?_, e3⟩
        cases hc : Hc b with
        | none => rfl
        | some x =>
          have hk := keepH b x hc
          rw [sn b hk.2, hR2 b hi, hk.1] at e3
          cases e3
    refine ⟨fun b => if inK b ((r, o) :: l) = true then R b else R2' b, ⟨fun b x hb => ?_, fun q hq => ?_, ?_⟩, fun o' => ?_, fun b hb hn => by simp only [if_pos hb]; exact hn⟩
    · have hk := keepH b x hb
      by_cases hi : inK b ((r, o) :: l) = true
      · simp only [if_pos hi]; exact hk.1
      · simp only [if_neg hi]
        exact h'.le b x (by rw [sn b hk.2, hR2 b (hcons' b hi).1]; exact hk.1)
    · rcases List.mem_append.1 hq with hq | hq
      · rcases h'.at_ q hq with h1 | ⟨b, v, e1, e2, e3, e4, e5⟩
        · exact .inl h1
        · have hn := new q hq b (by rw [e1]; rfl)
          refine .inr ⟨b, v, e1, ?_, hn.2.2.1, e4, by simp only [hcons b hn.1 hn.2.1]; exact e5⟩
          cases hc : memK b ks with
          | false => rfl
          | true =>
            have := preK_in hks hc
            simp only [inK, cnd] at this
            split at this
            · rename_i e; exact absurd (eqn_true e) hn.2.1
            · rw [hn.1] at this; cases this
      · have hq' := List.mem_append.2 (.inr hq : q ∈ qs ∨ q ∈ ps)
        rcases h.at_ q hq' with h1 | ⟨b, v, e1, e2, e3, e4, e5⟩
        · exact .inl h1
        · have hb : blk q.a = some b := by rw [e1]; rfl
          have hi := (hne q hq' b hb).1
          refine .inr ⟨b, v, e1, e2, e3, e4, ?_⟩
          simp only [hcons b hi (hne q hq' b hb).2]
          exact h'.le b _ (by rw [sn b (fun q' hq'' e => hap.2.2 q' hq'' q hq b e hb), hR2 b hi]; exact e5)
    · rw [List.pairwise_append]
      refine ⟨h'.ap, hap.2.1, fun a ha b hb c hc hcb => ?_⟩
      have hb' := List.mem_append.2 (.inr hb : b ∈ qs ∨ b ∈ ps)
      have hn := new a ha c hc
      obtain ⟨x, hx⟩ := (out b hb' c hcb).2.2
      rw [sn c (fun q' hq'' e => hap.2.2 q' hq'' b hb c e hcb), hR2 c hn.1, hx] at hn
      cases hn.2.2.2
    · funext k
      rw [hp_at, hp_at]
      simp only [hp_nil_at, cnd, hid]
      split
      · rfl
      · rename_i er
        have hkr : k ≠ r := fun e' => er (by rw [e']; exact eqn_self)
        by_cases hi : inK k l = true
        · obtain ⟨x, hx⟩ := hp_in_is (R := R) hi
          have := h'.le k x (by rw [sn k (fun q hq e => by have := (hne q (List.mem_append.2 (.inl hq)) k e).1; rw [hi] at this; cases this)]; exact hx)
          rw [this, ← hx]; exact hp_in_any hi
        · rw [hp_not (by simpa using hi)]; simp only [hcons k (by simpa using hi) hkr]; rfl
theorem AccN.weak {H H' R : Heap} {ks : List Nat} {ps : List Pc} (h : AccN H' ks ps R) (hl : LeH H H') : AccN H ks ps R :=
  ⟨hl.trans h.le, fun p hp => (h.at_ p hp).imp id fun ⟨b, v, e1, e2, e3, e4, e5⟩ => ⟨b, v, e1, e2, hl.free e3, e4, e5⟩, h.ap⟩
/-- A row of ours is frozen, and stays where it is. -/
theorem AccN.frozen {H R : Heap} {ks : List Nat} {pre post : List Pc} {p : Pc} {b : Nat} {v : Value} (h : AccN H ks (pre ++ p :: post) R) (ha : p.a = .own b v) :
    H b = Option.none ∧ R b = some (.arr p.E p.sz v p.xs) ∧ AccN (upd H b (.frz v p.xs)) ks (pre ++ post) (upd R b (.frz v p.xs)) := by
  rcases h.mid with ⟨_, e⟩ | ⟨b', v', e, h1, h2, h3, h4⟩
  · rw [ha] at e; cases e
  · rw [ha] at e; cases e
    have w := h.without
    refine ⟨h2, h4, fun k o hk => ?_, fun q hq => ?_, w.ap⟩
    · by_cases e : k = b
      · subst e; simpa [upd] using hk
      · rw [upd_ne _ _ e] at hk ⊢; exact h.le k o hk
    · rcases w.at_ q hq with h5 | ⟨c, u, e1, e2, e3, e4, e5⟩
      · exact .inl h5
      · have hne : c ≠ b := fun e => h.pair hq c (by rw [e1]; rfl) (by rw [ha, e]; rfl)
        exact .inr ⟨c, u, e1, e2, by rw [upd_ne _ _ hne]; exact e3, e4, by rw [upd_ne _ _ hne]; exact e5⟩
/-- A new row is one of ours. -/
theorem row_new2 {H R : Heap} {r : Nat} {o : AObj} {qs : List Pc} {E : TypeId} {sz : Nat} {xs : List D} {b : Nat} {v : Value} {K : A → Heap → Prop} (h : AccN H [r] qs R) (ho : off R [(r, o)] b) (hv : v.ownBlock = some b)
    (hK : ∀ a R', AccN H [r] (⟨E, sz, xs, a⟩ :: qs) R' → K a (hp R' [(r, o)])) : K (.own b v) (hp R [(r, o), (b, .arr E sz v xs)]) := by
  have hin := off_in ho
  have e : hp R [(r, o), (b, .arr E sz v xs)] = hp (upd R b (.arr E sz v xs)) [(r, o)] := by
    rw [hp_base hin, setL_off ho]; rfl
  rw [e]
  refine hK _ _ (h.new ?_ (off_base ho) hv)
  simp only [inK, cnd, memK] at hin ⊢
  exact hin
theorem AccN.rot {H R : Heap} {ks : List Nat} {xs ys : List Pc} (h : AccN H ks (xs ++ ys) R) : AccN H ks (ys ++ xs) R := by
  have hap := h.ap
  rw [List.pairwise_append] at hap
  refine ⟨h.le, fun p hp => h.at_ p (by simpa [or_comm] using hp), ?_⟩
  rw [List.pairwise_append]
  exact ⟨hap.2.1, hap.1, fun a ha b hb => (hap.2.2 b hb a ha).symm⟩
/-- A row is let go; its block can still be read. -/
theorem AccN.deepF {H R : Heap} {ks : List Nat} {pre post : List Pc} {p : Pc} {l : List (Nat × AObj)} {K : D → Heap → Prop} (h : AccN H ks (pre ++ p :: post) R) (hl : okK ks R l)
    (hK : ∀ H' R', LeH H H' → AccN H' ks (pre ++ post) R' → ((p.xs = [] ∧ p.a = .nils) ∨ ∃ b v, p.a = .own b v ∧ H' b = some (.frz v p.xs) ∧ inK b l = false) → (∀ k, inK k l = true → R k = Option.none → R' k = Option.none) → K (.slice p.xs) (hp R' l)) : deepK (hp R l) p.a K := by
  have hmid := h.mid
  rcases hmid with ⟨e1, e2⟩ | ⟨b, v, e1, h1, h2, h3, h4⟩
  · rw [e2]
    have := hK H R (.refl _) h.without (.inl ⟨e1, e2⟩) fun _ _ h => h
    rw [e1] at this
    exact this
  · have hb := h.out hl e1
    have hf := h.frozen e1
    rw [e1]
    have hH : hp R l b = some (.arr p.E p.sz v p.xs) := by rw [hp_not hb]; exact h4
    have := hK _ _ (fun k o hk => by
      rw [upd_ne _ _ (fun e => by rw [e, h2] at hk; cases hk)]; exact hk) hf.2.2 (.inr ⟨b, v, e1, by simp [upd], hb⟩) (fun k hk hn => upd_eq_none.2 ⟨fun e => (by rw [e, hb] at hk; cases hk), hn⟩)
    simp only [deepK, hH, true_and]
    rw [upd_hp_out hb]
    exact this
/-- None of these blocks. -/
def offB (b : Nat) : List (Nat × AObj) → Prop
  | [] => True
  | (k, _) :: l => eqn b k = false ∧ eqn k b = false ∧ offB b l
@[go_sem] theorem offB_nil {b : Nat} : offB b [] = True := Eq.trans rfl rfl
@[go_sem] theorem offB_cons {b k : Nat} {o : AObj} {l : List (Nat × AObj)} : offB b ((k, o) :: l) = (eqn b k = false ∧ eqn k b = false ∧ offB b l) := Eq.trans rfl rfl
theorem inK_off {b : Nat} : ∀ {l : List (Nat × AObj)}, inK b l = false → offB b l
  | [], _ => trivial
  | (k, o) :: l, h => by
    simp only [inK, cnd] at h
    split at h
    · cases h
    · rename_i e
      have e' : eqn b k = false := by simpa using e
      exact ⟨e', eqn_ne (eqn_false e').symm, inK_off h⟩
end Go.Aug
