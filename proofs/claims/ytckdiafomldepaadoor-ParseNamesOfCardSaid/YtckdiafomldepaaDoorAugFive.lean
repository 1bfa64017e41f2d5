/- The abstract layer: abstract values and heaps, what code does to them, the conditions of its operations as equations; no conditions of its own. -/
import Derived.Test.YtckdiafomldepaaDoorAugFour
set_option linter.all false
set_option linter.unusedVariables false
set_option linter.unusedSimpArgs false
set_option linter.unusedSectionVars false

/-
  The abstract layer, heaps said by a list over another heap: what is known of a frame's blocks is a list, in the order in which they were made.
-/
namespace Go.Aug
/-- A heap by its list over another; the first entry counts. -/
def hp (R : Heap) : List (Nat × AObj) → Heap
  | [] => R
  | (b, o) :: l => upd (hp R l) b o
def setL (b : Nat) (o : AObj) : List (Nat × AObj) → List (Nat × AObj)
  | [] => [(b, o)]
  | (k, x) :: l => cnd (eqn b k) ((k, o) :: l) ((k, x) :: setL b o l)
def delL (b : Nat) : List (Nat × AObj) → List (Nat × AObj)
  | [] => []
  | (k, x) :: l => cnd (eqn b k) (delL b l) ((k, x) :: delL b l)
/-- A block that is none of these, nor one of the heap below. -/
def off (R : Heap) : List (Nat × AObj) → Nat → Prop
  | [], b => R b = none
  | (k, _) :: l, b => eqn b k = false ∧ eqn k b = false ∧ off R l b
def subL (H : Heap) : List (Nat × AObj) → Prop
  | [] => True
  | (b, o) :: l => H b = some o ∧ subL H l
def inK (b : Nat) : List (Nat × AObj) → Bool
  | [] => false
  | (k, _) :: l => cnd (eqn b k) true (inK b l)
def offR (R : Heap) (l1 : List (Nat × AObj)) : List (Nat × AObj) → Prop
  | [] => True
  | (b, _) :: l => (inK b l1 = true ∨ R b = none) ∧ offR R l1 l
section
variable {R : Heap} {l l1 l2 : List (Nat × AObj)} {b k : Nat} {o x : AObj}
@[go_sem] theorem hp_nil_at : hp R [] k = R k := Eq.trans rfl rfl
@[go_sem] theorem hp_at : hp R ((b, o) :: l) k = cnd (eqn k b) (some o) (hid (hp R l k) ⟨⟩) := upd_at
@[go_sem] theorem setL_nil : setL b o [] = [(b, o)] := Eq.trans rfl rfl
@[go_sem] theorem setL_cons : setL b o ((k, x) :: l) = cnd (eqn b k) ((k, o) :: l) (hid ((k, x) :: setL b o l) ⟨⟩) := Eq.trans rfl rfl
@[go_sem] theorem delL_nil : delL b [] = [] := Eq.trans rfl rfl
@[go_sem] theorem delL_cons : delL b ((k, x) :: l) = cnd (eqn b k) (delL b l) (hid ((k, x) :: delL b l) ⟨⟩) := Eq.trans rfl rfl
@[go_sem] theorem inK_nil : inK b [] = false := Eq.trans rfl rfl
@[go_sem] theorem inK_cons : inK b ((k, x) :: l) = cnd (eqn b k) true (hid (inK b l) ⟨⟩) := Eq.trans rfl rfl
@[go_sem] theorem off_nil : off R [] b = (R b = none) := Eq.trans rfl rfl
@[go_sem] theorem off_cons : off R ((k, x) :: l) b = (eqn b k = false ∧ eqn k b = false ∧ off R l b) := Eq.trans rfl rfl
@[go_sem] theorem subL_nil {H : Heap} : subL H [] = True := Eq.trans rfl rfl
@[go_sem] theorem subL_cons {H : Heap} : subL H ((b, o) :: l) = (H b = some o ∧ subL H l) := Eq.trans rfl rfl
@[go_sem] theorem offR_nil : offR R l1 [] = True := Eq.trans rfl rfl
@[go_sem] theorem offR_cons : offR R l1 ((b, o) :: l) = ((inK b l1 = true ∨ R b = none) ∧ offR R l1 l) := Eq.trans rfl rfl
theorem eqn_true {a b : Nat} (h : eqn a b = true) : a = b := by simpa [eqn] using h
theorem eqn_false {a b : Nat} (h : eqn a b = false) : a ≠ b := by simpa [eqn] using h
@[go_sem] theorem upd_hp : upd (hp R l) b o = hp R (setL b o l) := by
  induction l with
  | nil => rfl
  | cons p l ih =>
    obtain ⟨k, x⟩ := p
    simp only [setL, hp, cnd]
    split
    · rename_i h
      have := eqn_true h; subst this
      funext j; simp only [hp, upd]; split <;> rfl
    · rename_i h
      rw [hp, ← ih]
      funext j
      have hne : b ≠ k := fun e => h (by simp [eqn, e])
      simp only [upd]
      split <;> split <;> simp_all
/-- With R b = none. -/
@[go_sem] theorem del_hp (h : R b = none) : del (hp R l) b = hp R (delL b l) := by
  induction l with
  | nil => funext j; simp only [delL, hp, del]; split <;> simp_all
  | cons p l ih =>
    obtain ⟨k, x⟩ := p
    simp only [delL, hp, cnd]
    split
    · rename_i h'
      have := eqn_true h'; subst this
      rw [← ih]
      funext j; simp only [del, upd]; split <;> simp_all
    · rename_i h'
      rw [hp, ← ih]
      have hne : b ≠ k := fun e => h' (by simp [eqn, e])
      funext j
      simp only [upd, del]
      split <;> split <;> simp_all
theorem off_of : ∀ {l : List (Nat × AObj)}, hp R l b = none → off R l b
  | [], h => h
  | (k, x) :: l, h => by
    have h1 := upd_eq_none.1 h
    exact ⟨eqn_ne h1.1, eqn_ne (Ne.symm h1.1), off_of h1.2⟩
theorem off_none : ∀ {l : List (Nat × AObj)}, off R l b → hp R l b = none
  | [], h => h
  | (k, x) :: l, h => upd_eq_none.2 ⟨eqn_false h.1, off_none h.2.2⟩
theorem newK_hp {f : Nat → Prop} {lk : Lk f} (h : ∀ b, off R l b → f b) : newK (hp R l) (hid f lk) := fun b hb => h b (off_of hb)
theorem newV_hp {f : Nat → Value → Prop} {lk : Lk f} (h : ∀ b v, off R l b → v.ownBlock = some b → f b v) : newV (hp R l) (hid f lk) := fun b v hb hv => h b v (off_of hb) hv
theorem growV_hp {b0 : Nat} {f : Nat → Value → Prop} {lk : Lk f} (h0 : off R (delL b0 l) b0) (hR : R b0 = none) (h : ∀ b v, off R (delL b0 l) b → v.ownBlock = some b → f b v) : growV (hp R l) b0 (hid f lk) := fun b v hb hv => by
  refine h b v ?_ hv
  rcases hb with rfl | hb
  · exact h0
  · refine off_of ?_
    rw [← del_hp hR]
    exact del_eq_none.2 (.inr hb)
theorem hp_not : ∀ {l : List (Nat × AObj)}, inK b l = false → hp R l b = R b
  | [], _ => rfl
  | (k, x) :: l, h => by
    simp only [inK, cnd] at h
    split at h
    · cases h
    · rename_i e
      have hne : b ≠ k := fun e' => e (by simp [eqn, e'])
      simp only [hp, upd, if_neg hne]
      exact hp_not h
theorem hp_sub {H : Heap} : ∀ {l : List (Nat × AObj)}, subL H l → inK b l = true → hp R l b = some o → H b = some o
  | [], _, h, _ => by cases h
  | (k, x) :: l, hs, h, hg => by
    by_cases e : b = k
    · subst e
      simp only [hp, upd, if_true] at hg
      rw [← hg]; exact hs.1
    · simp only [hp, upd, if_neg e] at hg
      simp only [inK, cnd, eqn_ne e, Bool.false_eq_true, if_false] at h
      exact hp_sub hs.2 h hg
theorem offR_in : ∀ {l : List (Nat × AObj)}, offR R l1 l → inK b l = true → inK b l1 = true ∨ R b = none
  | [], _, h => by cases h
  | (k, x) :: l, ho, h => by
    simp only [inK, cnd] at h
    split at h
    · rename_i e; have := eqn_true e; subst this; exact ho.1
    · exact offR_in ho.2 h
theorem leH_hp (h1 : subL (hp R l2) l1) (h2 : offR R l1 l2) : LeH (hp R l1) (hp R l2) := by
  intro j o hj
  cases h : inK j l1 with
  | true => exact hp_sub h1 h hj
  | false =>
    rw [hp_not h] at hj
    cases h' : inK j l2 with
    | true =>
      rcases offR_in h2 h' with h3 | h3
      · rw [h] at h3; cases h3
      · rw [h3] at hj; cases hj
    | false => rw [hp_not h']; exact hj
/-- What is known of a heap, said as a list. -/
theorem hp_one (h : R b = some o) : hp R [(b, o)] = R := by
  funext j; simp only [hp, upd]; split <;> simp_all
theorem ACall.hp_in {P : Program} {V : Env} {f : FuncId} {args : List A} {K : A → Heap → Prop} (h : R b = some o) (k : ACall P V f args (hp R [(b, o)]) K) : ACall P V f args R K := by rw [hp_one h] at k; exact k
theorem ACall.hp_start {P : Program} {V : Env} {f : FuncId} {args : List A} {K : A → Heap → Prop} (k : ACall P V f args (hp R []) K) : ACall P V f args R K := k
theorem leH_hp0 (h : offR R [] l) : LeH R (hp R l) := leH_hp (l1 := []) trivial h
end
theorem leH_hp2 {R R' : Heap} {l1 l2 : List (Nat × AObj)} (h0 : LeH R R') (h1 : subL (hp R' l2) l1) (h2 : offR R l1 l2) : LeH (hp R l1) (hp R' l2) := by
  intro j o hj
  cases h : inK j l1 with
  | true => exact hp_sub h1 h hj
  | false =>
    rw [hp_not h] at hj
    cases h' : inK j l2 with
    | true =>
      rcases offR_in h2 h' with h3 | h3
      · rw [h] at h3; cases h3
      · rw [h3] at hj; cases hj
    | false => rw [hp_not h']; exact h0 j o hj
/-- One of these keys. -/
def memK (k : Nat) : List Nat → Bool
  | [] => false
  | j :: l => cnd (eqn k j) true (memK k l)
/-- Each block of the list is a key, or not one of the heap below. -/
def okK (ks : List Nat) (R : Heap) : List (Nat × AObj) → Prop
  | [] => True
  | (k, _) :: l => (memK k ks = true ∨ R k = none) ∧ okK ks R l
@[go_sem] theorem memK_nil {k : Nat} : memK k [] = false := Eq.trans rfl rfl
@[go_sem] theorem memK_cons {k j : Nat} {l : List Nat} : memK k (j :: l) = cnd (eqn k j) true (hid (memK k l) ⟨⟩) := Eq.trans rfl rfl
@[go_sem] theorem okK_nil {ks : List Nat} {R : Heap} : okK ks R [] = True := Eq.trans rfl rfl
@[go_sem] theorem okK_cons {ks : List Nat} {R : Heap} {k : Nat} {o : AObj} {l : List (Nat × AObj)} : okK ks R ((k, o) :: l) = ((memK k ks = true ∨ R k = none) ∧ okK ks R l) := Eq.trans rfl rfl
theorem okK_in {ks : List Nat} {R : Heap} {b : Nat} : ∀ {l : List (Nat × AObj)}, okK ks R l → inK b l = true → memK b ks = true ∨ R b = none
  | [], _, h => by cases h
  | (k, x) :: l, ho, h => by
    simp only [inK, cnd] at h
    split at h
    · rename_i e; have := eqn_true e; subst this; exact ho.1
    · exact okK_in ho.2 h
theorem off_in {R : Heap} {b : Nat} : ∀ {l : List (Nat × AObj)}, off R l b → inK b l = false
  | [], _ => rfl
  | (k, x) :: l, h => by simp only [inK, cnd, h.1, Bool.false_eq_true, if_false]; exact off_in h.2.2
theorem off_base {R : Heap} {b : Nat} : ∀ {l : List (Nat × AObj)}, off R l b → R b = none
  | [], h => h
  | (_, _) :: _, h => off_base h.2.2
theorem upd_hp_out {R : Heap} {b : Nat} {o : AObj} : ∀ {l : List (Nat × AObj)}, inK b l = false → upd (hp R l) b o = hp (upd R b o) l
  | [], _ => rfl
  | (k, x) :: l, h => by
    simp only [inK, cnd] at h
    split at h
    · cases h
    · rename_i e
      have hne : b ≠ k := fun e' => e (by simp [eqn, e'])
      simp only [hp]
      rw [← upd_hp_out h, upd_comm (Ne.symm hne)]
theorem del_hp_out {R : Heap} {b : Nat} : ∀ {l : List (Nat × AObj)}, inK b l = false → del (hp R l) b = hp (del R b) l
  | [], _ => rfl
  | (k, x) :: l, h => by
    simp only [inK, cnd] at h
    split at h
    · cases h
    · rename_i e
      have hne : b ≠ k := fun e' => e (by simp [eqn, e'])
      simp only [hp]
      rw [← del_hp_out h]
      funext j; simp only [del, upd]; split <;> split <;> simp_all
theorem hp_base {R : Heap} {b : Nat} {o : AObj} {l : List (Nat × AObj)} (h : inK b l = false) : hp (upd R b o) l = hp R (setL b o l) := by rw [← upd_hp_out h, upd_hp]
theorem aMark_intro {H : Heap} {b : Nat} {v : Value} {E : TypeId} {sz : Nat} {ds : List D} {K : A → Heap → Prop} (h : H b = some (.arr E sz v ds)) (k : K (.own b v) (upd H b (.frz v ds))) : aMark (.own b v) H K := by
  simp only [aMark, h]; exact ⟨trivial, k⟩
/-- The keys are the first ones of the list. -/
def preK : List Nat → List (Nat × AObj) → Prop
  | [], _ => True
  | k :: ks, (j, _) :: l => k = j ∧ preK ks l
  | _ :: _, [] => False
@[go_sem] theorem preK_nil {l : List (Nat × AObj)} : preK [] l = True := by simp [preK]
@[go_sem] theorem preK_cons {k j : Nat} {o : AObj} {ks : List Nat} {l : List (Nat × AObj)} : preK (k :: ks) ((j, o) :: l) = (k = j ∧ preK ks l) := Eq.trans rfl rfl
theorem preK_in {b : Nat} : ∀ {ks : List Nat} {l : List (Nat × AObj)}, preK ks l → memK b ks = true → inK b l = true
  | [], _, _, h => by cases h
  | k :: ks, [], hp, _ => hp.elim
  | k :: ks, (j, o) :: l, hp, h => by
    obtain ⟨rfl, hp⟩ := hp
    simp only [memK, inK, cnd] at h ⊢
    split
    · rfl
    · rename_i e; rw [if_neg e] at h; exact preK_in hp h
/-- A row that grows, nil at first, in the heap R' over R; ks: the keys that it is not one of. -/
def Acc (R : Heap) (ks : List Nat) (E : TypeId) (sz : Nat) (xs : List D) (a : A) (R' : Heap) : Prop :=
  LeH R R' ∧ ((xs = [] ∧ a = .nils) ∨ ∃ b v, a = .own b v ∧ memK b ks = false ∧ R b = none ∧ v.ownBlock = some b ∧ R' b = some (.arr E sz v xs))
section
variable {R R' : Heap} {ks : List Nat} {E : TypeId} {sz : Nat} {xs : List D} {a : A} {l : List (Nat × AObj)}
theorem Acc.nils (R : Heap) (ks : List Nat) (E : TypeId) (sz : Nat) : Acc R ks E sz [] .nils R := ⟨.refl _, .inl ⟨rfl, rfl⟩⟩
theorem Acc.new {b : Nat} {v : Value} (h1 : memK b ks = false) (h2 : R b = none) (h3 : v.ownBlock = some b) : Acc R ks E sz xs (.own b v) (upd R b (.arr E sz v xs)) :=
  ⟨leH_upd h2 (.refl R), .inr ⟨b, v, rfl, h1, h2, h3, upd_same ..⟩⟩
theorem Acc.le (h : Acc R ks E sz xs a R') : LeH R R' := h.1
theorem Acc.allD (h : Acc R ks E sz xs a R') {t : List A} : allD (a :: t) = none := by
  rcases h.2 with ⟨_, rfl⟩ | ⟨b, v, rfl, _⟩ <;> rfl
theorem Acc.one (h : Acc R ks E sz xs a R') : a.good = true ∧ a.cells = [a] := by
  rcases h.2 with ⟨_, rfl⟩ | ⟨b, v, rfl, _⟩ <;> exact ⟨rfl, rfl⟩
theorem Acc.out (h : Acc R ks E sz xs a R') (hl : okK ks R' l) {b : Nat} {v : Value} (ha : a = .own b v) : inK b l = false := by
  rcases h.2 with ⟨_, rfl⟩ | ⟨b', v', rfl, h1, h2, h3, h4⟩
  · cases ha
  · cases ha
    cases hb : inK b l with
    | false => rfl
    | true =>
      rcases okK_in hl hb with h5 | h5
      · rw [h1] at h5; cases h5
      · rw [h4] at h5; cases h5
theorem Acc.appTo {ns : List D} {by_ : Nat} {K : A → Heap → Prop} (h : Acc R ks E sz xs a R') (hl : okK ks R' l) (hks : preK ks l) (hsz : (xs.length + ns.length) * by_ ≤ 140737488355328)
    (hK : ∀ a' R'', Acc R ks E sz (xs ++ ns) a' R'' → (∀ k, inK k l = true → R' k = none → R'' k = none) → K a' (hp R'' l)) : appTo a ns E sz by_ (hp R' l) K := by
  have hm : ∀ {b}, inK b l = false → memK b ks = false := fun {b} hb => by
    cases hc : memK b ks with
    | false => rfl
    | true => rw [preK_in hks hc] at hb; cases hb
  have hout := fun b v (e : a = .own b v) => h.out hl e
  obtain ⟨hle, ⟨rfl, rfl⟩ | ⟨b, v, rfl, h1, h2, hv, hH⟩⟩ := h
  · refine appTo_nils' (by simpa using hsz) ?_ ?_
    · rintro rfl; exact hK _ _ ⟨hle, .inl ⟨rfl, rfl⟩⟩ fun _ _ h => h
    · intro _ b v hb hv
      have ho := off_of hb
      rw [upd_hp_out (off_in ho)]
      refine hK _ _ ⟨hle.up (off_base ho), .inr ⟨b, v, rfl, hm (off_in ho), hle.free (off_base ho), hv, by simp [upd]⟩⟩ fun k hk hn => ?_
      refine upd_eq_none.2 ⟨?_, hn⟩
      rintro rfl; rw [off_in ho] at hk; cases hk
  · have hb0 := hout b v rfl
    simp only [Go.Aug.appTo, hp_not hb0, hH, true_and]
    refine ⟨hsz, ?_⟩
    intro b' v' hb' hv'
    have hin : inK b' l = false ∧ R b' = none := by
      rcases hb' with rfl | hb'
      · exact ⟨hb0, h2⟩
      · exact ⟨off_in (off_of hb'), hle.free (off_base (off_of hb'))⟩
    rw [del_hp_out hb0, upd_hp_out hin.1]
    refine hK _ _ ⟨leH_upd hin.2 (leH_del h2 hle), .inr ⟨b', v', rfl, hm hin.1, hin.2, hv', by simp [upd]⟩⟩ fun k hk hn => ?_
    refine upd_eq_none.2 ⟨?_, del_eq_none.2 (.inr hn)⟩
    intro e; rw [e, hin.1] at hk; cases hk
/-- The row, let go. -/
theorem Acc.deep {K : D → Heap → Prop} (h : Acc R ks E sz xs a R') (hl : okK ks R' l) (hK : ∀ R'', LeH R R'' → (∀ k, R' k = none → R'' k = none) → K (.slice xs) (hp R'' l)) : deepK (hp R' l) a K := by
  have hout := fun b v (e : a = .own b v) => h.out hl e
  obtain ⟨hle, ⟨rfl, rfl⟩ | ⟨b, v, rfl, h1, h2, hv, hH⟩⟩ := h
  · simp only [deepK_nils]; exact hK _ hle fun _ h => h
  · simp only [deepK, hp_not (hout b v rfl), hH, true_and]
    rw [upd_hp_out (hout b v rfl)]
    exact hK _ (leH_upd h2 hle) fun k hk => upd_eq_none.2 ⟨fun e => (by rw [e, hH] at hk; cases hk), hk⟩
theorem Acc.len {K : A → Prop} (h : Acc R ks E sz xs a R') (hl : okK ks R' l) : aLen a (hp R' l) K = K (.d (.int .i64 xs.length)) := by
  have hout := fun b v (e : a = .own b v) => h.out hl e
  obtain ⟨hle, ⟨rfl, rfl⟩ | ⟨b, v, rfl, h1, h2, hv, hH⟩⟩ := h
  · simp [aLen]
  · simp only [aLen, hp_not (hout b v rfl), hH, true_and]
theorem Acc.lenable {P : Program} {t : TypeId} (h : Acc R ks E sz xs a R') (ht : isSliceT P t = true) : lenable P t a = true := by
  rcases h.2 with ⟨_, rfl⟩ | ⟨b, v, rfl, _⟩
  · rw [lenable_nils, ht]
  · rw [lenable_own, ht]
end
theorem hpS : type_of% @hp_at ∧ type_of% @hp_nil_at ∧ type_of% @setL_cons ∧ type_of% @setL_nil ∧ type_of% @delL_cons ∧ type_of% @delL_nil ∧ type_of% @inK_cons ∧ type_of% @inK_nil ∧ type_of% @off_cons ∧ type_of% @off_nil ∧ type_of% @subL_cons ∧ type_of% @subL_nil ∧ type_of% @offR_cons ∧ type_of% @offR_nil ∧ type_of% @okK_cons ∧ type_of% @okK_nil ∧ type_of% @memK_cons ∧ type_of% @memK_nil ∧ type_of% @preK_cons ∧ type_of% @preK_nil ∧ type_of% @eqn_self ∧ type_of% @cnd_true ∧ type_of% @cnd_false ∧ type_of% @true_or ∧ type_of% @or_true ∧ type_of% @and_true ∧ type_of% @true_and ∧ type_of% @and_self := ⟨@hp_at, @hp_nil_at, @setL_cons, @setL_nil, @delL_cons, @delL_nil, @inK_cons, @inK_nil, @off_cons, @off_nil, @subL_cons, @subL_nil, @offR_cons, @offR_nil, @okK_cons, @okK_nil, @memK_cons, @memK_nil, @preK_cons, @preK_nil, @eqn_self, @cnd_true, @cnd_false, @true_or, @or_true, @and_true, @true_and, @and_self⟩
end Go.Aug

/-
  The abstract layer: several rows that grow, side by side.
-/
namespace Go.Aug
/-- A row that grows: its elements' type and size, what it holds, its value. -/
structure Pc where
  E : TypeId
  sz : Nat
  xs : List D
  a : A
section
variable {H R : Heap} {ks : List Nat} {ps pre post : List Pc} {p : Pc} {l : List (Nat × AObj)}
end
theorem leH_hp02 {H R : Heap} {l : List (Nat × AObj)} (h0 : LeH H R) (h2 : offR H [] l) : LeH H (hp R l) := leH_hp2 (l1 := []) h0 trivial h2
end Go.Aug
