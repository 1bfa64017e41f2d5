/- The abstract layer: abstract values and heaps, what code does to them, the conditions of its operations as equations; no conditions of its own. -/
import Derived.Test.YtckdiafomldepaaDoorAugFour
import Derived.Defers
import Derived.DefersIn
import Derived.RecoverIn
import Derived.Below
set_option linter.all false
set_option linter.unusedVariables false
set_option linter.unusedSimpArgs false
set_option linter.unusedSectionVars false

/-
  The abstract layer, heaps said by a list over another heap: what is known of a frame's blocks is a list, in the order in which they were made.
-/
namespace Go.Aug
/-- A heap by its list over another; the first entry counts. -/
def hp (R : Heap) : List (Nat × AObj) → Heap
  | [] => R
  | (b, o) :: l => upd (hp R l) b o
def setL (b : Nat) (o : AObj) : List (Nat × AObj) → List (Nat × AObj)
  | [] => [(b, o)]
  | (k, x) :: l => cnd (eqn b k) ((k, o) :: l) ((k, x) :: setL b o l)
def delL (b : Nat) : List (Nat × AObj) → List (Nat × AObj)
  | [] => []
  | (k, x) :: l => cnd (eqn b k) (delL b l) ((k, x) :: delL b l)
/-- A block that is none of these, nor one of the heap below. -/
def off (R : Heap) : List (Nat × AObj) → Nat → Prop
  | [], b => R b = none
  | (k, _) :: l, b => eqn b k = false ∧ eqn k b = false ∧ off R l b
def subL (H : Heap) : List (Nat × AObj) → Prop
  | [] => True
  | (b, o) :: l => H b = some o ∧ subL H l
def inK (b : Nat) : List (Nat × AObj) → Bool
  | [] => false
  | (k, _) :: l => cnd (eqn b k) true (inK b l)
def offR (R : Heap) (l1 : List (Nat × AObj)) : List (Nat × AObj) → Prop
  | [] => True
  | (b, _) :: l => (inK b l1 = true ∨ R b = none) ∧ offR R l1 l
section
variable {R : Heap} {l l1 l2 : List (Nat × AObj)} {b k : Nat} {o x : AObj}
@[go_sem] theorem hp_nil_at : hp R [] k = R k := Eq.trans rfl rfl
@[go_sem] theorem hp_at : hp R ((b, o) :: l) k = cnd (eqn k b) (some o) (hid (hp R l k) ⟨⟩) := upd_at
@[go_sem] theorem setL_nil : setL b o [] = [(b, o)] := Eq.trans rfl rfl
@[go_sem] theorem setL_cons : setL b o ((k, x) :: l) = cnd (eqn b k) ((k, o) :: l) (hid ((k, x) :: setL b o l) ⟨⟩) := Eq.trans rfl rfl
@[go_sem] theorem delL_nil : delL b [] = [] := Eq.trans rfl rfl
@[go_sem] theorem delL_cons : delL b ((k, x) :: l) = cnd (eqn b k) (delL b l) (hid ((k, x) :: delL b l) ⟨⟩) := Eq.trans rfl rfl
@[go_sem] theorem inK_nil : inK b [] = false := Eq.trans rfl rfl
@[go_sem] theorem inK_cons : inK b ((k, x) :: l) = cnd (eqn b k) true (hid (inK b l) ⟨⟩) := Eq.trans rfl rfl
@[go_sem] theorem off_nil : off R [] b = (R b = none) := Eq.trans rfl rfl
@[go_sem] theorem off_cons : off R ((k, x) :: l) b = (eqn b k = false ∧ eqn k b = false ∧ off R l b) := Eq.trans rfl rfl
@[go_sem] theorem subL_nil {H : Heap} : subL H [] = True := Eq.trans rfl rfl
@[go_sem] theorem subL_cons {H : Heap} : subL H ((b, o) :: l) = (H b = some o ∧ subL H l) := Eq.trans rfl rfl
@[go_sem] theorem offR_nil : offR R l1 [] = True := Eq.trans rfl rfl
@[go_sem] theorem offR_cons : offR R l1 ((b, o) :: l) = ((inK b l1 = true ∨ R b = none) ∧ offR R l1 l) := Eq.trans rfl rfl
theorem eqn_true {a b : Nat} (h : eqn a b = true) : a = b := by simpa [eqn] using h
theorem eqn_false {a b : Nat} (h : eqn a b = false) : a ≠ b := by simpa [eqn] using h
@[go_sem] theorem upd_hp : upd (hp R l) b o = hp R (setL b o l) := by
  induction l with
  | nil => rfl
  | cons p l ih =>
    obtain ⟨k, x⟩ := p
    simp only [setL, hp, cnd]
    split
    · rename_i h
      have := eqn_true h; subst this
      funext j; simp only [hp, upd]; split <;> rfl
    · rename_i h
      rw [hp, ← ih]
      funext j
      have hne : b ≠ k := fun e => h (by simp [eqn, e])
      simp only [upd]
      split <;> split <;> simp_all
/-- With R b = none. -/
@[go_sem] theorem del_hp (h : R b = none) : del (hp R l) b = hp R (delL b l) := by
  induction l with
  | nil => funext j; simp only [delL, hp, del]; split <;> simp_all
  | cons p l ih =>
    obtain ⟨k, x⟩ := p
    simp only [delL, hp, cnd]
    split
    · rename_i h'
      have := eqn_true h'; subst this
      rw [← ih]
      funext j; simp only [del, upd]; split <;> simp_all
    · rename_i h'
      rw [hp, ← ih]
      have hne : b ≠ k := fun e => h' (by simp [eqn, e])
      funext j
      simp only [upd, del]
      split <;> split <;> simp_all
theorem off_of : ∀ {l : List (Nat × AObj)}, hp R l b = none → off R l b
  | [], h => h
  | (k, x) :: l, h => by
    have h1 := upd_eq_none.1 h
    exact ⟨eqn_ne h1.1, eqn_ne (Ne.symm h1.1), off_of h1.2⟩
theorem off_none : ∀ {l : List (Nat × AObj)}, off R l b → hp R l b = none
  | [], h => h
  | (k, x) :: l, h => upd_eq_none.2 ⟨eqn_false h.1, off_none h.2.2⟩
theorem newK_hp {f : Nat → Prop} {lk : Lk f} (h : ∀ b, off R l b → f b) : newK (hp R l) (hid f lk) := fun b hb => h b (off_of hb)
theorem newV_hp {f : Nat → Value → Prop} {lk : Lk f} (h : ∀ b v, off R l b → v.ownBlock = some b → f b v) : newV (hp R l) (hid f lk) := fun b v hb hv => h b v (off_of hb) hv
theorem growV_hp {b0 : Nat} {f : Nat → Value → Prop} {lk : Lk f} (h0 : off R (delL b0 l) b0) (hR : R b0 = none) (h : ∀ b v, off R (delL b0 l) b → v.ownBlock = some b → f b v) : growV (hp R l) b0 (hid f lk) := fun b v hb hv => by
  refine h b v ?_ hv
  rcases hb with rfl | hb
  · exact h0
  · refine off_of ?_
    rw [← del_hp hR]
    exact del_eq_none.2 (.inr hb)
theorem hp_not : ∀ {l : List (Nat × AObj)}, inK b l = false → hp R l b = R b
  | [], _ => rfl
  | (k, x) :: l, h => by
    simp only [inK, cnd] at h
    split at h
    · cases h
    · rename_i e
      have hne : b ≠ k := fun e' => e (by simp [eqn, e'])
      simp only [hp, upd, if_neg hne]
      exact hp_not h
theorem hp_sub {H : Heap} : ∀ {l : List (Nat × AObj)}, subL H l → inK b l = true → hp R l b = some o → H b = some o
  | [], _, h, _ => by cases h
  | (k, x) :: l, hs, h, hg => by
    by_cases e : b = k
    · subst e
      simp only [hp, upd, if_true] at hg
      rw [← hg]; exact hs.1
    · simp only [hp, upd, if_neg e] at hg
      simp only [inK, cnd, eqn_ne e, Bool.false_eq_true, if_false] at h
      exact hp_sub hs.2 h hg
theorem offR_in : ∀ {l : List (Nat × AObj)}, offR R l1 l → inK b l = true → inK b l1 = true ∨ R b = none
  | [], _, h => by cases h
  | (k, x) :: l, ho, h => by
    simp only [inK, cnd] at h
    split at h
    · rename_i e; have := eqn_true e; subst this; exact ho.1
    · exact offR_in ho.2 h
theorem leH_hp (h1 : subL (hp R l2) l1) (h2 : offR R l1 l2) : LeH (hp R l1) (hp R l2) := by
  intro j o hj
  cases h : inK j l1 with
  | true => exact hp_sub h1 h hj
  | false =>
    rw [hp_not h] at hj
    cases h' : inK j l2 with
    | true =>
      rcases offR_in h2 h' with h3 | h3
      · rw [h] at h3; cases h3
      · rw [h3] at hj; cases hj
    | false => rw [hp_not h']; exact hj
/-- What is known of a heap, said as a list. -/
theorem hp_one (h : R b = some o) : hp R [(b, o)] = R := by
  funext j; simp only [hp, upd]; split <;> simp_all
theorem ACall.hp_in {P : Program} {V : Env} {f : FuncId} {args : List A} {K : A → Heap → Prop} (h : R b = some o) (k : ACall P V f args (hp R [(b, o)]) K) : ACall P V f args R K := by rw [hp_one h] at k; exact k
theorem ACall.hp_start {P : Program} {V : Env} {f : FuncId} {args : List A} {K : A → Heap → Prop} (k : ACall P V f args (hp R []) K) : ACall P V f args R K := k
theorem leH_hp0 (h : offR R [] l) : LeH R (hp R l) := leH_hp (l1 := []) trivial h
end
theorem leH_hp2 {R R' : Heap} {l1 l2 : List (Nat × AObj)} (h0 : LeH R R') (h1 : subL (hp R' l2) l1) (h2 : offR R l1 l2) : LeH (hp R l1) (hp R' l2) := by
  intro j o hj
  cases h : inK j l1 with
  | true => exact hp_sub h1 h hj
  | false =>
    rw [hp_not h] at hj
    cases h' : inK j l2 with
    | true =>
      rcases offR_in h2 h' with h3 | h3
      · rw [h] at h3; cases h3
      · rw [h3] at hj; cases hj
    | false => rw [hp_not h']; exact h0 j o hj
/-- One of these keys. -/
def memK (k : Nat) : List Nat → Bool
  | [] => false
  | j :: l => cnd (eqn k j) true (memK k l)
/-- Each block of the list is a key, or not one of the heap below. -/
def okK (ks : List Nat) (R : Heap) : List (Nat × AObj) → Prop
  | [] => True
  | (k, _) :: l => (memK k ks = true ∨ R k = none) ∧ okK ks R l
@[go_sem] theorem memK_nil {k : Nat} : memK k [] = false := Eq.trans rfl rfl
@[go_sem] theorem memK_cons {k j : Nat} {l : List Nat} : memK k (j :: l) = cnd (eqn k j) true (hid (memK k l) ⟨⟩) := Eq.trans rfl rfl
@[go_sem] theorem okK_nil {ks : List Nat} {R : Heap} : okK ks R [] = True := Eq.trans rfl rfl
@[go_sem] theorem okK_cons {ks : List Nat} {R : Heap} {k : Nat} {o : AObj} {l : List (Nat × AObj)} : okK ks R ((k, o) :: l) = ((memK k ks = true ∨ R k = none) ∧ okK ks R l) := Eq.trans rfl rfl
theorem okK_in {ks : List Nat} {R : Heap} {b : Nat} : ∀ {l : List (Nat × AObj)}, okK ks R l → inK b l = true → memK b ks = true ∨ R b = none
  | [], _, h => by cases h
  | (k, x) :: l, ho, h => by
    simp only [inK, cnd] at h
    split at h
    · rename_i e; have := eqn_true e; subst this; exact ho.1
    · exact okK_in ho.2 h
theorem off_in {R : Heap} {b : Nat} : ∀ {l : List (Nat × AObj)}, off R l b → inK b l = false
  | [], _ => rfl
  | (k, x) :: l, h => by simp only [inK, cnd, h.1, Bool.false_eq_true, if_false]; exact off_in h.2.2
theorem off_base {R : Heap} {b : Nat} : ∀ {l : List (Nat × AObj)}, off R l b → R b = none
  | [], h => h
  | (_, _) :: _, h => off_base h.2.2
theorem upd_hp_out {R : Heap} {b : Nat} {o : AObj} : ∀ {l : List (Nat × AObj)}, inK b l = false → upd (hp R l) b o = hp (upd R b o) l
  | [], _ => rfl
  | (k, x) :: l, h => by
    simp only [inK, cnd] at h
    split at h
    · cases h
    · rename_i e
      have hne : b ≠ k := fun e' => e (by simp [eqn, e'])
      simp only [hp]
      rw [← upd_hp_out h, upd_comm (Ne.symm hne)]
theorem del_hp_out {R : Heap} {b : Nat} : ∀ {l : List (Nat × AObj)}, inK b l = false → del (hp R l) b = hp (del R b) l
  | [], _ => rfl
  | (k, x) :: l, h => by
    simp only [inK, cnd] at h
    split at h
    · cases h
    · rename_i e
      have hne : b ≠ k := fun e' => e (by simp [eqn, e'])
      simp only [hp]
      rw [← del_hp_out h]
      funext j; simp only [del, upd]; split <;> split <;> simp_all
theorem hp_base {R : Heap} {b : Nat} {o : AObj} {l : List (Nat × AObj)} (h : inK b l = false) : hp (upd R b o) l = hp R (setL b o l) := by rw [← upd_hp_out h, upd_hp]
theorem aMark_intro {H : Heap} {b : Nat} {v : Value} {E : TypeId} {sz : Nat} {ds : List D} {K : A → Heap → Prop} (h : H b = some (.arr E sz v ds)) (k : K (.own b v) (upd H b (.frz v ds))) : aMark (.own b v) H K := by
  simp only [aMark, h]; exact ⟨trivial, k⟩
/-- The keys are the first ones of the list. -/
def preK : List Nat → List (Nat × AObj) → Prop
  | [], _ => True
  | k :: ks, (j, _) :: l => k = j ∧ preK ks l
  | _ :: _, [] => False
@[go_sem] theorem preK_nil {l : List (Nat × AObj)} : preK [] l = True := by simp [preK]
@[go_sem] theorem preK_cons {k j : Nat} {o : AObj} {ks : List Nat} {l : List (Nat × AObj)} : preK (k :: ks) ((j, o) :: l) = (k = j ∧ preK ks l) := Eq.trans rfl rfl
theorem preK_in {b : Nat} : ∀ {ks : List Nat} {l : List (Nat × AObj)}, preK ks l → memK b ks = true → inK b l = true
  | [], _, _, h => by cases h
  | k :: ks, [], hp, _ => hp.elim
  | k :: ks, (j, o) :: l, hp, h => by
    obtain ⟨rfl, hp⟩ := hp
    simp only [memK, inK, cnd] at h ⊢
    split
    · rfl
    · rename_i e; rw [if_neg e] at h; exact preK_in hp h
/-- A row that grows, nil at first, in the heap R' over R; ks: the keys that it is not one of. -/
def Acc (R : Heap) (ks : List Nat) (E : TypeId) (sz : Nat) (xs : List D) (a : A) (R' : Heap) : Prop :=
  LeH R R' ∧ ((xs = [] ∧ a = .nils) ∨ ∃ b v, a = .own b v ∧ memK b ks = false ∧ R b = none ∧ v.ownBlock = some b ∧ R' b = some (.arr E sz v xs))
section
variable {R R' : Heap} {ks : List Nat} {E : TypeId} {sz : Nat} {xs : List D} {a : A} {l : List (Nat × AObj)}
theorem Acc.nils (R : Heap) (ks : List Nat) (E : TypeId) (sz : Nat) : Acc R ks E sz [] .nils R := ⟨.refl _, .inl ⟨rfl, rfl⟩⟩
theorem Acc.new {b : Nat} {v : Value} (h1 : memK b ks = false) (h2 : R b = none) (h3 : v.ownBlock = some b) : Acc R ks E sz xs (.own b v) (upd R b (.arr E sz v xs)) :=
  ⟨leH_upd h2 (.refl R), .inr ⟨b, v, rfl, h1, h2, h3, upd_same ..⟩⟩
theorem Acc.le (h : Acc R ks E sz xs a R') : LeH R R' := h.1
theorem Acc.allD (h : Acc R ks E sz xs a R') {t : List A} : allD (a :: t) = none := by
  rcases h.2 with ⟨_, rfl⟩ | ⟨b, v, rfl, _⟩ <;> rfl
theorem Acc.one (h : Acc R ks E sz xs a R') : a.good = true ∧ a.cells = [a] := by
  rcases h.2 with ⟨_, rfl⟩ | ⟨b, v, rfl, _⟩ <;> exact ⟨rfl, rfl⟩
theorem Acc.out (h : Acc R ks E sz xs a R') (hl : okK ks R' l) {b : Nat} {v : Value} (ha : a = .own b v) : inK b l = false := by
  rcases h.2 with ⟨_, rfl⟩ | ⟨b', v', rfl, h1, h2, h3, h4⟩
  · cases ha
  · cases ha
    cases hb : inK b l with
    | false => rfl
    | true =>
      rcases okK_in hl hb with h5 | h5
      · rw [h1] at h5; cases h5
      · rw [h4] at h5; cases h5
theorem Acc.appTo {ns : List D} {by_ : Nat} {K : A → Heap → Prop} (h : Acc R ks E sz xs a R') (hl : okK ks R' l) (hks : preK ks l) (hsz : (xs.length + ns.length) * by_ ≤ 140737488355328)
    (hK : ∀ a' R'', Acc R ks E sz (xs ++ ns) a' R'' → (∀ k, inK k l = true → R' k = none → R'' k = none) → K a' (hp R'' l)) : appTo a ns E sz by_ (hp R' l) K := by
  have hm : ∀ {b}, inK b l = false → memK b ks = false := fun {b} hb => by
    cases hc : memK b ks with
    | false => rfl
    | true => rw [preK_in hks hc] at hb; cases hb
  have hout := fun b v (e : a = .own b v) => h.out hl e
  obtain ⟨hle, ⟨rfl, rfl⟩ | ⟨b, v, rfl, h1, h2, hv, hH⟩⟩ := h
  · refine appTo_nils' (by simpa using hsz) ?_ ?_
    · rintro rfl; exact hK _ _ ⟨hle, .inl ⟨rfl, rfl⟩⟩ fun _ _ h => h
    · intro _ b v hb hv
      have ho := off_of hb
      rw [upd_hp_out (off_in ho)]
      refine hK _ _ ⟨hle.up (off_base ho), .inr ⟨b, v, rfl, hm (off_in ho), hle.free (off_base ho), hv, by simp [upd]⟩⟩ fun k hk hn => ?_
      refine upd_eq_none.2 ⟨?_, hn⟩
      rintro rfl; rw [off_in ho] at hk; cases hk
  · have hb0 := hout b v rfl
    simp only [Go.Aug.appTo, hp_not hb0, hH, true_and]
    refine ⟨hsz, ?_⟩
    intro b' v' hb' hv'
    have hin : inK b' l = false ∧ R b' = none := by
      rcases hb' with rfl | hb'
      · exact ⟨hb0, h2⟩
      · exact ⟨off_in (off_of hb'), hle.free (off_base (off_of hb'))⟩
    rw [del_hp_out hb0, upd_hp_out hin.1]
    refine hK _ _ ⟨leH_upd hin.2 (leH_del h2 hle), .inr ⟨b', v', rfl, hm hin.1, hin.2, hv', by simp [upd]⟩⟩ fun k hk hn => ?_
    refine upd_eq_none.2 ⟨?_, del_eq_none.2 (.inr hn)⟩
    intro e; rw [e, hin.1] at hk; cases hk
/-- The row, let go. -/
theorem Acc.deep {K : D → Heap → Prop} (h : Acc R ks E sz xs a R') (hl : okK ks R' l) (hK : ∀ R'', LeH R R'' → (∀ k, R' k = none → R'' k = none) → K (.slice xs) (hp R'' l)) : deepK (hp R' l) a K := by
  have hout := fun b v (e : a = .own b v) => h.out hl e
  obtain ⟨hle, ⟨rfl, rfl⟩ | ⟨b, v, rfl, h1, h2, hv, hH⟩⟩ := h
  · simp only [deepK_nils]; exact hK _ hle fun _ h => h
  · simp only [deepK, hp_not (hout b v rfl), hH, true_and]
    rw [upd_hp_out (hout b v rfl)]
    exact hK _ (leH_upd h2 hle) fun k hk => upd_eq_none.2 ⟨fun e => (by rw [e, hH] at hk; cases hk), hk⟩
theorem Acc.len {K : A → Prop} (h : Acc R ks E sz xs a R') (hl : okK ks R' l) : aLen a (hp R' l) K = K (.d (.int .i64 xs.length)) := by
  have hout := fun b v (e : a = .own b v) => h.out hl e
  obtain ⟨hle, ⟨rfl, rfl⟩ | ⟨b, v, rfl, h1, h2, hv, hH⟩⟩ := h
  · simp [aLen]
  · simp only [aLen, hp_not (hout b v rfl), hH, true_and]
theorem Acc.lenable {P : Program} {t : TypeId} (h : Acc R ks E sz xs a R') (ht : isSliceT P t = true) : lenable P t a = true := by
  rcases h.2 with ⟨_, rfl⟩ | ⟨b, v, rfl, _⟩
  · rw [lenable_nils, ht]
  · rw [lenable_own, ht]
end
theorem hpS : type_of% @hp_at ∧ type_of% @hp_nil_at ∧ type_of% @setL_cons ∧ type_of% @setL_nil ∧ type_of% @delL_cons ∧ type_of% @delL_nil ∧ type_of% @inK_cons ∧ type_of% @inK_nil ∧ type_of% @off_cons ∧ type_of% @off_nil ∧ type_of% @subL_cons ∧ type_of% @subL_nil ∧ type_of% @offR_cons ∧ type_of% @offR_nil ∧ type_of% @okK_cons ∧ type_of% @okK_nil ∧ type_of% @memK_cons ∧ type_of% @memK_nil ∧ type_of% @preK_cons ∧ type_of% @preK_nil ∧ type_of% @eqn_self ∧ type_of% @cnd_true ∧ type_of% @cnd_false ∧ type_of% @true_or ∧ type_of% @or_true ∧ type_of% @and_true ∧ type_of% @true_and ∧ type_of% @and_self := ⟨@hp_at, @hp_nil_at, @setL_cons, @setL_nil, @delL_cons, @delL_nil, @inK_cons, @inK_nil, @off_cons, @off_nil, @subL_cons, @subL_nil, @offR_cons, @offR_nil, @okK_cons, @okK_nil, @memK_cons, @memK_nil, @preK_cons, @preK_nil, @eqn_self, @cnd_true, @cnd_false, @true_or, @or_true, @and_true, @true_and, @and_self⟩
end Go.Aug

/-
  The abstract layer, part X: what is handed back out of a variable. (LiveT has these lines, too: never both in one claim.)
-/
namespace Go.Aug
def resD : Option AObj → Nat → Option (Bool × Nat) → Option A
  | some (.var cs), off, some (true, n) => if off + n ≤ cs.length then some (aggN ((cs.drop off).take n)) else none
  | some (.var cs), off, some (false, _) => cs[off]?
  | _, _, _ => none
def resC : A → Heap → Option (Bool × Nat) → Option A
  | .ref b off, H, s => resD (H b) off s
  | _, _, _ => none
@[go_sem] theorem resOf_cell {P : Program} {V : Env} {N : Nat} {F : Nat → A} {H : Heap} {a : Nat} {t : TypeId} : resOf P V N F H (.cell a t) = resC (ev V N F (.tmp a)) H (tshape P t) := by
  simp only [resOf]
  generalize ev V N F (.tmp a) = x
  cases x with
  | ref b off =>
    simp only [resC]
    generalize H b = o
    cases o with
    | none => rfl
    | some o =>
      cases o with
      | var cs =>
        cases tshape P t with
        | none => rfl
        | some s => obtain ⟨g, n⟩ := s; cases g <;> rfl
      | _ => rfl
  | _ => rfl
@[go_sem] theorem resC_ref {b off : Nat} {H : Heap} {s : Option (Bool × Nat)} : resC (.ref b off) H s = resD (H b) off s := Eq.trans rfl rfl
@[go_sem] theorem resD_agg {cs : List A} {off n : Nat} (h : off + n ≤ cs.length) : resD (some (.var cs)) off (some (true, n)) = some (aggN ((cs.drop off).take n)) := if_pos h
@[go_sem] theorem resD_one {cs : List A} {off n : Nat} : resD (some (.var cs)) off (some (false, n)) = cs[off]? := Eq.trans rfl rfl

/-- A row that grows: its elements' type and size, what it holds, its value. -/
structure Pc where
  E : TypeId
  sz : Nat
  xs : List D
  a : A
section
variable {H R : Heap} {ks : List Nat} {ps pre post : List Pc} {p : Pc} {l : List (Nat × AObj)}
end
theorem leH_hp02 {H R : Heap} {l : List (Nat × AObj)} (h0 : LeH H R) (h2 : offR H [] l) : LeH H (hp R l) := leH_hp2 (l1 := []) h0 trivial h2
end Go.Aug

/-
  The abstract layer: calls whose world behind is known to be no other below; functions that defer one closure.
-/
namespace Go.Aug
open Go.RowKit
section
variable {P : Program} {V : Env} {N : Nat} {Z : Nat → Prop} {H : Heap} {w w' : World}
theorem Mem.below (m : Mem V Z H w) (b : Below w.heap.size w w') : Mem V Z H w' ∧ Ext Z H w Z H w' := by
  have k : Keeps Z w Z w' := ⟨b.size, fun i hi _ => b.block i hi, fun _ _ h h' => h h'⟩
  refine ⟨⟨fun i o ho => (m.heap i o ho).keep k fun hw => ⟨m.own i ⟨o, ho, hw⟩, b.block i (m.lt i o ho)⟩, fun i hi => Nat.lt_of_lt_of_le (m.zlt i hi) b.size, m.env.keep k, fun i o ho => Nat.lt_of_lt_of_le (m.lt i o ho) b.size⟩, ?_⟩
  exact ⟨b.os, b.tape, b.output, b.size, fun i hi _ => b.block i hi, fun i hi => .inl hi, fun i hi _ => hi, fun i hi => .inl hi⟩
/-- A closure that, where the frame below returns, does nothing that is seen. -/
def IdleD (P : Program) (k : Nat) (g : FuncId) : Prop := ∀ (cv : Array Value) (w : World), cv.size = k → CallsDIn (roundF none) 0 P g cv .returning w fun e u w' => e = .returned (.tuple #[]) ∧ u = .returning ∧ Below w.heap.size w w'
theorem toS_seq {plans : Nat → Plan} {keeps : Nat → Option (List Nat)} {c : Code} {x y : SCode} (h : toS plans keeps c = .seq x y) : ∃ a b, c = .seq a b ∧ toS plans keeps a = x ∧ toS plans keeps b = y := by
  cases c with
  | seq a b => simp only [toS, SCode.seq.injEq] at h; exact ⟨a, b, rfl, h.1, h.2⟩
  | region id ops g => cases g <;> simp [toS] at h
  | _ => simp [toS] at h
theorem toS_reg {plans : Nat → Plan} {keeps : Nat → Option (List Nat)} {c : Code} {k : Option (List Nat)} {l : List SOper} (h : toS plans keeps c = .reg k l) : ∃ id ops, c = .region id ops false ∧ ops.toList.map (short ops) = l := by
  cases c with
  | region id ops g =>
    cases g with
    | false => simp only [toS, SCode.reg.injEq] at h; exact ⟨id, ops, rfl, h.2⟩
    | true => simp [toS] at h
  | seq a b => simp [toS] at h
  | _ => simp [toS] at h
theorem St.defer {ds : Df} {F : Nat → A} {a : Act} (s : St V N ds Z F H a w) (d : Deferred) : St V N ⟨d :: a.defers, w.heap.size⟩ Z F H { a with defers := d :: a.defers } w :=
  ⟨.none _ (Nat.le_refl _), s.size, s.slots, s.mem⟩
/-- The stretch that makes the closure and defers it. -/
theorem wp_defer {ds : Df} {F : Nat → A} {a : Act} {id g s : Nat} {ops : Array Oper} {caps : Array Operand} {Q : Exit → Act → World → Prop} (st : St V N ds Z F H a w) (hs : s < N)
    (ho : ops.toList.map (short ops) = [{ dst := some s, gd := none, op := .makeFunc (.func g) #[] caps }, { dst := none, gd := none, op := .defer { callee := .value (.tmp s), args := #[], argTypes := #[] } }])
    (hq : ∀ a' cv, cv.size = caps.size → (∃ l : List Value, cv = l.toArray ∧ l.length = (caps.toList.map (ev V N F)).length ∧ ∀ j (h : j < l.length) (h' : j < (caps.toList.map (ev V N F)).length), RepA V w Z l[j] (caps.toList.map (ev V N F))[j]) → St V N ⟨{ target := .fn (.func g) cv, args := #[] } :: a.defers, w.heap.size⟩ Z (updF F s (.func g (caps.toList.map (ev V N F)))) H a' w → Q .normal a' w) : (Code.region id ops false).wp P Q a w := by
  obtain ⟨l⟩ := ops
  match l, ho with
  | [o1, o2], ho =>
    simp only [List.map_cons, List.map_nil, List.cons.injEq, and_true, short, SOper.mk.injEq] at ho
    obtain ⟨⟨h1, h2, h3⟩, h4, h5, h6⟩ := ho
    have g1 : o1.guard = none := by simpa using h2
    have g2 : o2.guard = none := by simpa using h5
    refine wp_region ?_
    have hr : List.range (#[o1, o2] : Array Oper).size = [0, 1] := rfl
    have e0 : (#[o1, o2] : Array Oper)[0]? = some o1 := rfl
    have e1 : (#[o1, o2] : Array Oper)[1]? = some o2 := rfl
    rw [hr]
    have w1 : ∀ y, Region.wanted o1 y = true := fun y => by unfold Region.wanted; rw [g1]
    have w2 : ∀ y, Region.wanted o2 y = true := fun y => by unfold Region.wanted; rw [g2]
    simp only [wpOps, e0, e1, w1, w2, if_true]
    left
    have hl := ev_list st caps.toList
    have rf : RepA V w Z (.func (.func g) #[] (caps.toList.map a.eval).toArray) (.func g (caps.toList.map (ev V N F))) := .func g _ _ hl.1 hl.2
    have k := st.mem.keeps (Ext.refl Z H w)
    have s1 := st.put (o := some s) k st.mem rf
    have hx1 : (execOp a.eval o1).run P w = .ok (.value (.func (.func g) #[] (caps.toList.map a.eval).toArray)) w := by
      have : caps.map a.eval = (caps.toList.map a.eval).toArray := by cases caps; simp
      unfold execOp
      rw [h3]
      simp [Instr.makeFunc, this]
    unfold Oper.wp
    rw [hx1, Oper.upon_value]
    rw [h1]
    left
    have ev1 : (a.put (some s) (.func (.func g) #[] (caps.toList.map a.eval).toArray)).eval (.tmp s) = .func (.func g) #[] (caps.toList.map a.eval).toArray := by
      have hsz : s < a.tmps.size := by rw [st.size]; exact hs
      simp [Act.put, Act.eval, hsz]
    have hx : (execOp (a.put (some s) (.func (.func g) #[] (caps.toList.map a.eval).toArray)).eval o2).run P w = .ok (.defer { target := .fn (.func g) (caps.toList.map a.eval).toArray, args := #[] }) w := by
      unfold execOp
      rw [h6]
      simp [resolve, ev1, Deferred.ofValue]
    rw [hx, Oper.upon_defer, h4]
    exact hq _ _ (by simp) ⟨_, rfl, hl.1, hl.2⟩ (s1.defer _)
  | [], ho => simp at ho
  | [_], ho => simp at ho
  | _ :: _ :: _ :: _, ho => simp at ho
/-- A function that returns: what it has deferred runs, its marks are shut. -/
theorem St.ends {fn : Func} {ls : List Deferred} {B : Nat} {a' : Act} {F : Nat → A} {K : A → Heap → Prop} {w0 : World} {Z0 : Nat → Prop} {H0 : Heap} (m0 : Mem V Z0 H0 w0) (st : St V fn.ntmps ⟨ls, B⟩ Z F H a' w)
    (q : match resAll P V fn.ntmps F H fn.results.toList with | some rs => retW V (tupled rs) H K | none => False)
    (hds : (ls = [] ∧ B = w0.heap.size ∧ Ext Z0 H0 w0 Z H w) ∨ ∃ g cv l3 Z3 H3 w3, IdleD P cv.size g ∧ (∀ w1, (invoke (.fn (.func g) cv) #[]).run P w1 = .ok (.enter g cv) w1) ∧ ls = { target := .fn (.func g) cv, args := #[] } :: l3 ∧
      Marked V.M w0.heap.size Z3 w3 l3 [] ∧ B = w3.heap.size ∧ Mem V Z3 H3 w3 ∧ Ext Z0 H0 w0 Z3 H3 w3 ∧ Ext Z3 H3 w3 Z H w) :
    LeavesInM (roundF none) 0 P fn a'.tmps (fun e w' => ∃ v r Z' H', e = .returned v ∧ RepA V w' Z' v r ∧ Mem V Z' H' w' ∧ Ext Z0 H0 w0 Z' H' w' ∧ K r H') a'.defers .returning w := by
  split at q
  · rename_i rs hrs
    have fin : ∀ w2, (∀ i, i < fn.ntmps → RepA V w2 Z (a'.tmps.getD i undef) (F i)) → Mem V Z H w2 → Ext Z0 H0 w0 Z H w2 → LeavesInM (roundF none) 0 P fn a'.tmps (fun e w' => ∃ v r Z' H', e = .returned v ∧ RepA V w' Z' v r ∧ Mem V Z' H' w' ∧ Ext Z0 H0 w0 Z' H' w' ∧ K r H') [] .returning w2 := by
      intro w2 hs m2 x2
      have s2 : St V fn.ntmps ⟨a'.defers, 0⟩ Z F H a' w2 := ⟨.none _ (Nat.zero_le _), st.size, hs, m2⟩
      obtain ⟨v, hv, rv⟩ := results_sound s2 hrs
      obtain ⟨r', Z3, H3, r3, m3, x3, hK⟩ := q Z w2 v rv m2
      exact ⟨v, hv, v, r', Z3, H3, rfl, r3, m3, x2.trans m0.zlt x3, hK⟩
    rcases hds with ⟨rfl, rfl, x⟩ | ⟨g, cv, l3, Z3, H3, w3, idle, hi, rfl, ⟨h0, ms, h1, h2, h3⟩, rfl, m3, x3, x⟩
    · exact st.marks (by simp) fun w2 s2 hx => fin w2 s2.slots s2.mem (hx (Nat.le_refl _) x)
    · refine st.marks (by simp) fun w2 s2 hx => ?_
      have x2 := hx (Nat.le_refl _) x
      refine ⟨by simp, .inr ⟨fun h => (by cases h), .func g, cv, g, cv, rfl, hi w2, fun _ _ => trivial, (idle cv w2 rfl).mono ?_⟩⟩
      rintro e u w4 ⟨rfl, rfl, hb⟩
      obtain ⟨m4, x4⟩ := s2.mem.below hb
      have k4 := s2.mem.keeps x4
      rw [h1]
      refine leaves_marks (by simp [settle]) ms h2 (fun D hD => ?_) fun w5 k hk => ?_
      · obtain ⟨d1, d2, d3, d4, d5⟩ := h3 D hD
        have hno : ¬ Own H3 D := fun o => d2 (m3.own D o)
        have e2 : w2.heap[D]? = w3.heap[D]? := x2.block D d3 hno
        have l2 : D < w2.heap.size := Nat.lt_of_lt_of_le d3 x2.size
        exact ⟨Nat.lt_of_lt_of_le l2 hb.size, (hb.block D l2).trans (e2.trans d4)⟩
      · refine fin w5 (fun i hi => ((s2.slots i hi).keep k4).shut k) (m4.shut k fun b o hM => hk b fun hm => ?_) ?_
        · rw [(h3 b hm).2.2.2.2] at hM; cases hM
        · have xx : Ext Z0 H0 w0 Z H w4 := (x3.trans m0.zlt x2).trans m0.zlt x4
          refine ⟨k.os.trans xx.os, k.tape.trans xx.tape, k.output.trans xx.output, by rw [k.size]; exact xx.size, fun b hb' ho => ?_, xx.znew, xx.zold, xx.own⟩
          rw [hk b (fun hm => by have : w0.heap.size ≤ b := (h3 b hm).1; omega)]
          exact xx.block b hb' ho
  · exact q.elim
/-- A call of a function that defers one closure, which is idle where the function returns. -/
theorem ACall.deferred {f g s : Nat} {rs : List ResultVar} {X1 X2 X3 X4 : SCode} {kk : Option (List Nat)} {caps : Array Operand} {args : List A} {K : A → Heap → Prop} (hm : P.follows .mixedOrders = true)
    (hf : FnIs P f N rs (.seq X1 (.seq X2 (.seq X3 (.seq (.reg kk [{ dst := some s, gd := none, op := .makeFunc (.func g) #[] caps }, { dst := none, gd := none, op := .defer { callee := .value (.tmp s), args := #[], argTypes := #[] } }]) X4)))))
    (hn : args.length ≤ N) (hs : s < N) (hi : ∀ cv w1, (invoke (.fn (.func g) cv) #[]).run P w1 = .ok (.enter g cv) w1) (idle : IdleD P caps.size g)
    (h : svc P V N (.seq X1 (.seq X2 X3)) (fun e F H => match e with
      | .normal => svc P V N X4 (sret P V N rs K) (updF F s (.func g (caps.toList.map (ev V N F)))) H
      | e => sret P V N rs K e F H) (argsF args) H) : ACall P V f args H K := by
  obtain ⟨fn, plans, keeps, c, h1, rfl, hrs, h4, h5, h6⟩ := hf
  obtain ⟨c1, r1, rfl, e1, h6⟩ := toS_seq h6
  obtain ⟨c2, r2, rfl, e2, h6⟩ := toS_seq h6
  obtain ⟨c3, r3, rfl, e3, h6⟩ := toS_seq h6
  obtain ⟨c4, c5, rfl, e4, e5⟩ := toS_seq h6
  obtain ⟨id, ops, rfl, e6⟩ := toS_reg e4
  simp only [codeOK, Bool.and_eq_true] at h5
  obtain ⟨k1, k2, k3, k4, k5⟩ := h5
  subst e1 e2 e3 e5
  have fq : ∀ {e : Exit} {F' : Nat → A} {H' : Heap}, sret P V fn.ntmps rs K e F' H' → (e = .normal ∨ e = .ret) ∧ (match resAll P V fn.ntmps F' H' fn.results.toList with | some rs => retW V (tupled rs) H' K | none => False) := by
    intro e F' H' q
    rw [hrs]
    cases e with
    | normal => exact ⟨.inl rfl, q⟩
    | ret => exact ⟨.inr rfl, q⟩
    | _ => exact q.elim
  intro Z w cv hl hr m
  refine callsIn_roundF.1 (callsIn_of_wp_marks (F := roundF none) (n := 0) h1 h4 trivial ?_)
  have st := St.first hn hl hr m
  -- what stands behind the early pieces' other ways out
  have out : ∀ {ls : List Deferred} {B : Nat} {e : Exit} {F' : Nat → A} {H' : Heap} {Z' : Nat → Prop} {a' : Act} {w' : World}, St V fn.ntmps ⟨ls, B⟩ Z' F' H' a' w' →
      ((ls = [] ∧ B = w.heap.size ∧ Ext Z H w Z' H' w') ∨ ∃ g cv l3 Z3 H3 w3, IdleD P cv.size g ∧ (∀ w1, (invoke (.fn (.func g) cv) #[]).run P w1 = .ok (.enter g cv) w1) ∧ ls = { target := .fn (.func g) cv, args := #[] } :: l3 ∧
        Marked V.M w.heap.size Z3 w3 l3 [] ∧ B = w3.heap.size ∧ Mem V Z3 H3 w3 ∧ Ext Z H w Z3 H3 w3 ∧ Ext Z3 H3 w3 Z' H' w') →
      sret P V fn.ntmps rs K e F' H' → bodyPostM (roundF none) 0 P fn (fun e w' => ∃ v r Z' H', e = .returned v ∧ RepA V w' Z' v r ∧ Mem V Z' H' w' ∧ Ext Z H w Z' H' w' ∧ K r H') e a' w' := by
    intro ls B e F' H' Z' a' w' st' hds q
    obtain ⟨he, q2⟩ := fq q
    rcases he with rfl | rfl
    · exact st'.ends m q2 hds
    · exact st'.ends m q2 hds
  simp only [svc] at h
  refine wpIn_seq (wpIn_mono (svc_sound hm c1 k1 (.inl rfl) h _ Z _ w st) ?_)
  rintro e a1 w1 ⟨Z1, F1, H1, st1, x1, q⟩
  cases e with
  | normal =>
    refine wpIn_seq (wpIn_mono (svc_sound hm c2 k2 (.inl rfl) q _ Z1 _ w1 st1) ?_)
    rintro e a2 w2 ⟨Z2, F2, H2, st2, x2, q⟩
    have x12 := x1.trans m.zlt x2
    cases e with
    | normal =>
      refine wpIn_seq (wpIn_mono (svc_sound hm c3 k3 (.inl rfl) q _ Z2 _ w2 st2) ?_)
      rintro e a3 w3 ⟨Z3, F3, H3, st3, x3, q⟩
      have x13 := x12.trans m.zlt x3
      cases e with
      | normal =>
        refine wpIn_seq (wpIn_wide.2 (wp_defer st3 hs e6 ?_))
        intro a4 cv4 hcv4 _ st4
        refine wpIn_mono (svc_sound hm c5 k5 (.inl rfl) q _ Z3 a4 w3 st4) ?_
        rintro e a5 w5 ⟨Z5, F5, H5, st5, x5, q⟩
        exact out st5 (.inr ⟨g, cv4, a3.defers, Z3, H3, w3, by rw [hcv4]; exact idle, hi cv4, rfl, st3.defers, rfl, st3.mem, x13, x5⟩) q
      | ret => exact out (e := .ret) st3 (.inl ⟨rfl, rfl, x13⟩) q
      | _ => exact q.elim
    | ret => exact out (e := .ret) st2 (.inl ⟨rfl, rfl, x12⟩) q
    | _ => exact q.elim
  | ret => exact out (e := .ret) st1 (.inl ⟨rfl, rfl, x1⟩) q
  | _ => exact q.elim
/-- What a deferred closure does where the frame below panics: it recovers. -/
def RecD (P : Program) (V : Env) (g : FuncId) (caps : List A) (H : Heap) (v : Value) (H2 : Heap) : Prop := ∀ (Z : Nat → Prop) (w : World) (cv : List Value), cv.length = caps.length →
  (∀ j (h : j < cv.length) (h' : j < caps.length), RepA V w Z cv[j] caps[j]) → Mem V Z H w →
    CallsDIn (roundF none) 0 P g cv.toArray (.panicking [{ v, recovered := false }]) w fun e u w' => e = .returned (.tuple #[]) ∧ u = .panicking [{ v, recovered := true }] ∧ ∃ Z', Mem V Z' H2 w' ∧ Ext Z H w Z' H2 w'
/-- What stands behind the body of a function that recovers. -/
def sretR (P : Program) (V : Env) (N : Nat) (rs : List ResultVar) (g : FuncId) (caps : List A) (K : A → Heap → Prop) : Post
  | .panic [{ v, recovered := false, goexit := false }], F, H => ∃ H2, RecD P V g caps H v H2 ∧ (match resAll P V N F H2 rs with | some rs => retW V (tupled rs) H2 K | none => False)
  | e, F, H => sret P V N rs K e F H
/-- A function that panics, and is rescued by what it has deferred. -/
theorem St.rescued {fn : Func} {g : FuncId} {cv : List Value} {caps : List A} {l3 : List Deferred} {a' : Act} {F : Nat → A} {K : A → Heap → Prop} {w0 w3 : World} {Z0 Z3 : Nat → Prop} {H0 H3 H2 : Heap} {v : Value} (m0 : Mem V Z0 H0 w0)
    (st : St V fn.ntmps ⟨{ target := .fn (.func g) cv.toArray, args := #[] } :: l3, w3.heap.size⟩ Z F H a' w) (hi : ∀ cv w1, (invoke (.fn (.func g) cv) #[]).run P w1 = .ok (.enter g cv) w1)
    (hl : cv.length = caps.length) (hr : ∀ j (h : j < cv.length) (h' : j < caps.length), RepA V w3 Z3 cv[j] caps[j])
    (hm : Marked V.M w0.heap.size Z3 w3 l3 []) (m3 : Mem V Z3 H3 w3) (x3 : Ext Z0 H0 w0 Z3 H3 w3) (x : Ext Z3 H3 w3 Z H w)
    (rec : RecD P V g caps H v H2) (q : match resAll P V fn.ntmps F H2 fn.results.toList with | some rs => retW V (tupled rs) H2 K | none => False) :
    LeavesInM (roundF none) 0 P fn a'.tmps (fun e w' => ∃ v r Z' H', e = .returned v ∧ RepA V w' Z' v r ∧ Mem V Z' H' w' ∧ Ext Z0 H0 w0 Z' H' w' ∧ K r H') a'.defers (.panicking [{ v, recovered := false }]) w := by
  split at q
  · rename_i rs hrs
    obtain ⟨h0, ms, h1, h2, h3⟩ := hm
    refine st.marks (by simp) fun w2 s2 hx => ?_
    have x2 := hx (Nat.le_refl _) x
    have k32 := m3.keeps x2
    refine ⟨by simp, .inr ⟨fun h => (by cases h), .func g, cv.toArray, g, cv.toArray, rfl, hi _ w2, fun _ _ => trivial, (rec Z w2 cv hl (fun j h h' => (hr j h h').keep k32) s2.mem).mono ?_⟩⟩
    rintro e u w4 ⟨rfl, rfl, Z4, m4, x4⟩
    have k4 := s2.mem.keeps x4
    have hs : settle (.panicking [{ v, recovered := true }]) = .returning := rfl
    simp only [hs]
    rw [h1]
    refine leaves_marks (by simp) ms h2 (fun D hD => ?_) fun w5 k hk => ?_
    · obtain ⟨d1, d2, d3, d4, d5⟩ := h3 D hD
      have hno : ¬ Own H3 D := fun o => d2 (m3.own D o)
      have hno2 : ¬ Own H D := fun o => by rcases x2.own D o with h | h; exact hno h; omega
      have e2 : w2.heap[D]? = w3.heap[D]? := x2.block D d3 hno
      have l2 : D < w2.heap.size := Nat.lt_of_lt_of_le d3 x2.size
      exact ⟨Nat.lt_of_lt_of_le l2 x4.size, (x4.block D l2 hno2).trans (e2.trans d4)⟩
    · have m5 : Mem V Z4 H2 w5 := m4.shut k fun b o hM => hk b fun hm => by rw [(h3 b hm).2.2.2.2] at hM; cases hM
      have s5 : St V fn.ntmps ⟨a'.defers, 0⟩ Z4 F H2 a' w5 := ⟨.none _ (Nat.zero_le _), st.size, fun i hi => ((s2.slots i hi).keep k4).shut k, m5⟩
      have xx : Ext Z0 H0 w0 Z4 H2 w4 := (x3.trans m0.zlt x2).trans m0.zlt x4
      have x5 : Ext Z0 H0 w0 Z4 H2 w5 := by
        refine ⟨k.os.trans xx.os, k.tape.trans xx.tape, k.output.trans xx.output, by rw [k.size]; exact xx.size, fun b hb' ho => ?_, xx.znew, xx.zold, xx.own⟩
        rw [hk b (fun hm => by have : w0.heap.size ≤ b := (h3 b hm).1; omega)]
        exact xx.block b hb' ho
      obtain ⟨u, hu, ru⟩ := results_sound s5 hrs
      obtain ⟨r', Z6, H6, r6, m6, x6, hK⟩ := q Z4 w5 u ru m5
      exact ⟨u, hu, u, r', Z6, H6, rfl, r6, m6, x5.trans m0.zlt x6, hK⟩
  · exact q.elim
/-- A call of a function that defers one closure: it is idle where the function returns, and recovers where it panics. -/
theorem ACall.rescued {f g s : Nat} {rs : List ResultVar} {X1 X2 X3 X4 : SCode} {kk : Option (List Nat)} {caps : Array Operand} {args : List A} {K : A → Heap → Prop} (hm : P.follows .mixedOrders = true)
    (hf : FnIs P f N rs (.seq X1 (.seq X2 (.seq X3 (.seq (.reg kk [{ dst := some s, gd := none, op := .makeFunc (.func g) #[] caps }, { dst := none, gd := none, op := .defer { callee := .value (.tmp s), args := #[], argTypes := #[] } }]) X4)))))
    (hn : args.length ≤ N) (hs : s < N) (hi : ∀ cv w1, (invoke (.fn (.func g) cv) #[]).run P w1 = .ok (.enter g cv) w1) (idle : IdleD P caps.size g)
    (h : svc P V N (.seq X1 (.seq X2 X3)) (fun e F H => match e with
      | .normal => svc P V N X4 (sretR P V N rs g (caps.toList.map (ev V N F)) K) (updF F s (.func g (caps.toList.map (ev V N F)))) H
      | e => sret P V N rs K e F H) (argsF args) H) : ACall P V f args H K := by
  obtain ⟨fn, plans, keeps, c, h1, rfl, hrs, h4, h5, h6⟩ := hf
  obtain ⟨c1, r1, rfl, e1, h6⟩ := toS_seq h6
  obtain ⟨c2, r2, rfl, e2, h6⟩ := toS_seq h6
  obtain ⟨c3, r3, rfl, e3, h6⟩ := toS_seq h6
  obtain ⟨c4, c5, rfl, e4, e5⟩ := toS_seq h6
  obtain ⟨id, ops, rfl, e6⟩ := toS_reg e4
  simp only [codeOK, Bool.and_eq_true] at h5
  obtain ⟨k1, k2, k3, k4, k5⟩ := h5
  subst e1 e2 e3 e5
  have fq : ∀ {e : Exit} {F' : Nat → A} {H' : Heap}, sret P V fn.ntmps rs K e F' H' → (e = .normal ∨ e = .ret) ∧ (match resAll P V fn.ntmps F' H' fn.results.toList with | some rs => retW V (tupled rs) H' K | none => False) := by
    intro e F' H' q
    rw [hrs]
    cases e with
    | normal => exact ⟨.inl rfl, q⟩
    | ret => exact ⟨.inr rfl, q⟩
    | _ => exact q.elim
  intro Z w cv hl hr m
  refine callsIn_roundF.1 (callsIn_of_wp_marks (F := roundF none) (n := 0) h1 h4 trivial ?_)
  have st := St.first hn hl hr m
  -- what stands behind the early pieces' other ways out
  have out : ∀ {ls : List Deferred} {B : Nat} {e : Exit} {F' : Nat → A} {H' : Heap} {Z' : Nat → Prop} {a' : Act} {w' : World}, St V fn.ntmps ⟨ls, B⟩ Z' F' H' a' w' →
      ((ls = [] ∧ B = w.heap.size ∧ Ext Z H w Z' H' w') ∨ ∃ g cv l3 Z3 H3 w3, IdleD P cv.size g ∧ (∀ w1, (invoke (.fn (.func g) cv) #[]).run P w1 = .ok (.enter g cv) w1) ∧ ls = { target := .fn (.func g) cv, args := #[] } :: l3 ∧
        Marked V.M w.heap.size Z3 w3 l3 [] ∧ B = w3.heap.size ∧ Mem V Z3 H3 w3 ∧ Ext Z H w Z3 H3 w3 ∧ Ext Z3 H3 w3 Z' H' w') →
      sret P V fn.ntmps rs K e F' H' → bodyPostM (roundF none) 0 P fn (fun e w' => ∃ v r Z' H', e = .returned v ∧ RepA V w' Z' v r ∧ Mem V Z' H' w' ∧ Ext Z H w Z' H' w' ∧ K r H') e a' w' := by
    intro ls B e F' H' Z' a' w' st' hds q
    obtain ⟨he, q2⟩ := fq q
    rcases he with rfl | rfl
    · exact st'.ends m q2 hds
    · exact st'.ends m q2 hds
  simp only [svc] at h
  refine wpIn_seq (wpIn_mono (svc_sound hm c1 k1 (.inl rfl) h _ Z _ w st) ?_)
  rintro e a1 w1 ⟨Z1, F1, H1, st1, x1, q⟩
  cases e with
  | normal =>
    refine wpIn_seq (wpIn_mono (svc_sound hm c2 k2 (.inl rfl) q _ Z1 _ w1 st1) ?_)
    rintro e a2 w2 ⟨Z2, F2, H2, st2, x2, q⟩
    have x12 := x1.trans m.zlt x2
    cases e with
    | normal =>
      refine wpIn_seq (wpIn_mono (svc_sound hm c3 k3 (.inl rfl) q _ Z2 _ w2 st2) ?_)
      rintro e a3 w3 ⟨Z3, F3, H3, st3, x3, q⟩
      have x13 := x12.trans m.zlt x3
      cases e with
      | normal =>
        refine wpIn_seq (wpIn_wide.2 (wp_defer st3 hs e6 ?_))
        rintro a4 _ hcv4 ⟨cv4, rfl, hcl, hcr⟩ st4
        refine wpIn_mono (svc_sound hm c5 k5 (.inl rfl) q _ Z3 a4 w3 st4) ?_
        rintro e a5 w5 ⟨Z5, F5, H5, st5, x5, q⟩
        have fin : sret P V fn.ntmps rs K e F5 H5 → bodyPostM (roundF none) 0 P fn (fun e w' => ∃ v r Z' H', e = .returned v ∧ RepA V w' Z' v r ∧ Mem V Z' H' w' ∧ Ext Z H w Z' H' w' ∧ K r H') e a5 w5 := fun q =>
          out st5 (.inr ⟨g, cv4.toArray, a3.defers, Z3, H3, w3, by rw [hcv4]; exact idle, hi _, rfl, st3.defers, rfl, st3.mem, x13, x5⟩) q
        cases e with
        | panic ch =>
          unfold sretR at q
          split at q
          · rename_i e v hch
            cases hch
            obtain ⟨H6, rec, q⟩ := q
            rw [← hrs] at q
            exact st5.rescued m hi hcl hcr st3.defers st3.mem x13 x5 rec q
          · exact q.elim
        | _ => exact fin q
      | ret => exact out (e := .ret) st3 (.inl ⟨rfl, rfl, x13⟩) q
      | _ => exact q.elim
    | ret => exact out (e := .ret) st2 (.inl ⟨rfl, rfl, x12⟩) q
    | _ => exact q.elim
  | ret => exact out (e := .ret) st1 (.inl ⟨rfl, rfl, x1⟩) q
  | _ => exact q.elim
end
end Go.Aug
