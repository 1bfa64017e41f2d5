/- The contracts of the printers; conditions stand in each contract. -/
import Derived.Test.YthldjffimcngaaaGreatDoorReaderOne
import Derived.Test.YthldjffimcngaaaGreatDoorReaderTwo
import Derived.Test.YthldjffimcngaaaGreatDoorReaderFour
import Derived.Sort.Grow
import Derived.Test.YthldjffimcngaaaGreatDoorAugFour
set_option linter.all false
set_option linter.unusedVariables false
set_option linter.unusedSimpArgs false
set_option linter.unusedSectionVars false

/- strings.Join and strconv.Itoa, by the library's contracts. -/
namespace Go.Aug.Prn
open Go.Proofs Go.RowKit
set_option maxRecDepth 100000
variable {eb : EbG} {H : Heap} {K : A → Heap → Prop}
theorem itoa_ok [hm : TabM eb] (n : Int) (h0 : -9223372036854775808 ≤ n) (h1 : n ≤ 9223372036854775807) (hK : K (.d (.str ⟨(Lib.itoa n).toArray⟩)) H) : ACall Tryz.prog (seatV eb) 60 [.d (.int .i64 n)] H K := itoaP_ok H n h0 h1 K hK
theorem flat_strs (ws : List ByteArray) : flat (ws.map .str) = ws.map .str := by
 induction ws with
 | nil => rfl
 | cons x l ih => simp only [flat, List.map_cons, List.flatMap_cons] at ih ⊢; rw [ih]; rfl
theorem join_ok (ws : List ByteArray) (sep : ByteArray) (h1 : ws.length ≤ 140737488355328) (h2 : (Lib.join (ws.map (·.data.toList)) sep.data.toList).length ≤ 140737488355328)
  (hK : K (.d (.str ⟨(Lib.join (ws.map (·.data.toList)) sep.data.toList).toArray⟩)) H) : ACall Tryz.prog (seatV eb) 92 [.d (.slice (ws.map .str)), .d (.str sep)] H K := by
 intro Z w cv hl hr m
 match cv, hl with
 | [v, u], _ =>
  have r := (hr 0 (by simp) (by simp)).deep
  have r2 := (hr 1 (by simp) (by simp)).deep
  simp only [List.getElem_cons_zero, List.getElem_cons_succ] at r r2
  cases r2
  generalize he : ws.map D.str = es at r
  cases r with
  | empty a cap =>
   have : ws = [] := by simpa using he
   subst this
   refine (Tryz.strings_Join_none a cap sep w).mono ?_
   rintro e w' ⟨rfl, rfl⟩
   exact ⟨_, _, Z, H, rfl, .d _ _ (.str _), m, .refl .., hK⟩
  | slice b o cap _ sz cvs hk hz hb hs hc hone hrr =>
   subst he
   have hlen : (ws.map D.str).length = ws.length := by simp
   have hfl := flat_strs ws
   have hcells : ∀ (j : Nat) x, ws[j]? = some x → w.cell? ⟨b, o + j, none⟩ = some (.string x) := by
    intro j x hx
    obtain ⟨hj, rfl⟩ := List.getElem?_eq_some_iff.1 hx
    have hj' : j < (flat (ws.map D.str)).length := by rw [hfl]; simpa using hj
    have h3 := hrr j hj'
    have h4 : (flat (ws.map D.str))[j] = .str ws[j] := by simp [hfl]
    rw [h4] at h3
    rw [hc j hj']
    generalize cvs j = y at h3
    cases h3; rfl
   have key := Tryz.strings_Join b o cap ws sep w hcells hb h1 (by rw [← hlen]; exact hk) h2
   rw [hlen]
   refine key.mono ?_
   rintro e w' ⟨rfl, hbl⟩
   obtain ⟨m', x'⟩ := m.below hbl
   exact ⟨_, _, Z, H, rfl, .d _ _ (.str _), m', x', hK⟩
end Go.Aug.Prn

/- The reference's decimals are strconv's. -/
namespace Go.Aug.Prn
open Go.Proofs
set_option maxRecDepth 100000
set_option linter.unusedSimpArgs false
attribute [local irreducible] hid andK letA onSome onVar onArr arrOnly onInt onBool onTup idxA ldV ldD addO ofPart appTo fillL slA srcK nilQ retW gif sgd sguard svc sops sdops sagain aopO aLoad aStore aBin aUn aConv aLen aIndexAddr aIndex aIndexAddrS aIndexS aSlice aAppend aBuild aBuildSlice aMakeSlice aField aFieldOf aCallOp deepK deepL frzM putE newK newV growV ACall roundQ thenQ inBlockQ sret cnd szs nilC onRow aLookup aMapUpdate aMakeMap
variable {eb : EbG}
theorem wrap_in {n : Int} (h0 : -9223372036854775808 ≤ n) (h1 : n ≤ 9223372036854775807) : IntKind.i64.wrap n = n := by
 rw [IntKind.wrap_i64]; omega
theorem app_mk (a b : List UInt8) : (⟨a.toArray⟩ : ByteArray) ++ ⟨b.toArray⟩ = ⟨(a ++ b).toArray⟩ := by
 apply ByteArray.ext
 rw [ByteArray.data_append]
 simp
theorem le_none {H G : Heap} (h : LeH H G) {b : Nat} (hb : G b = none) : H b = none := by
 cases e : H b with
 | none => rfl
 | some o => have := h b o e; rw [hb] at this; cases this
end Go.Aug.Prn

/- Items, goals, terms and types as data, and their texts; no program. -/
namespace Go.Aug.Prn
open Go.Proofs
abbrev Str := List UInt8
abbrev S (l : Str) : D := .str ⟨l.toArray⟩
def InR (n : Int) : Prop := -9223372036854775808 ≤ n ∧ n ≤ 9223372036854775807
inductive Tm where
 | mk (kind : Int) (name : Str) (int : Int) (args : List Tm)
inductive Ty where
 | mk (var : Bool) (name : Str) (args : List Ty)
inductive Gl where
 | mk (kind : Int) (a b : Tm) (name : Str) (args : List Tm) (goals : List Gl)
mutual
def Tm.cs : Tm → List D
 | .mk k n i args => [.int .i64 k, S n, .int .i64 i, .slice (Tm.ds args)]
def Tm.ds : List Tm → List D
 | [] => []
 | t :: l => .agg t.cs :: Tm.ds l
end
def Tm.d (t : Tm) : D := .agg t.cs
mutual
def Ty.cs : Ty → List D
 | .mk v n args => [.bool v, S n, .slice (Ty.ds args)]
def Ty.ds : List Ty → List D
 | [] => []
 | t :: l => .agg t.cs :: Ty.ds l
end
def Ty.d (t : Ty) : D := .agg t.cs
mutual
def Gl.cs : Gl → List D
 | .mk k a b n args gs => .int .i64 k :: (a.cs ++ (b.cs ++ [S n, .slice (Tm.ds args), .slice (Gl.ds gs)]))
def Gl.ds : List Gl → List D
 | [] => []
 | t :: l => .agg t.cs :: Gl.ds l
end
def Gl.d (t : Gl) : D := .agg t.cs
theorem Tm.ds_map : ∀ l : List Tm, Tm.ds l = l.map Tm.d
 | [] => rfl
 | t :: l => by rw [Tm.ds, Tm.ds_map l]; rfl
theorem Ty.ds_map : ∀ l : List Ty, Ty.ds l = l.map Ty.d
 | [] => rfl
 | t :: l => by rw [Ty.ds, Ty.ds_map l]; rfl
theorem Gl.ds_map : ∀ l : List Gl, Gl.ds l = l.map Gl.d
 | [] => rfl
 | t :: l => by rw [Gl.ds, Gl.ds_map l]; rfl
structure Ct where
 name : Str
 args : List Ty
def Ct.cs (c : Ct) : List D := [S c.name, .slice (Ty.ds c.args)]
def Ct.d (c : Ct) : D := .agg c.cs
structure It where
 kind : Int
 name : Str
 vars : List Str
 ctors : List Ct
 types : List Ty
 ins : List Bool
 det : Int
 args : List Tm
 body : Gl
def It.cs (i : It) : List D := .int .i64 i.kind :: S i.name :: .slice (i.vars.map S) :: .slice (i.ctors.map Ct.d) :: .slice (Ty.ds i.types) :: .slice (i.ins.map .bool) :: .int .i64 i.det :: .slice (Tm.ds i.args) :: i.body.cs
def It.d (i : It) : D := .agg i.cs
def rowT (ws : List Str) : Str := match ws with
 | [] => []
 | w :: l => 40 :: (Lib.join (w :: l) [44, 32] ++ [41])
mutual
def Tm.t : Tm → Str
 | .mk k n i args => (if k = 2 then Lib.itoa i else n) ++ rowT (Tm.ts args)
def Tm.ts : List Tm → List Str
 | [] => []
 | t :: l => t.t :: Tm.ts l
end
mutual
def Ty.t : Ty → Str
 | .mk _ n args => n ++ rowT (Ty.ts args)
def Ty.ts : List Ty → List Str
 | [] => []
 | t :: l => t.t :: Ty.ts l
end
def Gl.kind : Gl → Int
 | .mk k .. => k
def loose (kind k : Int) : Bool := k == 6 || k == 5 && kind != 6
def brT (b : Bool) (s : Str) : Str := if b then 40 :: (s ++ [41]) else s
mutual
def Gl.t : Gl → Str
 | .mk k a b n args gs =>
  if k = 1 then [116, 114, 117, 101] else if k = 2 then [102, 97, 105, 108] else if k = 3 then a.t ++ [32, 61, 32] ++ b.t else if k = 4 then n ++ rowT (Tm.ts args)
  else if k = 5 then Lib.join (Gl.ws k gs) [44, 32] else if k = 6 then Lib.join (Gl.ws k gs) [32, 59, 32]
  else if k = 7 then [110, 111, 116, 32] ++ (Gl.ws k gs).getD 0 [] else if k = 8 then [116, 104, 114, 111, 119, 32] ++ a.t
  else if k = 9 then [116, 114, 121, 32] ++ (Gl.ws k gs).getD 0 [] ++ [32, 99, 97, 116, 99, 104, 32] ++ n ++ [32, 116, 104, 101, 110, 32] ++ (Gl.ws k gs).getD 1 [] else []
def Gl.ws : Int → List Gl → List Str
 | _, [] => []
 | k, g :: gs => brT (loose k g.kind) g.t :: Gl.ws k gs
end
theorem Tm.ts_map : ∀ l : List Tm, Tm.ts l = l.map Tm.t
 | [] => rfl
 | t :: l => by rw [Tm.ts, Tm.ts_map l]; rfl
theorem Ty.ts_map : ∀ l : List Ty, Ty.ts l = l.map Ty.t
 | [] => rfl
 | t :: l => by rw [Ty.ts, Ty.ts_map l]; rfl
def Gl.w (k : Int) (g : Gl) : Str := brT (loose k g.kind) g.t
theorem Gl.ws_map (k : Int) : ∀ l : List Gl, Gl.ws k l = l.map (Gl.w k)
 | [] => rfl
 | t :: l => by rw [Gl.ws, Gl.ws_map k l]; rfl
def detT (n : Int) : Str := if n = 1 then [100, 101, 116] else if n = 2 then [115, 101, 109, 105, 100, 101, 116] else if n = 3 then [109, 117, 108, 116, 105] else if n = 4 then [110, 111, 110, 100, 101, 116] else []
def wayT (b : Bool) : Str := if b then [105, 110] else [111, 117, 116]
def Ct.t (c : Ct) : Str := c.name ++ rowT (Ty.ts c.args)
def ctorsT (l : List Ct) : Str := Lib.join (l.map Ct.t) [32, 124, 32]
def It.t0 (i : It) : Str :=
 if i.kind = 1 then [116, 121, 112, 101, 32] ++ i.name ++ rowT i.vars ++ [32, 61, 32] ++ ctorsT i.ctors
 else if i.kind = 2 then [112, 114, 101, 100, 32] ++ i.name ++ rowT (Ty.ts i.types)
 else if i.kind = 3 then [109, 111, 100, 101, 32] ++ i.name ++ rowT (i.ins.map wayT) ++ [32, 105, 115, 32] ++ detT i.det
 else if i.kind = 4 then i.name ++ rowT (Tm.ts i.args) ++ (if i.body.kind = 1 then [] else [32, 58, 45, 32] ++ i.body.t)
 else []
def It.t (i : It) : Str := i.t0 ++ [46, 10]
mutual
def Tm.ok : Tm → Prop
 | .mk k _ i args => InR k ∧ InR i ∧ Tm.oks args
def Tm.oks : List Tm → Prop
 | [] => True
 | t :: l => t.ok ∧ Tm.oks l
end
mutual
def Gl.ok : Gl → Prop
 | .mk k a b _ args gs => InR k ∧ a.ok ∧ b.ok ∧ Tm.oks args ∧ Gl.oks gs
def Gl.oks : List Gl → Prop
 | [] => True
 | t :: l => t.ok ∧ Gl.oks l
end
theorem Tm.oks_mem : ∀ {l : List Tm}, Tm.oks l → ∀ t ∈ l, t.ok
 | t :: l, h, x, hx => by
  rcases List.mem_cons.1 hx with rfl | hx
  ·exact h.1
  ·exact Tm.oks_mem h.2 x hx
theorem Gl.oks_mem : ∀ {l : List Gl}, Gl.oks l → ∀ t ∈ l, t.ok
 | t :: l, h, x, hx => by
  rcases List.mem_cons.1 hx with rfl | hx
  ·exact h.1
  ·exact Gl.oks_mem h.2 x hx
def tot (ws : List Str) : Nat := (ws.map fun w => w.length + 4).sum
theorem join_len (ws : List Str) (sep : Str) (hs : sep.length ≤ 4) : (Lib.join ws sep).length ≤ tot ws := by
 cases ws with
 | nil => simp [Lib.join_nil, tot]
 | cons x r =>
  have := Lib.join_length x r sep
  rw [this]
  have h2 : ∀ r : List Str, sep.length * r.length + Lib.lens r ≤ tot r := by
   intro r
   induction r with
   | nil => simp [Lib.lens, tot]
   | cons y r ih =>
    simp only [tot, List.map_cons, List.sum_cons, Lib.lens, List.length_cons, Nat.mul_add] at ih ⊢
    omega
  have := h2 r
  simp only [tot, List.map_cons, List.sum_cons, Lib.lens] at this ⊢
  omega
theorem rowT_len (ws : List Str) : (rowT ws).length ≤ tot ws + 2 := by
 cases ws with
 | nil => simp [rowT]
 | cons w l =>
  have := join_len (w :: l) [44, 32] (by decide)
  simp only [rowT, List.length_cons, List.length_append, List.length_nil]
  omega
theorem tot_mem {ws : List Str} {w : Str} (h : w ∈ ws) : w.length + 4 ≤ tot ws := by
 induction ws with
 | nil => cases h
 | cons x l ih =>
  simp only [tot, List.map_cons, List.sum_cons] at ih ⊢
  rcases List.mem_cons.1 h with rfl | h
  ·omega
  ·have := ih h; omega
theorem size_mk' (a : Str) : ByteArray.size ⟨a.toArray⟩ = a.length := by simp [ByteArray.size]
theorem nd_le : ∀ (k u : Nat), u < 10 ^ (k + 1) → Lib.nDigits u ≤ k + 1
 | 0, u, h => by rw [Lib.nDigits_small (by simpa using h)]; exact Nat.le_refl _
 | k + 1, u, h => by
  by_cases hu : u < 10
  ·rw [Lib.nDigits_small hu]; omega
  ·rw [Lib.nDigits_big hu]
   have := nd_le k (u / 10) (by rw [Nat.pow_succ] at h; omega)
   omega
theorem itoa_len {n : Int} (h : InR n) : (Lib.itoa n).length ≤ 20 := by
 unfold InR at h
 unfold Lib.itoa
 split
 ·simp only [List.length_cons, Lib.decDigits_length]
  have := nd_le 18 n.natAbs (by omega)
  omega
 ·rw [Lib.decDigits_length]
  have := nd_le 18 n.toNat (by omega)
  omega
theorem take_snoc {α : Type} {l : List α} {k : Nat} {x : α} (h : l[k]? = some x) : l.take (k + 1) = l.take k ++ [x] := by
 rw [List.take_add_one, h]; rfl
mutual
theorem Tm.len : ∀ t : Tm, t.ok → t.t.length + 8 ≤ 24 * D.sizes t.cs
 | .mk k n i args, h => by
  have ha := Tm.lens args h.2.2
  have hr := rowT_len (Tm.ts args)
  have hi := h.2.1
  have hn : (if k = 2 then Lib.itoa i else n).length ≤ n.length + 20 := by
   split
   ·have := itoa_len hi; omega
   ·omega
  simp only [Tm.t, Tm.cs, D.sizes, D.size, size_mk', List.length_append] at *
  omega
theorem Tm.lens : ∀ l : List Tm, Tm.oks l → tot (Tm.ts l) ≤ 24 * D.sizes (Tm.ds l)
 | [], _ => by simp [Tm.ts, tot]
 | t :: l, h => by
  have h1 := Tm.len t h.1
  have h2 := Tm.lens l h.2
  simp only [Tm.ts, tot, List.map_cons, List.sum_cons, Tm.ds, D.sizes, D.size] at h2 ⊢
  omega
end
mutual
theorem Ty.len : ∀ t : Ty, t.t.length + 8 ≤ 24 * D.sizes t.cs
 | .mk v n args => by
  have ha := Ty.lens args
  have hr := rowT_len (Ty.ts args)
  simp only [Ty.t, Ty.cs, D.sizes, D.size, size_mk', List.length_append] at *
  omega
theorem Ty.lens : ∀ l : List Ty, tot (Ty.ts l) ≤ 24 * D.sizes (Ty.ds l)
 | [] => by simp [Ty.ts, tot]
 | t :: l => by
  have h1 := Ty.len t
  have h2 := Ty.lens l
  simp only [Ty.ts, tot, List.map_cons, List.sum_cons, Ty.ds, D.sizes, D.size] at h2 ⊢
  omega
end
theorem getD_len (ws : List Str) (i : Nat) : (ws.getD i []).length ≤ tot ws := by
 by_cases h : i < ws.length
 ·have : ws.getD i [] = ws[i] := by simp [List.getD, h]
  rw [this]
  have := tot_mem (List.getElem_mem h)
  omega
 ·simp [List.getD, h]
theorem getD2_len (ws : List Str) : (ws.getD 0 []).length + (ws.getD 1 []).length ≤ tot ws := by
 match ws with
 | [] => simp [tot]
 | [x] => simp [tot]
 | x :: y :: l => simp [tot]; omega
theorem brT_len (b : Bool) (s : Str) : (brT b s).length ≤ s.length + 2 := by
 unfold brT; split <;> simp
mutual
theorem Gl.len : ∀ g : Gl, g.ok → g.t.length + 8 ≤ 60 * D.sizes g.cs
 | .mk k a b n args gs, h => by
  have ha := a.len h.2.1
  have hb := b.len h.2.2.1
  have hr := rowT_len (Tm.ts args)
  have hl := Tm.lens args h.2.2.2.1
  have hg := Gl.lens gs h.2.2.2.2 k
  have g0 := getD_len (Gl.ws k gs) 0
  have g1 := getD2_len (Gl.ws k gs)
  have j1 := join_len (Gl.ws k gs) [44, 32] (by decide)
  have j2 := join_len (Gl.ws k gs) [32, 59, 32] (by decide)
  have e : D.sizes (Gl.cs (.mk k a b n args gs)) = 1 + (D.sizes a.cs + (D.sizes b.cs + (n.length + 1 + (D.sizes (Tm.ds args) + 1 + (D.sizes (Gl.ds gs) + 1))))) := by
   simp only [Gl.cs, D.sizes, D.sizes_append, D.size, size_mk']
  rw [e]
  unfold Gl.t
  repeat' split
  all_goals first
   | ((try simp only [List.length_append, List.length_cons, List.length_nil]); omega)
   | (subst_vars; (try simp only [List.length_append, List.length_cons, List.length_nil]); omega)
theorem Gl.lens : ∀ l : List Gl, Gl.oks l → ∀ k, tot (Gl.ws k l) ≤ 60 * D.sizes (Gl.ds l)
 | [], _, k => by simp [Gl.ws, tot]
 | t :: l, h, k => by
  have h1 := Gl.len t h.1
  have h2 := Gl.lens l h.2 k
  have h3 := brT_len (loose k t.kind) t.t
  simp only [Gl.ws, tot, List.map_cons, List.sum_cons, Gl.ds, D.sizes, D.size] at h2 ⊢
  omega
end
theorem Ct.lens : ∀ l : List Ct, tot (l.map Ct.t) ≤ 24 * D.sizes (l.map Ct.d)
 | [] => by simp [tot]
 | c :: l => by
  have h := Ct.lens l
  have h1 := Ty.lens c.args
  have h2 := rowT_len (Ty.ts c.args)
  simp only [tot, List.map_cons, List.sum_cons, D.sizes, Ct.d, Ct.cs, Ct.t, D.size, size_mk', List.length_append] at h ⊢
  omega
theorem strs_tot : ∀ l : List Str, tot l ≤ 24 * D.sizes (l.map S)
 | [] => by simp [tot]
 | c :: l => by
  have h := strs_tot l
  simp only [tot, List.map_cons, List.sum_cons, D.sizes, D.size, size_mk'] at h ⊢
  omega
theorem ways_tot : ∀ l : List Bool, tot (l.map wayT) ≤ 24 * D.sizes (l.map D.bool)
 | [] => by simp [tot]
 | c :: l => by
  have h := ways_tot l
  have : (wayT c).length ≤ 3 := by cases c <;> decide
  simp only [tot, List.map_cons, List.sum_cons, D.sizes, D.size] at h ⊢
  omega
theorem detT_len (n : Int) : (detT n).length ≤ 8 := by
 unfold detT
 repeat' split
 all_goals decide
def It.ok (i : It) : Prop := Tm.oks i.args ∧ i.body.ok
theorem It.len (i : It) (h : i.ok) : i.t.length ≤ 60 * D.sizes i.cs + 60 := by
 have hvt := strs_tot i.vars
 have hvr := rowT_len i.vars
 have hit := ways_tot i.ins
 have hir := rowT_len (i.ins.map wayT)
 have htt := Ty.lens i.types
 have htr := rowT_len (Ty.ts i.types)
 have hat := Tm.lens i.args h.1
 have har := rowT_len (Tm.ts i.args)
 have hct := Ct.lens i.ctors
 have hcj := join_len (i.ctors.map Ct.t) [32, 124, 32] (by decide)
 have hdl := detT_len i.det
 have hgl := Gl.len i.body h.2
 simp only [It.cs, D.sizes, D.size, size_mk', It.t, List.length_append]
 unfold It.t0 ctorsT
 split
 ·simp only [List.length_append, List.length_cons, List.length_nil]; omega
 ·split
  ·simp only [List.length_append, List.length_cons, List.length_nil]; omega
  ·split
   ·simp only [List.length_append, List.length_cons, List.length_nil]; omega
   ·split
    ·split
     ·simp only [List.length_append, List.length_cons, List.length_nil]; omega
     ·simp only [List.length_append, List.length_cons, List.length_nil]; omega
    ·simp only [List.length_nil, List.length_cons]; omega
end Go.Aug.Prn

/- print.args and the forms of terms and types. -/
namespace Go.Aug.Prn
open Go.Proofs
set_option maxRecDepth 100000
set_option linter.unusedSimpArgs false
attribute [local irreducible] hid andK letA onSome onVar onArr arrOnly onInt onBool onTup idxA ldV ldD addO ofPart appTo fillL slA srcK nilQ retW gif sgd sguard svc sops sdops sagain aopO aLoad aStore aBin aUn aConv aLen aIndexAddr aIndex aIndexAddrS aIndexS aSlice aAppend aBuild aBuildSlice aMakeSlice aField aFieldOf aCallOp deepK deepL frzM putE newK newV growV ACall roundQ thenQ inBlockQ sret cnd szs nilC onRow aLookup aMapUpdate aMakeMap
variable {eb : EbG}
def wsK {α : Type} (f : α → Str) (l : List α) (k : Nat) : List D := ((l.take k).map fun t => S (f t)) ++ List.replicate (l.length - k) (S [])
theorem wsK_len {α : Type} (f : α → Str) (l : List α) (k : Nat) (h : k ≤ l.length) : (wsK f l k).length = l.length := by
 simp [wsK]; omega
theorem wsK_at {α : Type} (f : α → Str) (l : List α) (k : Nat) (h : k < l.length) : (wsK f l k)[k]? = some (S []) := by
 unfold wsK
 rw [List.getElem?_append_right (by simp; omega)]
 have e : k - ((l.take k).map fun t => S (f t)).length = 0 := by simp; omega
 rw [e, List.getElem?_replicate, if_pos (by omega)]
theorem rowT_ne {ws : List Str} (h : ws ≠ []) : rowT ws = 40 :: (Lib.join ws [44, 32] ++ [41]) := by
 cases ws with
 | nil => exact (h rfl).elim
 | cons => rfl
theorem leH_set {G G2 : Heap} {b : Nat} {o0 o : AObj} (h : LeH (upd G b o0) G2) : LeH (upd G b o) (upd G2 b o) := by
 intro k x hk
 by_cases e : k = b
 ·subst e; rw [upd_same] at hk ⊢; exact hk
 ·rw [upd_ne _ _ e] at hk ⊢
  exact h k x (by rw [upd_ne _ _ e]; exact hk)
theorem wsK_set {α : Type} (f : α → Str) (l : List α) (k : Nat) (x : α) (h : l[k]? = some x) : (wsK f l k).set k (S (f x)) = wsK f l (k + 1) := by
 obtain ⟨hk, rfl⟩ := List.getElem?_eq_some_iff.1 h
 unfold wsK
 rw [take_snoc h, List.map_append]
 have e : l.length - k = (l.length - (k + 1)) + 1 := by omega
 rw [e, List.replicate_succ, List.set_append_right _ _ (by simp; omega)]
 simp [Nat.min_eq_left (Nat.le_of_lt hk)]
theorem wsK_full {α : Type} (f : α → Str) (l : List α) : wsK f l l.length = (l.map f).map S := by
 simp [wsK]
theorem wsK_zero {α : Type} (f : α → Str) (l : List α) : wsK f l 0 = List.replicate l.length (S []) := by
 simp [wsK]
theorem args30_ok (H : Heap) (l : List Tm) (hl : l.length ≤ 4194304) (ht : tot (l.map Tm.t) ≤ 268435456)
  (ih : ∀ t ∈ l, ∀ (G : Heap) (K : A → Heap → Prop), K (.d (S t.t)) G → ACall Tryz.prog (seatV eb) 22 [.d t.d] G K)
  (K : A → Heap → Prop) (hK : K (.d (S (rowT (l.map Tm.t)))) H) : ACall Tryz.prog (seatV eb) 49 [.d (.slice (l.map Tm.d)), .func 22 []] H K := by
 refine ACall.by mixed fn49 (by simp) ?_
 conv in s49 => cbv
 refine svc_start ?_
 simp -dsimp only [go_sem, gS]
 refine gif_split (fun h => ?_) (fun h => ?_)
 ·have h0 : l = [] := by have := of_decide_eq_true h; exact List.length_eq_zero_iff.1 (by omega)
  subst h0
  simp -dsimp only [go_sem, gS, h]
  exact retW_is hK
 ·have h0 : l.length ≠ 0 := by intro e; have := of_decide_eq_false h; omega
  simp -dsimp only [go_sem, gS, h]
  refine andK_split (by omega) ?_
  simp -dsimp only [go_sem, gS]
  refine newV_intro (fun b v hb hn hm hv => ?_)
  simp -dsimp only [go_sem, gS, hn, hm]
  refine svc_loop (X := Nat) (fun k => [(1, .func 22 []), (5, .own b v), (14, .d (.slice (l.map Tm.d))), (15, .d (.int .i64 l.length)), (16, .d (.int .i64 k))])
   (fun k G => k ≤ l.length ∧ LeH (upd H b (.arr 9 1 v (wsK Tm.t l k))) G) (fun k => l.length - k) 0 _ ⟨by omega, .refl _⟩ (by simp -dsimp only [go_sem, gS]; simp) (by rw [wsK_zero]; exact .refl _) ?_
  rintro k G ⟨hk, gle⟩
  have gb : G b = some (.arr 9 1 v (wsK Tm.t l k)) := gle b _ (upd_same ..)
  simp -dsimp only [go_sem, gS]
  refine gif_split (fun h2 => ?_) (fun h2 => ?_)
  ·have hkl : k < l.length := by have := of_decide_eq_true h2; omega
   obtain ⟨x, hx⟩ : ∃ x, l[k]? = some x := ⟨l[k], List.getElem?_eq_getElem hkl⟩
   have hw : IntKind.i64.wrap ((k : Int) + 1) = ((k + 1 : Nat) : Int) := by rw [wrap_in (by omega) (by omega)]; omega
   have hm : x ∈ l := List.mem_of_getElem? hx
   obtain ⟨xk, xn, xi, xa⟩ := x
   simp -dsimp only [go_sem, gS, h2, hx]
   refine andK_split rfl ?_
   simp -dsimp only [go_sem, gS, Tm.d, Tm.cs, D.cells]
   refine newK_intro (fun b7 hb7 hn7 hm7 => ?_)
   simp -dsimp only [go_sem, gS]
   refine ih (.mk xk xn xi xa) hm _ _ ?_
   have h7 : b ≠ b7 := by rintro rfl; rw [gb] at hb7; cases hb7
   have e7 : eqn b b7 = false := hn7 b (by rw [gb]; rfl)
   simp -dsimp only [go_sem, gS, e7, gb, wsK_len Tm.t l k hk]
   refine andK_split (by omega) ?_
   simp -dsimp only [go_sem, gS, e7, gb, wsK_at Tm.t l k hkl, D.cells, hw]
   refine roundQ_next (k + 1) (upd H b (.arr 9 1 v (wsK Tm.t l (k + 1)))) ⟨by omega, .refl _⟩ (by omega) (by simp -dsimp only [go_sem, gS]) ?_
   rw [← wsK_set Tm.t l k _ hx]
   exact leH_set (gle.trans (by repeat first | exact .refl _ | refine leH_upd hb7 ?_))
  ·have hkl : k = l.length := by have := of_decide_eq_false h2; omega
   subst hkl
   simp -dsimp only [go_sem, gS, h2]
   rw [wsK_full] at gb
   have gl : LeH H G := fun x o hx => gle x o (leH_upd hb (.refl H) x o hx)
   have hj := join_len (l.map Tm.t) [44, 32] (by decide)
   refine ACall.frz [true, false] ?_
   simp -dsimp only [go_sem, gS, gb]
   rw [show (l.map Tm.t).map S = ((l.map Tm.t).map fun s => (⟨s.toArray⟩ : ByteArray)).map .str by simp]
   have hmap : ((l.map Tm.t).map fun s => (⟨s.toArray⟩ : ByteArray)).map (fun x => x.data.toList) = l.map Tm.t := by simp
   refine join_ok _ _ (by simp only [List.length_map]; omega) (by rw [hmap]; show (Lib.join (l.map Tm.t) [44, 32]).length ≤ _; omega) ?_
   rw [hmap]
   simp -dsimp only [go_sem, gS]
   refine andK_split (by simp only [List.size_toArray, List.length_cons, List.length_nil]; omega) ?_
   simp -dsimp only [go_sem, gS, app_mk]
   refine andK_split (by simp only [List.size_toArray, List.length_cons, List.length_nil, List.length_append]; omega) ?_
   simp -dsimp only [go_sem, gS, app_mk]
   refine retW_drop (G := H) (leH_upd hb gl) (retW_is ?_)
   rw [rowT_ne (by intro e; apply h0; simpa using congrArg List.length e)] at hK
   exact hK
end Go.Aug.Prn

/- print.args of types, strings and ways; the forms of terms and types. -/
namespace Go.Aug.Prn
open Go.Proofs
set_option maxRecDepth 100000
set_option linter.unusedSimpArgs false
attribute [local irreducible] hid andK letA onSome onVar onArr arrOnly onInt onBool onTup idxA ldV ldD addO ofPart appTo fillL slA srcK nilQ retW gif sgd sguard svc sops sdops sagain aopO aLoad aStore aBin aUn aConv aLen aIndexAddr aIndex aIndexAddrS aIndexS aSlice aAppend aBuild aBuildSlice aMakeSlice aField aFieldOf aCallOp deepK deepL frzM putE newK newV growV ACall roundQ thenQ inBlockQ sret cnd szs nilC onRow aLookup aMapUpdate aMakeMap
variable {eb : EbG}
theorem pan24 : (seatV eb).pan 43 = false := by kernel_rfl
theorem pan28 : (seatV eb).pan 47 = false := by kernel_rfl
theorem callable24 : callable Tryz.prog 43 = true := by kernel_rfl
theorem callable28 : callable Tryz.prog 47 = true := by kernel_rfl
theorem args26_ok (H : Heap) (l : List Ty) (hl : l.length ≤ 4194304) (ht : tot (l.map Ty.t) ≤ 268435456)
  (ih : ∀ t ∈ l, ∀ (G : Heap) (K : A → Heap → Prop), K (.d (S t.t)) G → ACall Tryz.prog (seatV eb) 25 [.d t.d] G K)
  (K : A → Heap → Prop) (hK : K (.d (S (rowT (l.map Ty.t)))) H) : ACall Tryz.prog (seatV eb) 45 [.d (.slice (l.map Ty.d)), .func 25 []] H K := by
 refine ACall.by mixed fn45 (by simp) ?_
 conv in s45 => cbv
 refine svc_start ?_
 simp -dsimp only [go_sem, gS]
 refine gif_split (fun h => ?_) (fun h => ?_)
 ·have h0 : l = [] := by have := of_decide_eq_true h; exact List.length_eq_zero_iff.1 (by omega)
  subst h0
  simp -dsimp only [go_sem, gS, h]
  exact retW_is hK
 ·have h0 : l.length ≠ 0 := by intro e; have := of_decide_eq_false h; omega
  simp -dsimp only [go_sem, gS, h]
  refine andK_split (by omega) ?_
  simp -dsimp only [go_sem, gS]
  refine newV_intro (fun b v hb hn hm hv => ?_)
  simp -dsimp only [go_sem, gS, hn, hm]
  refine svc_loop (X := Nat) (fun k => [(1, .func 25 []), (5, .own b v), (14, .d (.slice (l.map Ty.d))), (15, .d (.int .i64 l.length)), (16, .d (.int .i64 k))])
   (fun k G => k ≤ l.length ∧ LeH (upd H b (.arr 9 1 v (wsK Ty.t l k))) G) (fun k => l.length - k) 0 _ ⟨by omega, .refl _⟩ (by simp -dsimp only [go_sem, gS]; simp) (by rw [wsK_zero]; exact .refl _) ?_
  rintro k G ⟨hk, gle⟩
  have gb : G b = some (.arr 9 1 v (wsK Ty.t l k)) := gle b _ (upd_same ..)
  simp -dsimp only [go_sem, gS]
  refine gif_split (fun h2 => ?_) (fun h2 => ?_)
  ·have hkl : k < l.length := by have := of_decide_eq_true h2; omega
   obtain ⟨x, hx⟩ : ∃ x, l[k]? = some x := ⟨l[k], List.getElem?_eq_getElem hkl⟩
   have hw : IntKind.i64.wrap ((k : Int) + 1) = ((k + 1 : Nat) : Int) := by rw [wrap_in (by omega) (by omega)]; omega
   have hm : x ∈ l := List.mem_of_getElem? hx
   obtain ⟨xv, xn, xa⟩ := x
   simp -dsimp only [go_sem, gS, h2, hx]
   refine andK_split rfl ?_
   simp -dsimp only [go_sem, gS, Ty.d, Ty.cs, D.cells]
   refine newK_intro (fun b7 hb7 hn7 hm7 => ?_)
   simp -dsimp only [go_sem, gS]
   refine ih (.mk xv xn xa) hm _ _ ?_
   have h7 : b ≠ b7 := by rintro rfl; rw [gb] at hb7; cases hb7
   have e7 : eqn b b7 = false := hn7 b (by rw [gb]; rfl)
   simp -dsimp only [go_sem, gS, e7, gb, wsK_len Ty.t l k hk]
   refine andK_split (by omega) ?_
   simp -dsimp only [go_sem, gS, e7, gb, wsK_at Ty.t l k hkl, D.cells, hw]
   refine roundQ_next (k + 1) (upd H b (.arr 9 1 v (wsK Ty.t l (k + 1)))) ⟨by omega, .refl _⟩ (by omega) (by simp -dsimp only [go_sem, gS]) ?_
   rw [← wsK_set Ty.t l k _ hx]
   exact leH_set (gle.trans (by repeat first | exact .refl _ | refine leH_upd hb7 ?_))
  ·have hkl : k = l.length := by have := of_decide_eq_false h2; omega
   subst hkl
   simp -dsimp only [go_sem, gS, h2]
   rw [wsK_full] at gb
   have gl : LeH H G := fun x o hx => gle x o (leH_upd hb (.refl H) x o hx)
   have hj := join_len (l.map Ty.t) [44, 32] (by decide)
   refine ACall.frz [true, false] ?_
   simp -dsimp only [go_sem, gS, gb]
   rw [show (l.map Ty.t).map S = ((l.map Ty.t).map fun s => (⟨s.toArray⟩ : ByteArray)).map .str by simp]
   have hmap : ((l.map Ty.t).map fun s => (⟨s.toArray⟩ : ByteArray)).map (fun x => x.data.toList) = l.map Ty.t := by simp
   refine join_ok _ _ (by simp only [List.length_map]; omega) (by rw [hmap]; show (Lib.join (l.map Ty.t) [44, 32]).length ≤ _; omega) ?_
   rw [hmap]
   simp -dsimp only [go_sem, gS]
   refine andK_split (by simp only [List.size_toArray, List.length_cons, List.length_nil]; omega) ?_
   simp -dsimp only [go_sem, gS, app_mk]
   refine andK_split (by simp only [List.size_toArray, List.length_cons, List.length_nil, List.length_append]; omega) ?_
   simp -dsimp only [go_sem, gS, app_mk]
   refine retW_drop (G := H) (leH_upd hb gl) (retW_is ?_)
   rw [rowT_ne (by intro e; apply h0; simpa using congrArg List.length e)] at hK
   exact hK
theorem args23_ok (H : Heap) (l : List Str) (hl : l.length ≤ 4194304) (ht : tot (l.map id) ≤ 268435456)
  (ih : ∀ t ∈ l, ∀ (G : Heap) (K : A → Heap → Prop), K (.d (S t)) G → ACall Tryz.prog (seatV eb) 43 [.d (S t)] G K)
  (K : A → Heap → Prop) (hK : K (.d (S (rowT (l.map id)))) H) : ACall Tryz.prog (seatV eb) 42 [.d (.slice (l.map S)), .func 43 []] H K := by
 refine ACall.by mixed fn42 (by simp) ?_
 conv in s42 => cbv
 refine svc_start ?_
 simp -dsimp only [go_sem, gS]
 refine gif_split (fun h => ?_) (fun h => ?_)
 ·have h0 : l = [] := by have := of_decide_eq_true h; exact List.length_eq_zero_iff.1 (by omega)
  subst h0
  simp -dsimp only [go_sem, gS, h]
  exact retW_is hK
 ·have h0 : l.length ≠ 0 := by intro e; have := of_decide_eq_false h; omega
  simp -dsimp only [go_sem, gS, h]
  refine andK_split (by omega) ?_
  simp -dsimp only [go_sem, gS]
  refine newV_intro (fun b v hb hn hm hv => ?_)
  simp -dsimp only [go_sem, gS, hn, hm]
  refine svc_loop (X := Nat) (fun k => [(1, .func 43 []), (5, .own b v), (14, .d (.slice (l.map S))), (15, .d (.int .i64 l.length)), (16, .d (.int .i64 k))])
   (fun k G => k ≤ l.length ∧ LeH (upd H b (.arr 9 1 v (wsK id l k))) G) (fun k => l.length - k) 0 _ ⟨by omega, .refl _⟩ (by simp -dsimp only [go_sem, gS]; simp) (by rw [wsK_zero]; exact .refl _) ?_
  rintro k G ⟨hk, gle⟩
  have gb : G b = some (.arr 9 1 v (wsK id l k)) := gle b _ (upd_same ..)
  simp -dsimp only [go_sem, gS]
  refine gif_split (fun h2 => ?_) (fun h2 => ?_)
  ·have hkl : k < l.length := by have := of_decide_eq_true h2; omega
   obtain ⟨x, hx⟩ : ∃ x, l[k]? = some x := ⟨l[k], List.getElem?_eq_getElem hkl⟩
   have hw : IntKind.i64.wrap ((k : Int) + 1) = ((k + 1 : Nat) : Int) := by rw [wrap_in (by omega) (by omega)]; omega
   have hm : x ∈ l := List.mem_of_getElem? hx
   simp -dsimp only [go_sem, gS, h2, hx, callable24, callable28, pan24, pan28]
   refine ih x hm _ _ ?_
   simp -dsimp only [go_sem, gS, gb, wsK_len id l k hk]
   refine andK_split (by omega) ?_
   simp -dsimp only [go_sem, gS, gb, wsK_at id l k hkl, D.cells, hw]
   refine roundQ_next (k + 1) (upd H b (.arr 9 1 v (wsK id l (k + 1)))) ⟨by omega, .refl _⟩ (by omega) (by simp -dsimp only [go_sem, gS]) ?_
   rw [← wsK_set id l k _ hx]
   exact leH_set gle
  ·have hkl : k = l.length := by have := of_decide_eq_false h2; omega
   subst hkl
   simp -dsimp only [go_sem, gS, h2]
   rw [wsK_full] at gb
   have gl : LeH H G := fun x o hx => gle x o (leH_upd hb (.refl H) x o hx)
   have hj := join_len (l.map id) [44, 32] (by decide)
   refine ACall.frz [true, false] ?_
   simp -dsimp only [go_sem, gS, gb]
   rw [show (l.map id).map S = ((l.map id).map fun s => (⟨s.toArray⟩ : ByteArray)).map .str by simp]
   have hmap : ((l.map id).map fun s => (⟨s.toArray⟩ : ByteArray)).map (fun x => x.data.toList) = l.map id := by simp [Function.comp_def]
   refine join_ok _ _ (by simp only [List.length_map]; omega) (by rw [hmap]; show (Lib.join (l.map id) [44, 32]).length ≤ _; omega) ?_
   rw [hmap]
   simp -dsimp only [go_sem, gS]
   refine andK_split (by simp only [List.size_toArray, List.length_cons, List.length_nil]; omega) ?_
   simp -dsimp only [go_sem, gS, app_mk]
   refine andK_split (by simp only [List.size_toArray, List.length_cons, List.length_nil, List.length_append]; omega) ?_
   simp -dsimp only [go_sem, gS, app_mk]
   refine retW_drop (G := H) (leH_upd hb gl) (retW_is ?_)
   rw [rowT_ne (by intro e; apply h0; simpa using congrArg List.length e)] at hK
   exact hK
theorem args27_ok (H : Heap) (l : List Bool) (hl : l.length ≤ 4194304) (ht : tot (l.map wayT) ≤ 268435456)
  (ih : ∀ t ∈ l, ∀ (G : Heap) (K : A → Heap → Prop), K (.d (S (wayT t))) G → ACall Tryz.prog (seatV eb) 47 [.d (.bool t)] G K)
  (K : A → Heap → Prop) (hK : K (.d (S (rowT (l.map wayT)))) H) : ACall Tryz.prog (seatV eb) 46 [.d (.slice (l.map D.bool)), .func 47 []] H K := by
 refine ACall.by mixed fn46 (by simp) ?_
 conv in s46 => cbv
 refine svc_start ?_
 simp -dsimp only [go_sem, gS]
 refine gif_split (fun h => ?_) (fun h => ?_)
 ·have h0 : l = [] := by have := of_decide_eq_true h; exact List.length_eq_zero_iff.1 (by omega)
  subst h0
  simp -dsimp only [go_sem, gS, h]
  exact retW_is hK
 ·have h0 : l.length ≠ 0 := by intro e; have := of_decide_eq_false h; omega
  simp -dsimp only [go_sem, gS, h]
  refine andK_split (by omega) ?_
  simp -dsimp only [go_sem, gS]
  refine newV_intro (fun b v hb hn hm hv => ?_)
  simp -dsimp only [go_sem, gS, hn, hm]
  refine svc_loop (X := Nat) (fun k => [(1, .func 47 []), (5, .own b v), (14, .d (.slice (l.map D.bool))), (15, .d (.int .i64 l.length)), (16, .d (.int .i64 k))])
   (fun k G => k ≤ l.length ∧ LeH (upd H b (.arr 9 1 v (wsK wayT l k))) G) (fun k => l.length - k) 0 _ ⟨by omega, .refl _⟩ (by simp -dsimp only [go_sem, gS]; simp) (by rw [wsK_zero]; exact .refl _) ?_
  rintro k G ⟨hk, gle⟩
  have gb : G b = some (.arr 9 1 v (wsK wayT l k)) := gle b _ (upd_same ..)
  simp -dsimp only [go_sem, gS]
  refine gif_split (fun h2 => ?_) (fun h2 => ?_)
  ·have hkl : k < l.length := by have := of_decide_eq_true h2; omega
   obtain ⟨x, hx⟩ : ∃ x, l[k]? = some x := ⟨l[k], List.getElem?_eq_getElem hkl⟩
   have hw : IntKind.i64.wrap ((k : Int) + 1) = ((k + 1 : Nat) : Int) := by rw [wrap_in (by omega) (by omega)]; omega
   have hm : x ∈ l := List.mem_of_getElem? hx
   simp -dsimp only [go_sem, gS, h2, hx, callable24, callable28, pan24, pan28]
   refine ih x hm _ _ ?_
   simp -dsimp only [go_sem, gS, gb, wsK_len wayT l k hk]
   refine andK_split (by omega) ?_
   simp -dsimp only [go_sem, gS, gb, wsK_at wayT l k hkl, D.cells, hw]
   refine roundQ_next (k + 1) (upd H b (.arr 9 1 v (wsK wayT l (k + 1)))) ⟨by omega, .refl _⟩ (by omega) (by simp -dsimp only [go_sem, gS]) ?_
   rw [← wsK_set wayT l k _ hx]
   exact leH_set gle
  ·have hkl : k = l.length := by have := of_decide_eq_false h2; omega
   subst hkl
   simp -dsimp only [go_sem, gS, h2]
   rw [wsK_full] at gb
   have gl : LeH H G := fun x o hx => gle x o (leH_upd hb (.refl H) x o hx)
   have hj := join_len (l.map wayT) [44, 32] (by decide)
   refine ACall.frz [true, false] ?_
   simp -dsimp only [go_sem, gS, gb]
   rw [show (l.map wayT).map S = ((l.map wayT).map fun s => (⟨s.toArray⟩ : ByteArray)).map .str by simp]
   have hmap : ((l.map wayT).map fun s => (⟨s.toArray⟩ : ByteArray)).map (fun x => x.data.toList) = l.map wayT := by simp
   refine join_ok _ _ (by simp only [List.length_map]; omega) (by rw [hmap]; show (Lib.join (l.map wayT) [44, 32]).length ≤ _; omega) ?_
   rw [hmap]
   simp -dsimp only [go_sem, gS]
   refine andK_split (by simp only [List.size_toArray, List.length_cons, List.length_nil]; omega) ?_
   simp -dsimp only [go_sem, gS, app_mk]
   refine andK_split (by simp only [List.size_toArray, List.length_cons, List.length_nil, List.length_append]; omega) ?_
   simp -dsimp only [go_sem, gS, app_mk]
   refine retW_drop (G := H) (leH_upd hb gl) (retW_is ?_)
   rw [rowT_ne (by intro e; apply h0; simpa using congrArg List.length e)] at hK
   exact hK
theorem args26_ds (H : Heap) (l : List Ty) (hl : l.length ≤ 4194304) (ht : tot (Ty.ts l) ≤ 268435456)
  (ih : ∀ t ∈ l, ∀ (G : Heap) (K : A → Heap → Prop), K (.d (S t.t)) G → ACall Tryz.prog (seatV eb) 25 [.d t.d] G K)
  (K : A → Heap → Prop) (hK : K (.d (S (rowT (Ty.ts l)))) H) : ACall Tryz.prog (seatV eb) 45 [.d (.slice (Ty.ds l)), .func 25 []] H K := by
 rw [Ty.ts_map] at ht hK
 rw [Ty.ds_map]
 exact args26_ok H l hl ht ih K hK
theorem args30_ds (H : Heap) (l : List Tm) (hl : l.length ≤ 4194304) (ht : tot (Tm.ts l) ≤ 268435456)
  (ih : ∀ t ∈ l, ∀ (G : Heap) (K : A → Heap → Prop), K (.d (S t.t)) G → ACall Tryz.prog (seatV eb) 22 [.d t.d] G K)
  (K : A → Heap → Prop) (hK : K (.d (S (rowT (Tm.ts l)))) H) : ACall Tryz.prog (seatV eb) 49 [.d (.slice (Tm.ds l)), .func 22 []] H K := by
 rw [Tm.ts_map] at ht hK
 rw [Tm.ds_map]
 exact args30_ok H l hl ht ih K hK
theorem way_ok (b : Bool) (H : Heap) (K : A → Heap → Prop) (hK : K (.d (S (wayT b))) H) : ACall Tryz.prog (seatV eb) 47 [.d (.bool b)] H K := by
 refine ACall.by mixed fn47 (by simp) ?_
 conv in s47 => cbv
 refine svc_start ?_
 cases b
 ·simp -dsimp only [go_sem, gS]
  exact retW_is hK
 ·simp -dsimp only [go_sem, gS]
  exact retW_is hK
theorem id_ok (b : Str) (H : Heap) (K : A → Heap → Prop) (hK : K (.d (S b)) H) : ACall Tryz.prog (seatV eb) 43 [.d (S b)] H K := by
 refine ACall.by mixed fn43 (by simp) ?_
 conv in s43 => cbv
 refine svc_start ?_
 simp -dsimp only [go_sem, gS]
 exact retW_is hK
theorem type_ok : ∀ (t : Ty) (hs : D.sizes t.cs ≤ 4194304) (H : Heap) (K : A → Heap → Prop) (hK : K (.d (S t.t)) H), ACall Tryz.prog (seatV eb) 25 [.d t.d] H K
 | .mk v n args, hs, H, K, hK => by
  have hsz : n.length + 1 + D.sizes (Ty.ds args) ≤ 4194304 := by simp only [Ty.cs, D.sizes, D.size, size_mk'] at hs; omega
  have hl : args.length ≤ 4194304 := by have := D.length_le (Ty.ds args); rw [Ty.ds_map, List.length_map] at this; rw [Ty.ds_map] at hsz; omega
  have ht := Ty.lens args
  have hr := rowT_len (Ty.ts args)
  rw [Ty.ts_map] at ht hr
  refine ACall.by mixed fn25 (by simp) ?_
  conv in s25 => cbv
  refine svc_start ?_
  simp -dsimp only [go_sem, gS, Ty.d, Ty.cs]
  refine newK_intro (fun b1 hb1 hn1 hm1 => ?_)
  simp -dsimp only [go_sem, gS, Ty.ds_map]
  refine args26_ok _ args hl (by omega) (fun t ht' G K hK => type_ok t ?_ G K hK) _ ?_
  ·have := D.mem_le (l := Ty.ds args) (d := t.d) (by rw [Ty.ds_map]; exact List.mem_map_of_mem ht')
   simp only [Ty.d, D.size] at this
   omega
  ·simp -dsimp only [go_sem, gS]
   refine andK_split (by simp only [List.size_toArray]; omega) ?_
   simp -dsimp only [go_sem, gS, app_mk]
   refine retW_drop (G := H) (leH_upd hb1 (.refl H)) (retW_is ?_)
   rw [Ty.t, Ty.ts_map] at hK
   exact hK
termination_by t => SizeOf.sizeOf t
decreasing_by
 have := List.sizeOf_lt_of_mem ht'
 simp
 omega
end Go.Aug.Prn

/- The forms of terms; words of determinism; a goal within a goal. -/
namespace Go.Aug.Prn
open Go.Proofs
set_option maxRecDepth 100000
set_option linter.unusedSimpArgs false
attribute [local irreducible] hid andK letA onSome onVar onArr arrOnly onInt onBool onTup idxA ldV ldD addO ofPart appTo fillL slA srcK nilQ retW gif sgd sguard svc sops sdops sagain aopO aLoad aStore aBin aUn aConv aLen aIndexAddr aIndex aIndexAddrS aIndexS aSlice aAppend aBuild aBuildSlice aMakeSlice aField aFieldOf aCallOp deepK deepL frzM putE newK newV growV ACall roundQ thenQ inBlockQ sret cnd szs nilC onRow aLookup aMapUpdate aMakeMap
variable {eb : EbG}
theorem term_ok [hm : TabM eb] : ∀ (t : Tm) (ho : t.ok) (hs : D.sizes t.cs ≤ 4194304) (H : Heap) (K : A → Heap → Prop) (hK : K (.d (S t.t)) H), ACall Tryz.prog (seatV eb) 22 [.d t.d] H K
 | .mk k n i args, ho, hs, H, K, hK => by
  have hsz : n.length + 1 + D.sizes (Tm.ds args) ≤ 4194304 := by simp only [Tm.cs, D.sizes, D.size, size_mk'] at hs; omega
  have hl : args.length ≤ 4194304 := by have := D.length_le (Tm.ds args); rw [Tm.ds_map, List.length_map] at this; rw [Tm.ds_map] at hsz; omega
  have ht := Tm.lens args ho.2.2
  have hr := rowT_len (Tm.ts args)
  have hil := itoa_len ho.2.1
  have hio := ho.2.1
  have hoa := Tm.oks_mem ho.2.2
  rw [Tm.ts_map] at ht hr
  have hsub : ∀ t' ∈ args, D.sizes t'.cs ≤ 4194304 := fun t' ht' => by
   have := D.mem_le (l := Tm.ds args) (d := t'.d) (by rw [Tm.ds_map]; exact List.mem_map_of_mem ht')
   simp only [Tm.d, D.size] at this
   omega
  rw [Tm.t, Tm.ts_map] at hK
  refine ACall.by mixed fn22 (by simp) ?_
  conv in s22 => cbv
  refine svc_start ?_
  simp -dsimp only [go_sem, gS, Tm.d, Tm.cs]
  refine newK_intro (fun b1 hb1 hn1 hm1 => ?_)
  simp -dsimp only [go_sem, gS, Tm.ds_map]
  refine gif_split (fun h => ?_) (fun h => ?_)
  ·have hk : k = 2 := of_decide_eq_true h
   rw [if_pos hk] at hK
   simp -dsimp only [go_sem, gS, h]
   refine itoa_ok i hio.1 hio.2 ?_
   simp -dsimp only [go_sem, gS]
   refine args30_ok _ args hl (by omega) (fun t ht' G K hK => term_ok t (hoa t ht') (hsub t ht') G K hK) _ ?_
   simp -dsimp only [go_sem, gS]
   refine andK_split (by simp only [List.size_toArray]; omega) ?_
   simp -dsimp only [go_sem, gS, app_mk]
   exact retW_drop (G := H) (leH_upd hb1 (.refl H)) (retW_is hK)
  ·have hk : ¬ k = 2 := of_decide_eq_false h
   rw [if_neg hk] at hK
   simp -dsimp only [go_sem, gS, h]
   refine args30_ok _ args hl (by omega) (fun t ht' G K hK => term_ok t (hoa t ht') (hsub t ht') G K hK) _ ?_
   simp -dsimp only [go_sem, gS]
   refine andK_split (by simp only [List.size_toArray]; omega) ?_
   simp -dsimp only [go_sem, gS, app_mk]
   exact retW_drop (G := H) (leH_upd hb1 (.refl H)) (retW_is hK)
termination_by t => SizeOf.sizeOf t
decreasing_by
 all_goals (
  have := List.sizeOf_lt_of_mem ht'
  simp
  omega)
theorem det_ok (n : Int) (H : Heap) (K : A → Heap → Prop) (hK : K (.d (S (detT n))) H) : ACall Tryz.prog (seatV eb) 48 [.d (.int .i64 n)] H K := by
 refine ACall.by mixed fn48 (by simp) ?_
 conv in s48 => cbv
 refine svc_start ?_
 simp -dsimp only [go_sem, gS]
 refine newK_intro (fun b1 hb1 hn1 hm1 => ?_)
 simp -dsimp only [go_sem, gS]
 refine gif_split (fun h => ?_) (fun h => ?_)
 ·have hn : n < 0 := of_decide_eq_true h
  have e : detT n = [] := by unfold detT; rw [if_neg (by omega), if_neg (by omega), if_neg (by omega), if_neg (by omega)]
  rw [e] at hK
  simp -dsimp only [go_sem, gS, h]
  exact retW_drop (G := H) (leH_upd hb1 (leH_upd hb1 (.refl H))) (retW_is hK)
 ·have hn : ¬ n < 0 := of_decide_eq_false h
  simp -dsimp only [go_sem, gS, h]
  refine gif_split (fun h2 => ?_) (fun h2 => ?_)
  ·have hn2 : 5 ≤ n := of_decide_eq_true h2
   have e : detT n = [] := by unfold detT; rw [if_neg (by omega), if_neg (by omega), if_neg (by omega), if_neg (by omega)]
   rw [e] at hK
   simp -dsimp only [go_sem, gS, h2]
   exact retW_drop (G := H) (leH_upd hb1 (leH_upd hb1 (.refl H))) (retW_is hK)
  ·have hn2 : ¬ 5 ≤ n := of_decide_eq_false h2
   have : n = 0 ∨ n = 1 ∨ n = 2 ∨ n = 3 ∨ n = 4 := by omega
   rcases this with rfl | rfl | rfl | rfl | rfl <;> (simp -dsimp only [go_sem, gS, h2]; refine andK_split (by decide) ?_; simp -dsimp only [go_sem, gS, Int.reduceToNat]; exact retW_drop (G := H) (leH_upd hb1 (leH_upd hb1 (.refl H))) (retW_is hK))
theorem Gl.open (g : Gl) : ∃ gk ak an ai aa bk bn bi ba n ga gs, g = .mk gk (.mk ak an ai aa) (.mk bk bn bi ba) n ga gs := by
 obtain ⟨gk, ⟨ak, an, ai, aa⟩, ⟨bk, bn, bi, ba⟩, n, ga, gs⟩ := g
 exact ⟨_, _, _, _, _, _, _, _, _, _, _, _, rfl⟩
theorem Gl.dopen (g : Gl) : ∃ x1 x2 x3 x4 x5 x6 x7 x8 x9 x10 x11 x12, g.d = .agg [x1, x2, x3, x4, x5, x6, x7, x8, x9, x10, x11, x12] := by
 obtain ⟨gk, ⟨ak, an, ai, aa⟩, ⟨bk, bn, bi, ba⟩, n, ga, gs⟩ := g
 exact ⟨_, _, _, _, _, _, _, _, _, _, _, _, rfl⟩
theorem Gl.w_t (k : Int) (g : Gl) (h : loose k g.kind = true) : Gl.w k g = 40 :: (g.t ++ [41]) := by unfold Gl.w; rw [h]; rfl
theorem Gl.w_f (k : Int) (g : Gl) (h : loose k g.kind = false) : Gl.w k g = g.t := by unfold Gl.w; rw [h]; rfl
theorem within_ok (k : Int) (g : Gl) (hg : g.ok) (hs : D.sizes g.cs ≤ 4194304) (ih : ∀ (G : Heap) (K : A → Heap → Prop), K (.d (S g.t)) G → ACall Tryz.prog (seatV eb) 19 [.d g.d] G K)
  (H : Heap) (K : A → Heap → Prop) (hK : K (.d (S (Gl.w k g))) H) : ACall Tryz.prog (seatV eb) 99 [.d (.int .i64 k), .d g.d] H K := by
 have hl := Gl.len g hg
 refine ACall.by mixed fn99 (by simp) ?_
 conv in s99 => cbv
 refine svc_start ?_
 obtain ⟨gk, ak, an, ai, aa, bk, bn, bi, ba, n, ga, gs, he⟩ := Gl.open g
 have hd : g.d = .agg [.int .i64 gk, .int .i64 ak, S an, .int .i64 ai, .slice (Tm.ds aa), .int .i64 bk, S bn, .int .i64 bi, .slice (Tm.ds ba), S n, .slice (Tm.ds ga), .slice (Gl.ds gs)] := by rw [he]; rfl
 have hkd : g.kind = gk := by rw [he]; rfl
 simp -dsimp only [go_sem, gS, hd]
 refine newK_intro (fun b1 hb1 hn1 hm1 => ?_)
 simp -dsimp only [go_sem, gS]
 rw [← hd]
 refine ih _ _ ?_
 simp -dsimp only [go_sem, gS]
 refine gif_split (fun h => ?_) (fun h => ?_)
 ·have h6 : gk = 6 := of_decide_eq_true h
  rw [Gl.w_t k g (by rw [hkd, h6]; rfl)] at hK
  simp -dsimp only [go_sem, gS, h]
  refine andK_split (by simp only [List.size_toArray, List.length_cons, List.length_nil]; omega) ?_
  simp -dsimp only [go_sem, gS, app_mk]
  refine andK_split (by simp only [List.size_toArray, List.length_cons, List.length_nil, List.length_append]; omega) ?_
  simp -dsimp only [go_sem, gS, app_mk]
  exact retW_drop (G := H) (leH_upd hb1 (.refl H)) (retW_is hK)
 ·have h6 : ¬ gk = 6 := of_decide_eq_false h
  simp -dsimp only [go_sem, gS, h]
  refine gif_split (fun h2 => ?_) (fun h2 => ?_)
  ·have h5 : gk = 5 := of_decide_eq_true h2
   simp -dsimp only [go_sem, gS, h2]
   refine gif_split (fun h3 => ?_) (fun h3 => ?_)
   ·have hk6 : ¬ k = 6 := by simpa using h3
    rw [Gl.w_t k g (by rw [hkd, h5]; simp [loose, hk6])] at hK
    simp -dsimp only [go_sem, gS, h3]
    refine andK_split (by simp only [List.size_toArray, List.length_cons, List.length_nil]; omega) ?_
    simp -dsimp only [go_sem, gS, app_mk]
    refine andK_split (by simp only [List.size_toArray, List.length_cons, List.length_nil, List.length_append]; omega) ?_
    simp -dsimp only [go_sem, gS, app_mk]
    exact retW_drop (G := H) (leH_upd hb1 (.refl H)) (retW_is hK)
   ·have hk6 : k = 6 := by simpa using h3
    rw [Gl.w_f k g (by rw [hkd, h5, hk6]; rfl)] at hK
    simp -dsimp only [go_sem, gS, h3]
    exact retW_drop (G := H) (leH_upd hb1 (.refl H)) (retW_is hK)
  ·have h5 : ¬ gk = 5 := of_decide_eq_false h2
   rw [Gl.w_f k g (by rw [hkd]; simp [loose, h5, h6])] at hK
   simp -dsimp only [go_sem, gS, h2]
   exact retW_drop (G := H) (leH_upd hb1 (.refl H)) (retW_is hK)
end Go.Aug.Prn

/- The forms of goals. -/
namespace Go.Aug.Prn
open Go.Proofs
set_option maxRecDepth 100000
set_option linter.unusedSimpArgs false
attribute [local irreducible] hid andK letA onSome onVar onArr arrOnly onInt onBool onTup idxA ldV ldD addO ofPart appTo fillL slA srcK nilQ retW gif sgd sguard svc sops sdops sagain aopO aLoad aStore aBin aUn aConv aLen aIndexAddr aIndex aIndexAddrS aIndexS aSlice aAppend aBuild aBuildSlice aMakeSlice aField aFieldOf aCallOp deepK deepL frzM putE newK newV growV ACall roundQ thenQ inBlockQ sret cnd szs nilC onRow aLookup aMapUpdate aMakeMap
variable {eb : EbG}
def SubOk (eb : EbG) (f : FuncId) (gs : List Gl) : Prop :=
 ∀ g ∈ gs, ∀ (G : Heap) (K : A → Heap → Prop), K (.d (S g.t)) G → ACall Tryz.prog (seatV eb) f [.d g.d] G K
theorem part_ok (i : Nat) (hi : i ≤ 1) (g : Gl) (hg : g.ok) (hs : D.sizes g.cs ≤ 4194304) {gk : Int} {a b : Tm} {n : Str} {ga : List Tm} {gs : List Gl} (he : g = .mk gk a b n ga gs) (ih : SubOk eb 19 gs)
  (H : Heap) (K : A → Heap → Prop) (hK : K (.d (S ((Gl.ws gk gs).getD i []))) H) : ACall Tryz.prog (seatV eb) 55 [.d g.d, .d (.int .i64 i)] H K := by
 obtain ⟨ak, an, ai, aa⟩ := a
 obtain ⟨bk, bn, bi, ba⟩ := b
 have hd : g.d = .agg [.int .i64 gk, .int .i64 ak, S an, .int .i64 ai, .slice (Tm.ds aa), .int .i64 bk, S bn, .int .i64 bi, .slice (Tm.ds ba), S n, .slice (Tm.ds ga), .slice (Gl.ds gs)] := by rw [he]; rfl
 have hgs : Gl.oks gs := by rw [he] at hg; exact hg.2.2.2.2
 have hsz : D.sizes (Gl.ds gs) ≤ 4194304 := by
  have : D.sizes g.cs + 1 = (g.d).size := rfl
  rw [hd] at this
  simp only [D.size, D.sizes] at this
  omega
 have hl : gs.length ≤ 4194304 := by have := D.length_le (Gl.ds gs); rw [Gl.ds_map, List.length_map] at this; rw [Gl.ds_map] at hsz; omega
 rw [Gl.ws_map] at hK
 refine ACall.by mixed fn55 (by simp) ?_
 conv in s55 => cbv
 refine svc_start ?_
 simp -dsimp only [go_sem, gS, hd]
 refine newK_intro (fun b1 hb1 hn1 hm1 => ?_)
 simp -dsimp only [go_sem, gS, Gl.ds_map]
 refine gif_split (fun h => ?_) (fun h => ?_)
 ·have hil : gs.length ≤ i := by have := of_decide_eq_true h; omega
  have e : (gs.map (Gl.w gk)).getD i [] = [] := by simp [List.getD, hil]
  rw [e] at hK
  simp -dsimp only [go_sem, gS, h]
  exact retW_drop (G := H) (leH_upd hb1 (.refl H)) (retW_is hK)
 ·have hil : i < gs.length := by have := of_decide_eq_false h; omega
  obtain ⟨x, hx⟩ : ∃ x, gs[i]? = some x := ⟨gs[i], List.getElem?_eq_getElem hil⟩
  have hmx : x ∈ gs := List.mem_of_getElem? hx
  have e : (gs.map (Gl.w gk)).getD i [] = Gl.w gk x := by simp [List.getD, hx]
  rw [e] at hK
  have hxs : D.sizes x.cs ≤ 4194304 := by
   have := D.mem_le (l := Gl.ds gs) (d := x.d) (by rw [Gl.ds_map]; exact List.mem_map_of_mem hmx)
   simp only [Gl.d, D.size] at this
   omega
  obtain ⟨x1, x2, x3, x4, x5, x6, x7, x8, x9, x10, x11, x12, hdx⟩ := Gl.dopen x
  simp -dsimp only [go_sem, gS, h, hx]
  refine andK_split (by rw [hdx]; rfl) ?_
  simp -dsimp only [go_sem, gS, hdx, D.cells]
  rw [← hdx]
  refine within_ok gk x (Gl.oks_mem hgs x hmx) hxs (ih x hmx) _ _ ?_
  simp -dsimp only [go_sem, gS]
  exact retW_drop (G := H) (leH_upd hb1 (.refl H)) (retW_is hK)
theorem joined_ok (sep : Str) (hsep : sep.length ≤ 4) (g : Gl) (hg : g.ok) (hs : D.sizes g.cs ≤ 4194304) {gk : Int} {a b : Tm} {n : Str} {ga : List Tm} {gs : List Gl} (he : g = .mk gk a b n ga gs) (ih : SubOk eb 19 gs)
  (H : Heap) (K : A → Heap → Prop) (hK : K (.d (S (Lib.join (Gl.ws gk gs) sep))) H) : ACall Tryz.prog (seatV eb) 54 [.d g.d, .d (S sep)] H K := by
 obtain ⟨ak, an, ai, aa⟩ := a
 obtain ⟨bk, bn, bi, ba⟩ := b
 have hd : g.d = .agg [.int .i64 gk, .int .i64 ak, S an, .int .i64 ai, .slice (Tm.ds aa), .int .i64 bk, S bn, .int .i64 bi, .slice (Tm.ds ba), S n, .slice (Tm.ds ga), .slice (Gl.ds gs)] := by rw [he]; rfl
 have hgs : Gl.oks gs := by rw [he] at hg; exact hg.2.2.2.2
 have hsz : D.sizes (Gl.ds gs) ≤ 4194304 := by
  have : D.sizes g.cs + 1 = (g.d).size := rfl
  rw [hd] at this
  simp only [D.size, D.sizes] at this
  omega
 have hl : gs.length ≤ 4194304 := by have := D.length_le (Gl.ds gs); rw [Gl.ds_map, List.length_map] at this; rw [Gl.ds_map] at hsz; omega
 have ht := Gl.lens gs hgs gk
 rw [Gl.ws_map] at hK ht
 refine ACall.by mixed fn54 (by simp) ?_
 conv in s54 => cbv
 refine svc_start ?_
 simp -dsimp only [go_sem, gS, hd]
 refine newK_intro (fun b1 hb1 hn1 hm1 => ?_)
 simp -dsimp only [go_sem, gS, Gl.ds_map]
 refine andK_split (by omega) ?_
 simp -dsimp only [go_sem, gS, Gl.ds_map]
 refine newV_intro (fun b v hb hn hm hv => ?_)
 generalize hHB : upd H b1 _ = HB at hb hn hm ⊢
 have g1 := congrFun hHB b1
 rw [upd_same] at g1
 have g1 := g1.symm
 have hle : LeH H HB := by rw [← hHB]; exact leH_upd hb1 (.refl H)
 have e1 : eqn b1 b = false := hn b1 (by rw [g1]; rfl)
 simp -dsimp only [go_sem, gS, hn, hm, e1, g1]
 refine svc_loop (X := Nat) (fun k => [(1, .d (S sep)), (2, .ref b1 0), (5, .own b v), (13, .d (.slice (gs.map Gl.d))), (14, .d (.int .i64 gs.length)), (15, .d (.int .i64 k))])
  (fun k G => k ≤ gs.length ∧ LeH (upd HB b (.arr 9 1 v (wsK (Gl.w gk) gs k))) G) (fun k => gs.length - k) 0 _ ⟨by omega, .refl _⟩ (by simp -dsimp only [go_sem, gS]; simp) (by rw [wsK_zero]; exact .refl _) ?_
 rintro k G ⟨hk, gle⟩
 have gb : G b = some (.arr 9 1 v (wsK (Gl.w gk) gs k)) := gle b _ (upd_same ..)
 have g1' := gle b1 _ (by rw [upd_ne _ _ (by rintro rfl; rw [g1] at hb; cases hb)]; exact g1)
 simp -dsimp only [go_sem, gS]
 refine gif_split (fun h2 => ?_) (fun h2 => ?_)
 ·have hkl : k < gs.length := by have := of_decide_eq_true h2; omega
  obtain ⟨x, hx⟩ : ∃ x, gs[k]? = some x := ⟨gs[k], List.getElem?_eq_getElem hkl⟩
  have hw : IntKind.i64.wrap ((k : Int) + 1) = ((k + 1 : Nat) : Int) := by rw [wrap_in (by omega) (by omega)]; omega
  have hmx : x ∈ gs := List.mem_of_getElem? hx
  have hxs : D.sizes x.cs ≤ 4194304 := by
   have := D.mem_le (l := Gl.ds gs) (d := x.d) (by rw [Gl.ds_map]; exact List.mem_map_of_mem hmx)
   simp only [Gl.d, D.size] at this
   omega
  obtain ⟨x1, x2, x3, x4, x5, x6, x7, x8, x9, x10, x11, x12, hdx⟩ := Gl.dopen x
  simp -dsimp only [go_sem, gS, h2, hx]
  refine andK_split (by rw [hdx]; rfl) ?_
  simp -dsimp only [go_sem, gS, hdx, D.cells]
  refine newK_intro (fun b7 hb7 hn7 hm7 => ?_)
  have e7 : eqn b b7 = false := hn7 b (by rw [gb]; rfl)
  have e71 : eqn b1 b7 = false := hn7 b1 (by rw [g1']; rfl)
  simp -dsimp only [go_sem, gS, e7, e71, g1']
  rw [← hdx]
  refine within_ok gk x (Gl.oks_mem hgs x hmx) hxs (ih x hmx) _ _ ?_
  simp -dsimp only [go_sem, gS, e7, gb, wsK_len (Gl.w gk) gs k hk]
  refine andK_split (by omega) ?_
  simp -dsimp only [go_sem, gS, e7, gb, wsK_at (Gl.w gk) gs k hkl, D.cells, hw]
  refine roundQ_next (k + 1) (upd HB b (.arr 9 1 v (wsK (Gl.w gk) gs (k + 1)))) ⟨by omega, .refl _⟩ (by omega) (by simp -dsimp only [go_sem, gS]) ?_
  rw [← wsK_set (Gl.w gk) gs k _ hx]
  exact leH_set (gle.trans (by repeat first | exact .refl _ | refine leH_upd hb7 ?_))
 ·have hkl : k = gs.length := by have := of_decide_eq_false h2; omega
  subst hkl
  simp -dsimp only [go_sem, gS, h2]
  rw [wsK_full] at gb
  have gl : LeH H G := hle.trans (fun x o hx => gle x o (leH_upd hb (.refl HB) x o hx))
  have hj := join_len (gs.map (Gl.w gk)) sep hsep
  refine ACall.frz [true, false] ?_
  simp -dsimp only [go_sem, gS, gb]
  rw [show (gs.map (Gl.w gk)).map S = ((gs.map (Gl.w gk)).map fun s => (⟨s.toArray⟩ : ByteArray)).map .str by simp]
  have hmap : ((gs.map (Gl.w gk)).map fun s => (⟨s.toArray⟩ : ByteArray)).map (fun x => x.data.toList) = gs.map (Gl.w gk) := by simp
  refine join_ok _ _ (by simp only [List.length_map]; omega) (by rw [hmap]; show (Lib.join (gs.map (Gl.w gk)) sep).length ≤ _; omega) ?_
  rw [hmap]
  simp -dsimp only [go_sem, gS]
  exact retW_drop (G := H) (leH_upd (le_none hle hb) gl) (retW_is hK)
end Go.Aug.Prn

/- The forms of goals: Goal. -/
namespace Go.Aug.Prn
open Go.Proofs
set_option maxRecDepth 100000
set_option linter.unusedSimpArgs false
attribute [local irreducible] hid andK letA onSome onVar onArr arrOnly onInt onBool onTup idxA ldV ldD addO ofPart appTo fillL slA srcK nilQ retW gif sgd sguard svc sops sdops sagain aopO aLoad aStore aBin aUn aConv aLen aIndexAddr aIndex aIndexAddrS aIndexS aSlice aAppend aBuild aBuildSlice aMakeSlice aField aFieldOf aCallOp deepK deepL frzM putE newK newV growV ACall roundQ thenQ inBlockQ sret cnd szs nilC onRow aLookup aMapUpdate aMakeMap
variable {eb : EbG}
theorem goal_ok [hm : TabM eb] : ∀ (g : Gl) (ho : g.ok) (hs : D.sizes g.cs ≤ 4194304) (H : Heap) (K : A → Heap → Prop) (hK : K (.d (S g.t)) H), ACall Tryz.prog (seatV eb) 19 [.d g.d] H K
 | .mk gk a b n ga gs, ho, hs, H, K, hK => by
  obtain ⟨g, he⟩ : ∃ g, g = Gl.mk gk a b n ga gs := ⟨_, rfl⟩
  have hlen := Gl.len _ ho
  have hgs : Gl.oks gs := ho.2.2.2.2
  have hes : D.sizes (Gl.cs (.mk gk a b n ga gs)) = 1 + (D.sizes a.cs + (D.sizes b.cs + (n.length + 1 + (D.sizes (Tm.ds ga) + 1 + (D.sizes (Gl.ds gs) + 1))))) := by
   simp only [Gl.cs, D.sizes, D.sizes_append, D.size, size_mk']
  have hsz : D.sizes (Gl.ds gs) ≤ 4194304 := by omega
  have has : D.sizes a.cs ≤ 4194304 := by omega
  have hbs : D.sizes b.cs ≤ 4194304 := by omega
  have hgz : D.sizes (Tm.ds ga) ≤ 4194304 := by omega
  have hnz : n.length ≤ 4194304 := by omega
  have hal := a.len ho.2.1
  have hbl := b.len ho.2.2.1
  have hga : ga.length ≤ 4194304 := by have := D.length_le (Tm.ds ga); rw [Tm.ds_map, List.length_map] at this; rw [Tm.ds_map] at hes; omega
  have hgt := Tm.lens ga ho.2.2.2.1
  have hgr := rowT_len (Tm.ts ga)
  have hgo := Tm.oks_mem ho.2.2.2.1
  have hgsub : ∀ t' ∈ ga, D.sizes t'.cs ≤ 4194304 := fun t' ht' => by
   have := D.mem_le (l := Tm.ds ga) (d := t'.d) (by rw [Tm.ds_map]; exact List.mem_map_of_mem ht')
   simp only [Tm.d, D.size] at this
   omega
  have hwl := Gl.lens gs hgs gk
  have hw2 := getD2_len (Gl.ws gk gs)
  have hgl : gs.length ≤ 4194304 := by have := D.length_le (Gl.ds gs); rw [Gl.ds_map, List.length_map] at this; rw [Gl.ds_map] at hsz; omega
  have ih : SubOk eb 19 gs := fun g' hg' G K hK => goal_ok g' (Gl.oks_mem hgs g' hg') (by
   have := D.mem_le (l := Gl.ds gs) (d := g'.d) (by rw [Gl.ds_map]; exact List.mem_map_of_mem hg')
   simp only [Gl.d, D.size] at this
   omega) G K hK
  rw [← he] at ho hs
  have hoa := (show Gl.ok (.mk gk a b n ga gs) by rw [← he]; exact ho).2.1
  have hob := (show Gl.ok (.mk gk a b n ga gs) by rw [← he]; exact ho).2.2.1
  refine ACall.by mixed fn19 (by simp) ?_
  conv in s19 => cbv
  refine svc_start ?_
  obtain ⟨ak, an, ai, aa⟩ := a
  obtain ⟨bk, bn, bi, ba⟩ := b
  have hd : g.d = .agg [.int .i64 gk, .int .i64 ak, S an, .int .i64 ai, .slice (Tm.ds aa), .int .i64 bk, S bn, .int .i64 bi, .slice (Tm.ds ba), S n, .slice (Tm.ds ga), .slice (Gl.ds gs)] := by rw [he]; rfl
  have hda : Tm.d (.mk ak an ai aa) = .agg [.int .i64 ak, S an, .int .i64 ai, .slice (Tm.ds aa)] := rfl
  have hdb : Tm.d (.mk bk bn bi ba) = .agg [.int .i64 bk, S bn, .int .i64 bi, .slice (Tm.ds ba)] := rfl
  rw [← he, hd]
  unfold Gl.t at hK
  simp -dsimp only [go_sem, gS]
  refine newK_intro (fun b1 hb1 hn1 hm1 => ?_)
  simp -dsimp only [go_sem, gS]
  have hret : ∀ (s : Str), K (.d (S s)) H → retW (seatV eb) (.d (.str ⟨s.toArray⟩)) (upd H b1 (.var [.d (.int .i64 gk), .d (.int .i64 ak), .d (S an), .d (.int .i64 ai), .d (.slice (Tm.ds aa)), .d (.int .i64 bk), .d (S bn), .d (.int .i64 bi), .d (.slice (Tm.ds ba)), .d (S n), .d (.slice (Tm.ds ga)), .d (.slice (Gl.ds gs))])) K :=
   fun s h => retW_drop (G := H) (leH_upd hb1 (.refl H)) (retW_is h)
  refine gif_split (fun h1 => ?_) (fun h1 => ?_)
  ·have hk : gk = 1 := of_decide_eq_true h1
   rw [if_pos hk] at hK
   simp -dsimp only [go_sem, gS, h1]
   exact hret _ hK
  have k1 : ¬ gk = 1 := of_decide_eq_false h1
  rw [if_neg k1] at hK
  simp -dsimp only [go_sem, gS, h1]
  refine gif_split (fun h1 => ?_) (fun h1 => ?_)
  ·have hk : gk = 2 := of_decide_eq_true h1
   rw [if_pos hk] at hK
   simp -dsimp only [go_sem, gS, h1]
   exact hret _ hK
  have k1 : ¬ gk = 2 := of_decide_eq_false h1
  rw [if_neg k1] at hK
  simp -dsimp only [go_sem, gS, h1]
  refine gif_split (fun h1 => ?_) (fun h1 => ?_)
  ·have hk : gk = 3 := of_decide_eq_true h1
   rw [if_pos hk] at hK
   simp -dsimp only [go_sem, gS, h1]
   rw [← hda]
   refine term_ok _ hoa has _ _ ?_
   simp -dsimp only [go_sem, gS, hda, hdb]
   refine andK_split (by simp only [List.size_toArray, List.length_cons, List.length_nil, List.length_append]; omega) ?_
   simp -dsimp only [go_sem, gS, app_mk]
   rw [← hdb]
   refine term_ok _ hob hbs _ _ ?_
   simp -dsimp only [go_sem, gS, hda, hdb]
   refine andK_split (by simp only [List.size_toArray, List.length_cons, List.length_nil, List.length_append]; omega) ?_
   simp -dsimp only [go_sem, gS, app_mk]
   exact hret _ hK
  have k1 : ¬ gk = 3 := of_decide_eq_false h1
  rw [if_neg k1] at hK
  simp -dsimp only [go_sem, gS, h1]
  refine gif_split (fun h1 => ?_) (fun h1 => ?_)
  ·have hk : gk = 4 := of_decide_eq_true h1
   rw [if_pos hk] at hK
   simp -dsimp only [go_sem, gS, h1, Tm.ds_map]
   rw [Tm.ts_map] at hK hgt hgr
   refine args30_ok _ ga hga (by omega) (fun t ht' G K hK => term_ok t (hgo t ht') (hgsub t ht') G K hK) _ ?_
   simp -dsimp only [go_sem, gS]
   refine andK_split (by simp only [List.size_toArray, List.length_cons, List.length_nil, List.length_append]; omega) ?_
   simp -dsimp only [go_sem, gS, app_mk]
   exact retW_drop (G := H) (leH_upd hb1 (.refl H)) (retW_is hK)
  have k1 : ¬ gk = 4 := of_decide_eq_false h1
  rw [if_neg k1] at hK
  simp -dsimp only [go_sem, gS, h1]
  refine gif_split (fun h1 => ?_) (fun h1 => ?_)
  ·have hk : gk = 5 := of_decide_eq_true h1
   rw [if_pos hk] at hK
   simp -dsimp only [go_sem, gS, h1]
   rw [← hd]
   refine joined_ok [44, 32] (by decide) g ho hs he ih _ _ ?_
   simp -dsimp only [go_sem, gS]
   exact hret _ hK
  have k1 : ¬ gk = 5 := of_decide_eq_false h1
  rw [if_neg k1] at hK
  simp -dsimp only [go_sem, gS, h1]
  refine gif_split (fun h1 => ?_) (fun h1 => ?_)
  ·have hk : gk = 6 := of_decide_eq_true h1
   rw [if_pos hk] at hK
   simp -dsimp only [go_sem, gS, h1]
   rw [← hd]
   refine joined_ok [32, 59, 32] (by decide) g ho hs he ih _ _ ?_
   simp -dsimp only [go_sem, gS]
   exact hret _ hK
  have k1 : ¬ gk = 6 := of_decide_eq_false h1
  rw [if_neg k1] at hK
  simp -dsimp only [go_sem, gS, h1]
  refine gif_split (fun h1 => ?_) (fun h1 => ?_)
  ·have hk : gk = 7 := of_decide_eq_true h1
   rw [if_pos hk] at hK
   simp -dsimp only [go_sem, gS, h1]
   rw [← hd]
   refine part_ok 0 (by omega) g ho hs he ih _ _ ?_
   simp -dsimp only [go_sem, gS]
   refine andK_split (by simp only [List.size_toArray, List.length_cons, List.length_nil, List.length_append]; omega) ?_
   simp -dsimp only [go_sem, gS, app_mk]
   exact hret _ hK
  have k1 : ¬ gk = 7 := of_decide_eq_false h1
  rw [if_neg k1] at hK
  simp -dsimp only [go_sem, gS, h1]
  refine gif_split (fun h1 => ?_) (fun h1 => ?_)
  ·have hk : gk = 8 := of_decide_eq_true h1
   rw [if_pos hk] at hK
   simp -dsimp only [go_sem, gS, h1]
   rw [← hda]
   refine term_ok _ hoa has _ _ ?_
   simp -dsimp only [go_sem, gS]
   refine andK_split (by simp only [List.size_toArray, List.length_cons, List.length_nil, List.length_append]; omega) ?_
   simp -dsimp only [go_sem, gS, app_mk]
   exact hret _ hK
  have k1 : ¬ gk = 8 := of_decide_eq_false h1
  rw [if_neg k1] at hK
  simp -dsimp only [go_sem, gS, h1]
  refine gif_split (fun h1 => ?_) (fun h1 => ?_)
  ·have hk : gk = 9 := of_decide_eq_true h1
   rw [if_pos hk] at hK
   simp -dsimp only [go_sem, gS, h1]
   rw [← hd]
   refine part_ok 0 (by omega) g ho hs he ih _ _ ?_
   simp -dsimp only [go_sem, gS]
   refine ⟨by rw [hd], ?_⟩
   refine andK_split (by simp only [List.size_toArray, List.length_cons, List.length_nil, List.length_append]; omega) ?_
   simp -dsimp only [go_sem, gS, app_mk]
   refine andK_split (by simp only [List.size_toArray, List.length_cons, List.length_nil, List.length_append]; omega) ?_
   simp -dsimp only [go_sem, gS, app_mk]
   refine andK_split (by simp only [List.size_toArray, List.length_cons, List.length_nil, List.length_append]; omega) ?_
   simp -dsimp only [go_sem, gS, app_mk]
   refine andK_split (by simp only [List.size_toArray, List.length_cons, List.length_nil, List.length_append]; omega) ?_
   simp -dsimp only [go_sem, gS, app_mk]
   refine part_ok 1 (by omega) g ho hs he ih _ _ ?_
   simp -dsimp only [go_sem, gS]
   refine andK_split (by simp only [List.size_toArray, List.length_cons, List.length_nil, List.length_append]; omega) ?_
   simp -dsimp only [go_sem, gS, app_mk]
   exact hret _ hK
  have k1 : ¬ gk = 9 := of_decide_eq_false h1
  rw [if_neg k1] at hK
  simp -dsimp only [go_sem, gS, h1]
  exact hret _ hK
termination_by g => SizeOf.sizeOf g
decreasing_by
 all_goals (
  have := List.sizeOf_lt_of_mem hg'
  simp
  omega)
end Go.Aug.Prn

/- The forms of items. -/
namespace Go.Aug.Prn
open Go.Proofs
set_option maxRecDepth 100000
set_option linter.unusedSimpArgs false
attribute [local irreducible] hid andK letA onSome onVar onArr arrOnly onInt onBool onTup idxA ldV ldD addO ofPart appTo fillL slA srcK nilQ retW gif sgd sguard svc sops sdops sagain aopO aLoad aStore aBin aUn aConv aLen aIndexAddr aIndex aIndexAddrS aIndexS aSlice aAppend aBuild aBuildSlice aMakeSlice aField aFieldOf aCallOp deepK deepL frzM putE newK newV growV ACall roundQ thenQ inBlockQ sret cnd szs nilC onRow aLookup aMapUpdate aMakeMap
variable {eb : EbG}
theorem ctors_ok (l : List Ct) (hs : D.sizes (l.map Ct.d) ≤ 4194304) (H : Heap) (K : A → Heap → Prop) (hK : K (.d (S (ctorsT l))) H) : ACall Tryz.prog (seatV eb) 44 [.d (.slice (l.map Ct.d))] H K := by
 have hl : l.length ≤ 4194304 := by have := D.length_le (l.map Ct.d); rw [List.length_map] at this; omega
 have ht := Ct.lens l
 refine ACall.by mixed fn44 (by simp) ?_
 conv in s44 => cbv
 refine svc_start ?_
 simp -dsimp only [go_sem, gS]
 refine andK_split (by omega) ?_
 simp -dsimp only [go_sem, gS]
 refine newV_intro (fun b v hb hn hm hv => ?_)
 simp -dsimp only [go_sem, gS, hn, hm]
 refine svc_loop (X := Nat) (fun k => [(3, .own b v), (9, .d (.slice (l.map Ct.d))), (10, .d (.int .i64 l.length)), (11, .d (.int .i64 k))])
  (fun k G => k ≤ l.length ∧ LeH (upd H b (.arr 9 1 v (wsK Ct.t l k))) G) (fun k => l.length - k) 0 _ ⟨by omega, .refl _⟩ (by simp -dsimp only [go_sem, gS]; simp) (by rw [wsK_zero]; exact .refl _) ?_
 rintro k G ⟨hk, gle⟩
 have gb : G b = some (.arr 9 1 v (wsK Ct.t l k)) := gle b _ (upd_same ..)
 simp -dsimp only [go_sem, gS]
 refine gif_split (fun h2 => ?_) (fun h2 => ?_)
 ·have hkl : k < l.length := by have := of_decide_eq_true h2; omega
  obtain ⟨x, hx⟩ : ∃ x, l[k]? = some x := ⟨l[k], List.getElem?_eq_getElem hkl⟩
  have hw : IntKind.i64.wrap ((k : Int) + 1) = ((k + 1 : Nat) : Int) := by rw [wrap_in (by omega) (by omega)]; omega
  have hmx : x ∈ l := List.mem_of_getElem? hx
  have hxs := D.mem_le (l := l.map Ct.d) (d := x.d) (List.mem_map_of_mem hmx)
  obtain ⟨xn, xa⟩ := x
  simp only [Ct.d, Ct.cs, D.size, D.sizes, size_mk'] at hxs
  have hal : xa.length ≤ 4194304 := by have := D.length_le (Ty.ds xa); rw [Ty.ds_map, List.length_map] at this; rw [Ty.ds_map] at hxs; omega
  have hat := Ty.lens xa
  have har := rowT_len (Ty.ts xa)
  have hasub : ∀ t' ∈ xa, D.sizes t'.cs ≤ 4194304 := fun t' ht' => by
   have := D.mem_le (l := Ty.ds xa) (d := t'.d) (by rw [Ty.ds_map]; exact List.mem_map_of_mem ht')
   simp only [Ty.d, D.size] at this
   omega
  rw [Ty.ts_map] at hat har
  simp -dsimp only [go_sem, gS, h2, hx]
  refine andK_split rfl ?_
  simp -dsimp only [go_sem, gS, Ct.d, Ct.cs, D.cells]
  refine newK_intro (fun b7 hb7 hn7 hm7 => ?_)
  have e7 : eqn b b7 = false := hn7 b (by rw [gb]; rfl)
  simp -dsimp only [go_sem, gS, Ty.ds_map]
  refine args26_ok _ xa hal (by omega) (fun t ht' G K hK => type_ok t (hasub t ht') G K hK) _ ?_
  simp -dsimp only [go_sem, gS, Ty.ds_map]
  refine andK_split (by simp only [List.size_toArray, List.length_cons, List.length_nil, List.length_append]; omega) ?_
  simp -dsimp only [go_sem, gS, app_mk, e7, gb, wsK_len Ct.t l k hk]
  refine andK_split (by omega) ?_
  simp -dsimp only [go_sem, gS, e7, gb, wsK_at Ct.t l k hkl, D.cells, hw]
  refine roundQ_next (k + 1) (upd H b (.arr 9 1 v (wsK Ct.t l (k + 1)))) ⟨by omega, .refl _⟩ (by omega) (by simp -dsimp only [go_sem, gS]) ?_
  rw [← wsK_set Ct.t l k _ hx, Ct.t, Ty.ts_map]
  exact leH_set (gle.trans (by repeat first | exact .refl _ | refine leH_upd hb7 ?_))
 ·have hkl : k = l.length := by have := of_decide_eq_false h2; omega
  subst hkl
  simp -dsimp only [go_sem, gS, h2]
  rw [wsK_full] at gb
  have gl : LeH H G := fun x o hx => gle x o (leH_upd hb (.refl H) x o hx)
  have hj := join_len (l.map Ct.t) [32, 124, 32] (by decide)
  refine ACall.frz [true, false] ?_
  simp -dsimp only [go_sem, gS, gb]
  rw [show (l.map Ct.t).map S = ((l.map Ct.t).map fun s => (⟨s.toArray⟩ : ByteArray)).map .str by simp]
  have hmap : ((l.map Ct.t).map fun s => (⟨s.toArray⟩ : ByteArray)).map (fun x => x.data.toList) = l.map Ct.t := by simp
  refine join_ok _ _ (by simp only [List.length_map]; omega) (by rw [hmap]; show (Lib.join (l.map Ct.t) [32, 124, 32]).length ≤ _; omega) ?_
  rw [hmap]
  simp -dsimp only [go_sem, gS]
  exact retW_drop (G := H) (leH_upd hb gl) (retW_is hK)
theorem item_ok [hm : TabM eb] (i : It) (ho : i.ok) (hs : D.sizes i.cs ≤ 4194304) (H : Heap) (K : A → Heap → Prop) (hK : K (.d (S i.t)) H) : ACall Tryz.prog (seatV eb) 14 [.d i.d] H K := by
 obtain ⟨ik, iname, ivars, ictors, itypes, iins, idet, iargs, g⟩ := i
 obtain ⟨gk, ak, an, ai, aa, bk, bn, bi, ba, n, ga, gs, he⟩ := Gl.open g
 have hd : g.d = .agg [.int .i64 gk, .int .i64 ak, S an, .int .i64 ai, .slice (Tm.ds aa), .int .i64 bk, S bn, .int .i64 bi, .slice (Tm.ds ba), S n, .slice (Tm.ds ga), .slice (Gl.ds gs)] := by rw [he]; rfl
 have hid' : It.d ⟨ik, iname, ivars, ictors, itypes, iins, idet, iargs, g⟩ = .agg [.int .i64 ik, S iname, .slice (ivars.map S), .slice (ictors.map Ct.d), .slice (Ty.ds itypes), .slice (iins.map .bool), .int .i64 idet, .slice (Tm.ds iargs), .int .i64 gk, .int .i64 ak, S an, .int .i64 ai, .slice (Tm.ds aa), .int .i64 bk, S bn, .int .i64 bi, .slice (Tm.ds ba), S n, .slice (Tm.ds ga), .slice (Gl.ds gs)] := by rw [he]; rfl
 have hgk : g.kind = gk := by rw [he]; rfl
 have hsz : D.sizes (It.cs ⟨ik, iname, ivars, ictors, itypes, iins, idet, iargs, g⟩) = 1 + (iname.length + 1 + (D.sizes (ivars.map S) + 1 + (D.sizes (ictors.map Ct.d) + 1 + (D.sizes (Ty.ds itypes) + 1 + (D.sizes (iins.map .bool) + 1 + (1 + (D.sizes (Tm.ds iargs) + 1 + D.sizes g.cs))))))) := by
  simp only [It.cs, D.sizes, D.size, size_mk']
 rw [hsz] at hs
 have hvl : ivars.length ≤ 4194304 := by have := D.length_le (ivars.map S); rw [List.length_map] at this; omega
 have htl : itypes.length ≤ 4194304 := by have := D.length_le (Ty.ds itypes); rw [Ty.ds_map, List.length_map] at this; rw [Ty.ds_map] at hs; omega
 have hal : iargs.length ≤ 4194304 := by have := D.length_le (Tm.ds iargs); rw [Tm.ds_map, List.length_map] at this; rw [Tm.ds_map] at hs; omega
 have hil : iins.length ≤ 4194304 := by have := D.length_le (iins.map D.bool); rw [List.length_map] at this; omega
 have hvt := strs_tot ivars
 have hvr := rowT_len ivars
 have hit := ways_tot iins
 have hir := rowT_len (iins.map wayT)
 have htt := Ty.lens itypes
 have htr := rowT_len (Ty.ts itypes)
 have hat := Tm.lens iargs ho.1
 have har := rowT_len (Tm.ts iargs)
 have hct := Ct.lens ictors
 have hcj := join_len (ictors.map Ct.t) [32, 124, 32] (by decide)
 have hdl := detT_len idet
 have hgl := Gl.len g ho.2
 have htsub : ∀ t' ∈ itypes, D.sizes t'.cs ≤ 4194304 := fun t' ht' => by
  have := D.mem_le (l := Ty.ds itypes) (d := t'.d) (by rw [Ty.ds_map]; exact List.mem_map_of_mem ht')
  simp only [Ty.d, D.size] at this
  omega
 have hasub : ∀ t' ∈ iargs, D.sizes t'.cs ≤ 4194304 := fun t' ht' => by
  have := D.mem_le (l := Tm.ds iargs) (d := t'.d) (by rw [Tm.ds_map]; exact List.mem_map_of_mem ht')
  simp only [Tm.d, D.size] at this
  omega
 have hao := Tm.oks_mem ho.1
 have hgo := ho.2
 refine ACall.by mixed fn14 (by simp) ?_
 conv in s14 => cbv
 refine svc_start ?_
 rw [hid']
 simp -dsimp only [go_sem, gS]
 refine newK_intro (fun b1 hb1 hn1 hm1 => ?_)
 have hret : ∀ (s : Str), s = It.t ⟨ik, iname, ivars, ictors, itypes, iins, idet, iargs, g⟩ → retW (seatV eb) (.d (.str ⟨s.toArray⟩)) (upd H b1 (.var [.d (.int .i64 ik), .d (S iname), .d (.slice (ivars.map S)), .d (.slice (ictors.map Ct.d)), .d (.slice (Ty.ds itypes)), .d (.slice (iins.map .bool)), .d (.int .i64 idet), .d (.slice (Tm.ds iargs)), .d (.int .i64 gk), .d (.int .i64 ak), .d (S an), .d (.int .i64 ai), .d (.slice (Tm.ds aa)), .d (.int .i64 bk), .d (S bn), .d (.int .i64 bi), .d (.slice (Tm.ds ba)), .d (S n), .d (.slice (Tm.ds ga)), .d (.slice (Gl.ds gs))])) K :=
  fun s h => retW_drop (G := H) (leH_upd hb1 (.refl H)) (retW_is (by rw [h]; exact hK))
 simp -dsimp only [go_sem, gS]
 refine gif_split (fun h => ?_) (fun h => ?_)
 ·have hk : ik = 1 := of_decide_eq_true h
  simp -dsimp only [go_sem, gS, h]
  refine andK_split (by simp only [List.size_toArray, List.length_cons, List.length_nil, List.length_append]; omega) ?_
  simp -dsimp only [go_sem, gS, app_mk]
  refine args23_ok _ ivars hvl (by rw [List.map_id]; omega) (fun t ht' G K hK => id_ok t G K hK) _ ?_
  simp -dsimp only [go_sem, gS, List.map_id]
  refine andK_split (by simp only [List.size_toArray, List.length_cons, List.length_nil, List.length_append]; omega) ?_
  simp -dsimp only [go_sem, gS, app_mk]
  refine andK_split (by simp only [List.size_toArray, List.length_cons, List.length_nil, List.length_append]; omega) ?_
  simp -dsimp only [go_sem, gS, app_mk]
  refine ctors_ok ictors (by omega) _ _ ?_
  simp -dsimp only [go_sem, gS, ctorsT]
  refine andK_split (by simp only [List.size_toArray, List.length_cons, List.length_nil, List.length_append]; omega) ?_
  simp -dsimp only [go_sem, gS, app_mk]
  refine andK_split (by simp only [List.size_toArray, List.length_cons, List.length_nil, List.length_append]; omega) ?_
  simp -dsimp only [go_sem, gS, app_mk]
  refine hret _ ?_
  simp only [It.t, It.t0, hk, if_true, ctorsT, List.cons_append, List.nil_append, List.append_assoc]
 have k1 : ¬ ik = 1 := of_decide_eq_false h
 simp -dsimp only [go_sem, gS, h]
 refine gif_split (fun h => ?_) (fun h => ?_)
 ·have hk : ik = 2 := of_decide_eq_true h
  simp -dsimp only [go_sem, gS, h]
  refine andK_split (by simp only [List.size_toArray, List.length_cons, List.length_nil, List.length_append]; omega) ?_
  simp -dsimp only [go_sem, gS, app_mk]
  refine args26_ds _ itypes htl (by omega) (fun t ht' G K hK => type_ok t (htsub t ht') G K hK) _ ?_
  simp -dsimp only [go_sem, gS]
  refine andK_split (by simp only [List.size_toArray, List.length_cons, List.length_nil, List.length_append]; omega) ?_
  simp -dsimp only [go_sem, gS, app_mk]
  refine andK_split (by simp only [List.size_toArray, List.length_cons, List.length_nil, List.length_append]; omega) ?_
  simp -dsimp only [go_sem, gS, app_mk]
  refine hret _ ?_
  simp only [It.t, It.t0, hk, if_neg (show ¬ (2 : Int) = 1 by decide), if_true, List.cons_append, List.nil_append, List.append_assoc]
 have k2 : ¬ ik = 2 := of_decide_eq_false h
 simp -dsimp only [go_sem, gS, h]
 refine gif_split (fun h => ?_) (fun h => ?_)
 ·have hk : ik = 3 := of_decide_eq_true h
  simp -dsimp only [go_sem, gS, h]
  refine andK_split (by simp only [List.size_toArray, List.length_cons, List.length_nil, List.length_append]; omega) ?_
  simp -dsimp only [go_sem, gS, app_mk]
  refine args27_ok _ iins hil (by omega) (fun t ht' G K hK => way_ok t G K hK) _ ?_
  simp -dsimp only [go_sem, gS]
  refine andK_split (by simp only [List.size_toArray, List.length_cons, List.length_nil, List.length_append]; omega) ?_
  simp -dsimp only [go_sem, gS, app_mk]
  refine andK_split (by simp only [List.size_toArray, List.length_cons, List.length_nil, List.length_append]; omega) ?_
  simp -dsimp only [go_sem, gS, app_mk]
  refine det_ok idet _ _ ?_
  simp -dsimp only [go_sem, gS]
  refine andK_split (by simp only [List.size_toArray, List.length_cons, List.length_nil, List.length_append]; omega) ?_
  simp -dsimp only [go_sem, gS, app_mk]
  refine andK_split (by simp only [List.size_toArray, List.length_cons, List.length_nil, List.length_append]; omega) ?_
  simp -dsimp only [go_sem, gS, app_mk]
  refine hret _ ?_
  simp only [It.t, It.t0, hk, if_neg (show ¬ (3 : Int) = 1 by decide), if_neg (show ¬ (3 : Int) = 2 by decide), if_true, List.cons_append, List.nil_append, List.append_assoc]
 have k3 : ¬ ik = 3 := of_decide_eq_false h
 simp -dsimp only [go_sem, gS, h]
 refine gif_split (fun h => ?_) (fun h => ?_)
 ·have hk : ik = 4 := of_decide_eq_true h
  simp -dsimp only [go_sem, gS, h]
  refine args30_ds _ iargs hal (by omega) (fun t ht' G K hK => term_ok t (hao t ht') (hasub t ht') G K hK) _ ?_
  simp -dsimp only [go_sem, gS]
  refine andK_split (by simp only [List.size_toArray, List.length_cons, List.length_nil, List.length_append]; omega) ?_
  simp -dsimp only [go_sem, gS, app_mk]
  refine gif_split (fun h => ?_) (fun h => ?_)
  ·have hg1 : ¬ gk = 1 := by simpa using h
   simp -dsimp only [go_sem, gS, h]
   rw [← hd]
   refine goal_ok g hgo (by omega) _ _ ?_
   simp -dsimp only [go_sem, gS]
   refine andK_split (by simp only [List.size_toArray, List.length_cons, List.length_nil, List.length_append]; omega) ?_
   simp -dsimp only [go_sem, gS, app_mk]
   refine andK_split (by simp only [List.size_toArray, List.length_cons, List.length_nil, List.length_append]; omega) ?_
   simp -dsimp only [go_sem, gS, app_mk]
   refine andK_split (by simp only [List.size_toArray, List.length_cons, List.length_nil, List.length_append]; omega) ?_
   simp -dsimp only [go_sem, gS, app_mk]
   refine hret _ ?_
   simp only [It.t, It.t0, hk, hgk, if_neg (show ¬ (4 : Int) = 1 by decide), if_neg (show ¬ (4 : Int) = 2 by decide), if_neg (show ¬ (4 : Int) = 3 by decide), if_true, if_neg hg1, List.cons_append, List.nil_append, List.append_assoc]
  ·have hg1 : gk = 1 := by simpa using h
   simp -dsimp only [go_sem, gS, h]
   refine andK_split (by simp only [List.size_toArray, List.length_cons, List.length_nil, List.length_append]; omega) ?_
   simp -dsimp only [go_sem, gS, app_mk]
   refine hret _ ?_
   simp only [It.t, It.t0, hk, hgk, if_neg (show ¬ (4 : Int) = 1 by decide), if_neg (show ¬ (4 : Int) = 2 by decide), if_neg (show ¬ (4 : Int) = 3 by decide), if_true, if_pos hg1, List.cons_append, List.nil_append, List.append_assoc]
 have k4 : ¬ ik = 4 := of_decide_eq_false h
 simp -dsimp only [go_sem, gS, h]
 refine andK_split (by simp only [List.size_toArray, List.length_cons, List.length_nil, List.length_append]; omega) ?_
 simp -dsimp only [go_sem, gS, app_mk]
 refine hret _ ?_
 simp only [It.t, It.t0, if_neg k1, if_neg k2, if_neg k3, if_neg k4, List.nil_append]
end Go.Aug.Prn

/- The reference's rows, terms and types. -/
namespace Go.Aug.Prn
open Go.Proofs
set_option maxRecDepth 100000
set_option linter.unusedSimpArgs false
attribute [local irreducible] hid andK letA onSome onVar onArr arrOnly onInt onBool onTup idxA ldV ldD addO ofPart appTo fillL slA srcK nilQ retW gif sgd sguard svc sops sdops sagain aopO aLoad aStore aBin aUn aConv aLen aIndexAddr aIndex aIndexAddrS aIndexS aSlice aAppend aBuild aBuildSlice aMakeSlice aField aFieldOf aCallOp deepK deepL frzM putE newK newV growV ACall roundQ thenQ inBlockQ sret cnd szs nilC onRow aLookup aMapUpdate aMakeMap
variable {eb : EbG}
end Go.Aug.Prn

/- The reference's goals. -/
namespace Go.Aug.Prn
open Go.Proofs
set_option maxRecDepth 100000
set_option linter.unusedSimpArgs false
def rbr (k gk : Int) : Bool := if k = 6 then gk == 6 else if k = 5 ∨ k = 7 ∨ k = 9 then gk == 6 || gk == 5 else false
def Gl.rw (k : Int) (g : Gl) : Str := brT (rbr k g.kind) g.t
theorem Gl.rw_t (k : Int) (g : Gl) (h : rbr k g.kind = true) : Gl.rw k g = 40 :: (g.t ++ [41]) := by unfold Gl.rw; rw [h]; rfl
theorem Gl.rw_f (k : Int) (g : Gl) (h : rbr k g.kind = false) : Gl.rw k g = g.t := by unfold Gl.rw; rw [h]; rfl
attribute [local irreducible] hid andK letA onSome onVar onArr arrOnly onInt onBool onTup idxA ldV ldD addO ofPart appTo fillL slA srcK nilQ retW gif sgd sguard svc sops sdops sagain aopO aLoad aStore aBin aUn aConv aLen aIndexAddr aIndex aIndexAddrS aIndexS aSlice aAppend aBuild aBuildSlice aMakeSlice aField aFieldOf aCallOp deepK deepL frzM putE newK newV growV ACall roundQ thenQ inBlockQ sret cnd szs nilC onRow aLookup aMapUpdate aMakeMap
variable {eb : EbG}
theorem inner_ok (k : Int) (g : Gl) (hg : g.ok) (hs : D.sizes g.cs ≤ 4194304) (ih : ∀ (G : Heap) (K : A → Heap → Prop), K (.d (S g.t)) G → ACall Tryz.prog (seatV eb) 84 [.d g.d] G K)
  (H : Heap) (K : A → Heap → Prop) (hK : K (.d (S (Gl.rw k g))) H) : ACall Tryz.prog (seatV eb) 116 [.d (.int .i64 k), .d g.d] H K := by
 have hl := Gl.len g hg
 refine ACall.by mixed fn116 (by simp) ?_
 conv in s116 => cbv
 refine svc_start ?_
 obtain ⟨gk, ak, an, ai, aa, bk, bn, bi, ba, n, ga, gs, he⟩ := Gl.open g
 have hd : g.d = .agg [.int .i64 gk, .int .i64 ak, S an, .int .i64 ai, .slice (Tm.ds aa), .int .i64 bk, S bn, .int .i64 bi, .slice (Tm.ds ba), S n, .slice (Tm.ds ga), .slice (Gl.ds gs)] := by rw [he]; rfl
 have hkd : g.kind = gk := by rw [he]; rfl
 simp -dsimp only [go_sem, gS, hd]
 refine newK_intro (fun b1 hb1 hn1 hm1 => ?_)
 simp -dsimp only [go_sem, gS]
 refine gif_split (fun h => ?_) (fun h => ?_)
 ·have h6 : k = 6 := of_decide_eq_true h
  simp -dsimp only [go_sem, gS, h]
  refine gif_split (fun h2 => ?_) (fun h2 => ?_)
  ·have hr : rbr k g.kind = true := by rw [hkd, h6]; simpa [rbr] using h2
   rw [Gl.rw_t k g hr] at hK
   simp -dsimp only [go_sem, gS, h2]
   rw [← hd]
   refine ih _ _ ?_
   simp -dsimp only [go_sem, gS]
   refine andK_split (by simp only [List.size_toArray, List.length_cons, List.length_nil, List.length_append]; omega) ?_
   simp -dsimp only [go_sem, gS, app_mk]
   refine andK_split (by simp only [List.size_toArray, List.length_cons, List.length_nil, List.length_append]; omega) ?_
   simp -dsimp only [go_sem, gS, app_mk]
   exact retW_drop (G := H) (leH_upd hb1 (.refl H)) (retW_is hK)
  ·have hr : rbr k g.kind = false := by rw [hkd, h6]; simpa [rbr] using h2
   rw [Gl.rw_f k g hr] at hK
   simp -dsimp only [go_sem, gS, h2]
   rw [← hd]
   refine ih _ _ ?_
   simp -dsimp only [go_sem, gS]
   exact retW_drop (G := H) (leH_upd hb1 (.refl H)) (retW_is hK)
 have k6 : ¬ k = 6 := of_decide_eq_false h
 simp -dsimp only [go_sem, gS, h]
 refine gif_split (fun h => ?_) (fun h => ?_)
 ·have h5 : k = 5 := of_decide_eq_true h
  simp -dsimp only [go_sem, gS, h]
  refine gif_split (fun h2 => ?_) (fun h2 => ?_)
  ·have hr : rbr k g.kind = true := by rw [hkd, h5]; have := of_decide_eq_true h2; simp [rbr, this]
   rw [Gl.rw_t k g hr] at hK
   simp -dsimp only [go_sem, gS, h2]
   rw [← hd]
   refine ih _ _ ?_
   simp -dsimp only [go_sem, gS]
   refine andK_split (by simp only [List.size_toArray, List.length_cons, List.length_nil, List.length_append]; omega) ?_
   simp -dsimp only [go_sem, gS, app_mk]
   refine andK_split (by simp only [List.size_toArray, List.length_cons, List.length_nil, List.length_append]; omega) ?_
   simp -dsimp only [go_sem, gS, app_mk]
   exact retW_drop (G := H) (leH_upd hb1 (.refl H)) (retW_is hK)
  ·have g6 : ¬ gk = 6 := of_decide_eq_false h2
   simp -dsimp only [go_sem, gS, h2]
   refine gif_split (fun h2 => ?_) (fun h2 => ?_)
   ·have hr : rbr k g.kind = true := by rw [hkd, h5]; have := of_decide_eq_true h2; simp [rbr, this]
    rw [Gl.rw_t k g hr] at hK
    simp -dsimp only [go_sem, gS, h2]
    rw [← hd]
    refine ih _ _ ?_
    simp -dsimp only [go_sem, gS]
    refine andK_split (by simp only [List.size_toArray, List.length_cons, List.length_nil, List.length_append]; omega) ?_
    simp -dsimp only [go_sem, gS, app_mk]
    refine andK_split (by simp only [List.size_toArray, List.length_cons, List.length_nil, List.length_append]; omega) ?_
    simp -dsimp only [go_sem, gS, app_mk]
    exact retW_drop (G := H) (leH_upd hb1 (.refl H)) (retW_is hK)
   ·have hr : rbr k g.kind = false := by rw [hkd, h5]; have := of_decide_eq_false h2; simp [rbr, this, g6]
    rw [Gl.rw_f k g hr] at hK
    simp -dsimp only [go_sem, gS, h2]
    rw [← hd]
    refine ih _ _ ?_
    simp -dsimp only [go_sem, gS]
    exact retW_drop (G := H) (leH_upd hb1 (.refl H)) (retW_is hK)
 have k5 : ¬ k = 5 := of_decide_eq_false h
 simp -dsimp only [go_sem, gS, h]
 refine gif_split (fun h => ?_) (fun h => ?_)
 ·have h5 : k = 7 := of_decide_eq_true h
  simp -dsimp only [go_sem, gS, h]
  refine gif_split (fun h2 => ?_) (fun h2 => ?_)
  ·have hr : rbr k g.kind = true := by rw [hkd, h5]; have := of_decide_eq_true h2; simp [rbr, this]
   rw [Gl.rw_t k g hr] at hK
   simp -dsimp only [go_sem, gS, h2]
   rw [← hd]
   refine ih _ _ ?_
   simp -dsimp only [go_sem, gS]
   refine andK_split (by simp only [List.size_toArray, List.length_cons, List.length_nil, List.length_append]; omega) ?_
   simp -dsimp only [go_sem, gS, app_mk]
   refine andK_split (by simp only [List.size_toArray, List.length_cons, List.length_nil, List.length_append]; omega) ?_
   simp -dsimp only [go_sem, gS, app_mk]
   exact retW_drop (G := H) (leH_upd hb1 (.refl H)) (retW_is hK)
  ·have g6 : ¬ gk = 6 := of_decide_eq_false h2
   simp -dsimp only [go_sem, gS, h2]
   refine gif_split (fun h2 => ?_) (fun h2 => ?_)
   ·have hr : rbr k g.kind = true := by rw [hkd, h5]; have := of_decide_eq_true h2; simp [rbr, this]
    rw [Gl.rw_t k g hr] at hK
    simp -dsimp only [go_sem, gS, h2]
    rw [← hd]
    refine ih _ _ ?_
    simp -dsimp only [go_sem, gS]
    refine andK_split (by simp only [List.size_toArray, List.length_cons, List.length_nil, List.length_append]; omega) ?_
    simp -dsimp only [go_sem, gS, app_mk]
    refine andK_split (by simp only [List.size_toArray, List.length_cons, List.length_nil, List.length_append]; omega) ?_
    simp -dsimp only [go_sem, gS, app_mk]
    exact retW_drop (G := H) (leH_upd hb1 (.refl H)) (retW_is hK)
   ·have hr : rbr k g.kind = false := by rw [hkd, h5]; have := of_decide_eq_false h2; simp [rbr, this, g6]
    rw [Gl.rw_f k g hr] at hK
    simp -dsimp only [go_sem, gS, h2]
    rw [← hd]
    refine ih _ _ ?_
    simp -dsimp only [go_sem, gS]
    exact retW_drop (G := H) (leH_upd hb1 (.refl H)) (retW_is hK)
 have k7 : ¬ k = 7 := of_decide_eq_false h
 simp -dsimp only [go_sem, gS, h]
 refine gif_split (fun h => ?_) (fun h => ?_)
 ·have h5 : k = 9 := of_decide_eq_true h
  simp -dsimp only [go_sem, gS, h]
  refine gif_split (fun h2 => ?_) (fun h2 => ?_)
  ·have hr : rbr k g.kind = true := by rw [hkd, h5]; have := of_decide_eq_true h2; simp [rbr, this]
   rw [Gl.rw_t k g hr] at hK
   simp -dsimp only [go_sem, gS, h2]
   rw [← hd]
   refine ih _ _ ?_
   simp -dsimp only [go_sem, gS]
   refine andK_split (by simp only [List.size_toArray, List.length_cons, List.length_nil, List.length_append]; omega) ?_
   simp -dsimp only [go_sem, gS, app_mk]
   refine andK_split (by simp only [List.size_toArray, List.length_cons, List.length_nil, List.length_append]; omega) ?_
   simp -dsimp only [go_sem, gS, app_mk]
   exact retW_drop (G := H) (leH_upd hb1 (.refl H)) (retW_is hK)
  ·have g6 : ¬ gk = 6 := of_decide_eq_false h2
   simp -dsimp only [go_sem, gS, h2]
   refine gif_split (fun h2 => ?_) (fun h2 => ?_)
   ·have hr : rbr k g.kind = true := by rw [hkd, h5]; have := of_decide_eq_true h2; simp [rbr, this]
    rw [Gl.rw_t k g hr] at hK
    simp -dsimp only [go_sem, gS, h2]
    rw [← hd]
    refine ih _ _ ?_
    simp -dsimp only [go_sem, gS]
    refine andK_split (by simp only [List.size_toArray, List.length_cons, List.length_nil, List.length_append]; omega) ?_
    simp -dsimp only [go_sem, gS, app_mk]
    refine andK_split (by simp only [List.size_toArray, List.length_cons, List.length_nil, List.length_append]; omega) ?_
    simp -dsimp only [go_sem, gS, app_mk]
    exact retW_drop (G := H) (leH_upd hb1 (.refl H)) (retW_is hK)
   ·have hr : rbr k g.kind = false := by rw [hkd, h5]; have := of_decide_eq_false h2; simp [rbr, this, g6]
    rw [Gl.rw_f k g hr] at hK
    simp -dsimp only [go_sem, gS, h2]
    rw [← hd]
    refine ih _ _ ?_
    simp -dsimp only [go_sem, gS]
    exact retW_drop (G := H) (leH_upd hb1 (.refl H)) (retW_is hK)
 have k9 : ¬ k = 9 := of_decide_eq_false h
 have hr : rbr k g.kind = false := by rw [hkd]; simp [rbr, k6, k5, k7, k9]
 simp -dsimp only [go_sem, gS, h]
 rw [Gl.rw_f k g hr] at hK
 rw [← hd]
 refine ih _ _ ?_
 simp -dsimp only [go_sem, gS]
 exact retW_drop (G := H) (leH_upd hb1 (.refl H)) (retW_is hK)
end Go.Aug.Prn

/- The reference's goals: Goal. -/
namespace Go.Aug.Prn
open Go.Proofs
set_option maxRecDepth 100000
set_option linter.unusedSimpArgs false
attribute [local irreducible] hid andK letA onSome onVar onArr arrOnly onInt onBool onTup idxA ldV ldD addO ofPart appTo fillL slA srcK nilQ retW gif sgd sguard svc sops sdops sagain aopO aLoad aStore aBin aUn aConv aLen aIndexAddr aIndex aIndexAddrS aIndexS aSlice aAppend aBuild aBuildSlice aMakeSlice aField aFieldOf aCallOp deepK deepL frzM putE newK newV growV ACall roundQ thenQ inBlockQ sret cnd szs nilC onRow aLookup aMapUpdate aMakeMap
variable {eb : EbG}
end Go.Aug.Prn

/- The reference's items. -/
namespace Go.Aug.Prn
open Go.Proofs
set_option maxRecDepth 100000
set_option linter.unusedSimpArgs false
attribute [local irreducible] hid andK letA onSome onVar onArr arrOnly onInt onBool onTup idxA ldV ldD addO ofPart appTo fillL slA srcK nilQ retW gif sgd sguard svc sops sdops sagain aopO aLoad aStore aBin aUn aConv aLen aIndexAddr aIndex aIndexAddrS aIndexS aSlice aAppend aBuild aBuildSlice aMakeSlice aField aFieldOf aCallOp deepK deepL frzM putE newK newV growV ACall roundQ thenQ inBlockQ sret cnd szs nilC onRow aLookup aMapUpdate aMakeMap
variable {eb : EbG}
end Go.Aug.Prn
