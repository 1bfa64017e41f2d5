/- The contracts of strconv.Itoa, strings.Join and strings.IndexByte, the example of augurlaw15, and the decimals; conditions stand in each contract. -/
import Derived.Test.YtjbafnbkcjoohaaGreatDoorFacts
import Derived.Test.YtjbafnbkcjoohaaGreatDoorShelf
import Derived.Sort.Grow
import Derived.Test.YtjbafnbkcjoohaaGreatDoorRunOne
set_option linter.all false
set_option linter.unusedVariables false
set_option linter.unusedSimpArgs false
set_option linter.unusedSectionVars false

/- strings.Join and strconv.Itoa, by the library's contracts. -/
namespace Go.Aug
open Go.Proofs Go.RowKit
set_option maxRecDepth 100000
variable {eb : Nat → Addr} {mm : Nat → Option Obj} {H : Heap} {K : A → Heap → Prop}

/-- The library's table of powers of ten lies as its text lays it. -/
def TabM (mm : Nat → Option Obj) : Prop := ∃ T fr, mm 6 = some (.cells (Lib.pow10Tab.map fun z => Value.int .u64 z).toArray T fr)

theorem pow10_named : Tryz.prog.globalNamed "internal/strconv.uint64pow10" = some 6 := by kernel_rfl

theorem below_grow (w : World) (k : Nat) (os : Array Obj) : Below w.heap.size w (Go.Sort.grow (w.drewN k) os) :=
  ⟨rfl, rfl, rfl, by show w.heap.size ≤ (w.heap ++ os).size; simp, fun i hi => by show (w.heap ++ os)[i]? = w.heap[i]?; rw [Array.getElem?_append_left hi]⟩

theorem itoa_ok (hm : TabM mm) (n : Int) (h0 : -9223372036854775808 ≤ n) (h1 : n ≤ 9223372036854775807) (hK : K (.d (.str ⟨(Lib.itoa n).toArray⟩)) H) : ACall Tryz.prog (seatZ eb mm) 38 [.d (.int .i64 n)] H K := by
  intro Z w cv hl hr m
  match cv, hl with
  | [v], _ =>
    have r := (hr 0 (by simp) (by simp)).deep
    simp only [List.getElem_cons_zero] at r
    cases r
    obtain ⟨T, fr, ht⟩ := hm
    obtain ⟨_, _, hh⟩ := m.env.fix 6 _ ht
    have htab : Lib.TabIs Tryz.prog w "internal/strconv.uint64pow10" .u64 Lib.pow10Tab := by
      unfold Lib.TabIs World.var?
      simp [pow10_named, hh]
    refine (Tryz.strconv_Itoa n h0 h1 w htab).mono ?_
    rintro e w' ⟨rfl, k, os, rfl⟩
    obtain ⟨m', x'⟩ := m.below (below_grow w k os)
    exact ⟨_, _, Z, H, rfl, .d _ _ (.str _), m', x', hK⟩

theorem flat_strs (ws : List ByteArray) : flat (ws.map .str) = ws.map .str := by
  induction ws with
  | nil => rfl
  | cons x l ih => simp only [flat, List.map_cons, List.flatMap_cons] at ih ⊢; rw [ih]; rfl

theorem join_ok (ws : List ByteArray) (sep : ByteArray) (h1 : ws.length ≤ 140737488355328) (h2 : (Lib.join (ws.map (·.data.toList)) sep.data.toList).length ≤ 140737488355328)
    (hK : K (.d (.str ⟨(Lib.join (ws.map (·.data.toList)) sep.data.toList).toArray⟩)) H) : ACall Tryz.prog (seatZ eb mm) 41 [.d (.slice (ws.map .str)), .d (.str sep)] H K := by
  intro Z w cv hl hr m
  match cv, hl with
  | [v, u], _ =>
    have r := (hr 0 (by simp) (by simp)).deep
    have r2 := (hr 1 (by simp) (by simp)).deep
    simp only [List.getElem_cons_zero, List.getElem_cons_succ] at r r2
    cases r2
    generalize he : ws.map D.str = es at r
    cases r with
    | empty a cap =>
      have : ws = [] := by simpa using he
      subst this
      refine (Tryz.strings_Join_none a cap sep w).mono ?_
      rintro e w' ⟨rfl, rfl⟩
      exact ⟨_, _, Z, H, rfl, .d _ _ (.str _), m, .refl .., hK⟩
    | slice b o cap _ sz cvs hk hz hb hs hc hone hrr =>
      subst he
      have hlen : (ws.map D.str).length = ws.length := by simp
      have hfl := flat_strs ws
      have hcells : ∀ (j : Nat) x, ws[j]? = some x → w.cell? ⟨b, o + j, none⟩ = some (.string x) := by
        intro j x hx
        obtain ⟨hj, rfl⟩ := List.getElem?_eq_some_iff.1 hx
        have hj' : j < (flat (ws.map D.str)).length := by rw [hfl]; simpa using hj
        have h3 := hrr j hj'
        have h4 : (flat (ws.map D.str))[j] = .str ws[j] := by simp [hfl]
        rw [h4] at h3
        rw [hc j hj']
        generalize cvs j = y at h3
        cases h3; rfl
      have key := Tryz.strings_Join b o cap ws sep w hcells hb h1 (by rw [← hlen]; exact hk) h2
      rw [hlen]
      refine key.mono ?_
      rintro e w' ⟨rfl, hbl⟩
      obtain ⟨m', x'⟩ := m.below hbl
      exact ⟨_, _, Z, H, rfl, .d _ _ (.str _), m', x', hK⟩

theorem indexByte_ok (s : ByteArray) (c : Int) (hK : K (.d (.int .i64 (Lib.indexByte s.data.toList c.toNat.toUInt8))) H) : ACall Tryz.prog (seatZ eb mm) 192 [.d (.str s), .d (.int .u8 c)] H K := by
  intro Z w cv hl hr m
  match cv, hl with
  | [v, u], _ =>
    have r := (hr 0 (by simp) (by simp)).deep
    have r2 := (hr 1 (by simp) (by simp)).deep
    simp only [List.getElem_cons_zero, List.getElem_cons_succ] at r r2
    cases r; cases r2
    refine (Tryz.strings_IndexByte s c w).mono ?_
    rintro e w' ⟨rfl, rfl⟩
    exact ⟨_, _, Z, H, rfl, .d _ _ (.int ..), m, .refl .., hK⟩
end Go.Aug

/- Closed runs over the great seat's functions: the table of functions in short; the parser's way in. -/
namespace Go.Aug
open Go.Proofs
set_option maxRecDepth 100000

def pickE {α : Type} (b : Bool) (x y : Option α) : Option α := match b with
  | true => x
  | false => y
theorem pickE_some {α : Type} {b : Bool} {x y : Option α} {e : α} (h : pickE b x y = some e) : (b = true ∧ x = some e) ∨ y = some e := by
  cases b
  · exact .inr h
  · exact .inl ⟨rfl, h⟩
noncomputable def tabZ (f : FuncId) : Option (Nat × List ResultVar × SCode) :=
  pickE (Nat.beq f 4) (some (10, [.tmp 2], s4)) <|
  pickE (Nat.beq f 15) (some (20, [.tmp 0], s15)) <|
  pickE (Nat.beq f 16) (some (81, [.tmp 2], s16)) <|
  pickE (Nat.beq f 17) (some (82, [.tmp 2], s17)) <|
  pickE (Nat.beq f 21) (some (8, [.tmp 2, .tmp 3], s21)) <|
  pickE (Nat.beq f 22) (some (17, [.tmp 2], s22)) <|
  pickE (Nat.beq f 39) (some (29, [.tmp 2], s39)) <|
  pickE (Nat.beq f 40) (some (38, [.tmp 2, .tmp 3], s40)) <|
  pickE (Nat.beq f 48) (some (28, [.tmp 2], s48)) <|
  pickE (Nat.beq f 53) (some (14, [.tmp 2], s53)) <|
  pickE (Nat.beq f 56) (some (19, [.tmp 2], s56)) <|
  pickE (Nat.beq f 57) (some (15, [], s57)) <|
  pickE (Nat.beq f 58) (some (35, [], s58)) <|
  pickE (Nat.beq f 62) (some (9, [.tmp 4], s62)) <|
  pickE (Nat.beq f 68) (some (17, [.tmp 2, .tmp 3], s68)) <|
  pickE (Nat.beq f 87) (some (42, [.tmp 2], s87)) <|
  pickE (Nat.beq f 95) (some (19, [.tmp 4], s95)) <|
  pickE (Nat.beq f 112) (some (36, [.tmp 4], s112)) <|
  pickE (Nat.beq f 113) (some (10, [.tmp 5], s113)) <|
  pickE (Nat.beq f 156) (some (35, [.tmp 4], s156)) <|
  pickE (Nat.beq f 157) (some (60, [.cell 4 175, .tmp 5], s157)) <|
  pickE (Nat.beq f 193) (some (9, [.tmp 2], s193)) <|
  pickE (Nat.beq f 194) (some (13, [.tmp 2], s194)) <|
  pickE (Nat.beq f 195) (some (25, [.tmp 6], s195)) <|
  pickE (Nat.beq f 196) (some (13, [.tmp 2], s196)) <|
  pickE (Nat.beq f 197) (some (9, [.tmp 2], s197)) <|
  pickE (Nat.beq f 199) (some (8, [.tmp 4], s199)) <|
  pickE (Nat.beq f 219) (some (18, [.tmp 4], s219)) <|
  none

theorem tabZ_ok (f : FuncId) (e : Nat × List ResultVar × SCode) (h : tabZ f = some e) : FnIs Tryz.prog f e.1 e.2.1 e.2.2 := by
  unfold tabZ at h
  rcases pickE_some h with ⟨hb, he⟩ | h; · (cases he; rw [Nat.eq_of_beq_eq_true hb]; exact fn4)
  rcases pickE_some h with ⟨hb, he⟩ | h; · (cases he; rw [Nat.eq_of_beq_eq_true hb]; exact fn15)
  rcases pickE_some h with ⟨hb, he⟩ | h; · (cases he; rw [Nat.eq_of_beq_eq_true hb]; exact fn16)
  rcases pickE_some h with ⟨hb, he⟩ | h; · (cases he; rw [Nat.eq_of_beq_eq_true hb]; exact fn17)
  rcases pickE_some h with ⟨hb, he⟩ | h; · (cases he; rw [Nat.eq_of_beq_eq_true hb]; exact fn21)
  rcases pickE_some h with ⟨hb, he⟩ | h; · (cases he; rw [Nat.eq_of_beq_eq_true hb]; exact fn22)
  rcases pickE_some h with ⟨hb, he⟩ | h; · (cases he; rw [Nat.eq_of_beq_eq_true hb]; exact fn39)
  rcases pickE_some h with ⟨hb, he⟩ | h; · (cases he; rw [Nat.eq_of_beq_eq_true hb]; exact fn40)
  rcases pickE_some h with ⟨hb, he⟩ | h; · (cases he; rw [Nat.eq_of_beq_eq_true hb]; exact fn48)
  rcases pickE_some h with ⟨hb, he⟩ | h; · (cases he; rw [Nat.eq_of_beq_eq_true hb]; exact fn53)
  rcases pickE_some h with ⟨hb, he⟩ | h; · (cases he; rw [Nat.eq_of_beq_eq_true hb]; exact fn56)
  rcases pickE_some h with ⟨hb, he⟩ | h; · (cases he; rw [Nat.eq_of_beq_eq_true hb]; exact fn57)
  rcases pickE_some h with ⟨hb, he⟩ | h; · (cases he; rw [Nat.eq_of_beq_eq_true hb]; exact fn58)
  rcases pickE_some h with ⟨hb, he⟩ | h; · (cases he; rw [Nat.eq_of_beq_eq_true hb]; exact fn62)
  rcases pickE_some h with ⟨hb, he⟩ | h; · (cases he; rw [Nat.eq_of_beq_eq_true hb]; exact fn68)
  rcases pickE_some h with ⟨hb, he⟩ | h; · (cases he; rw [Nat.eq_of_beq_eq_true hb]; exact fn87)
  rcases pickE_some h with ⟨hb, he⟩ | h; · (cases he; rw [Nat.eq_of_beq_eq_true hb]; exact fn95)
  rcases pickE_some h with ⟨hb, he⟩ | h; · (cases he; rw [Nat.eq_of_beq_eq_true hb]; exact fn112)
  rcases pickE_some h with ⟨hb, he⟩ | h; · (cases he; rw [Nat.eq_of_beq_eq_true hb]; exact fn113)
  rcases pickE_some h with ⟨hb, he⟩ | h; · (cases he; rw [Nat.eq_of_beq_eq_true hb]; exact fn156)
  rcases pickE_some h with ⟨hb, he⟩ | h; · (cases he; rw [Nat.eq_of_beq_eq_true hb]; exact fn157)
  rcases pickE_some h with ⟨hb, he⟩ | h; · (cases he; rw [Nat.eq_of_beq_eq_true hb]; exact fn193)
  rcases pickE_some h with ⟨hb, he⟩ | h; · (cases he; rw [Nat.eq_of_beq_eq_true hb]; exact fn194)
  rcases pickE_some h with ⟨hb, he⟩ | h; · (cases he; rw [Nat.eq_of_beq_eq_true hb]; exact fn195)
  rcases pickE_some h with ⟨hb, he⟩ | h; · (cases he; rw [Nat.eq_of_beq_eq_true hb]; exact fn196)
  rcases pickE_some h with ⟨hb, he⟩ | h; · (cases he; rw [Nat.eq_of_beq_eq_true hb]; exact fn197)
  rcases pickE_some h with ⟨hb, he⟩ | h; · (cases he; rw [Nat.eq_of_beq_eq_true hb]; exact fn199)
  rcases pickE_some h with ⟨hb, he⟩ | h; · (cases he; rw [Nat.eq_of_beq_eq_true hb]; exact fn219)
  cases h

def sfst : SCode → SCode
  | .seq x _ => x
  | x => x
def ssnd : SCode → SCode
  | .seq _ y => y
  | x => x
noncomputable def d47 : DEnt := { N := 35, rs := [.cell 4 62, .cell 5 55], X1 := sfst s47, X2 := sfst (ssnd s47), X3 := sfst (ssnd (ssnd s47)), X4 := ssnd (ssnd (ssnd (ssnd s47))), kk := some [1, 4, 5, 6], s := 17, g := 69, caps := #[.tmp 4, .tmp 5] }
theorem d47_code : s47 = d47.code := by kernel_rfl
theorem d47_ok : d47.ok Tryz.prog 47 where
  fn := by have := fn47; rw [d47_code] at this; exact this
  lt := by decide
  enter := fun cv w1 => by
    have hn : (Tryz.f69.name == "runtime.NumGoroutine") = false := by kernel_rfl
    have h1 : Tryz.f69.name ≠ "runtime.NumGoroutine" := by simpa using hn
    have hb : (Tryz.f69.body.isSome) = true := by kernel_rfl
    obtain ⟨c, hc⟩ := Option.isSome_iff_exists.1 hb
    show (callFunc 69 (#[] ++ cv)).run Tryz.prog w1 = .ok (.enter 69 cv) w1
    simp [callFunc, func69, h1, hc]
  idle := idle69
noncomputable def dtabZ (f : FuncId) : Option DEnt := match Nat.beq f 47 with | true => some d47 | false => none
theorem dtabZ_ok (f : FuncId) (e : DEnt) (h : dtabZ f = some e) : e.ok Tryz.prog f := by
  unfold dtabZ at h
  split at h
  · rename_i hb; cases h; rw [Nat.eq_of_beq_eq_true hb]; exact d47_ok
  · cases h

/- The library's two functions. -/
def decF : Nat → Nat → List UInt8 → List UInt8
  | 0, _, acc => acc
  | f + 1, u, acc => match Nat.blt u 10 with
    | true => UInt8.ofNat (48 + u) :: acc
    | false => decF f (u / 10) (UInt8.ofNat (48 + u % 10) :: acc)
theorem decF_eq : ∀ (f u : Nat) (acc : List UInt8), u < 10 ^ (f + 1) → decF (f + 1) u acc = Lib.decDigits u ++ acc
  | f, u, acc, h => by
    rw [Lib.decDigits]
    unfold decF
    by_cases hu : u < 10
    · have : Nat.blt u 10 = true := Nat.ble_eq_true_of_le hu
      rw [this, dif_pos hu]; rfl
    · have : Nat.blt u 10 = false := by
        cases hb : Nat.blt u 10 with
        | false => rfl
        | true => exact (hu (Nat.le_of_ble_eq_true hb)).elim
      rw [this, dif_neg hu]
      simp only
      cases f with
      | zero => simp at h; omega
      | succ f =>
        rw [decF_eq f (u / 10) _ (by rw [Nat.pow_succ] at h; omega)]
        simp
def itoaF : Int → List UInt8
  | .ofNat n => decF 20 n []
  | .negSucc n => 45 :: decF 20 (n + 1) []
theorem itoaF_eq (n : Int) (h0 : -9223372036854775808 ≤ n) (h1 : n ≤ 9223372036854775807) : itoaF n = Lib.itoa n := by
  unfold itoaF Lib.itoa
  cases n with
  | ofNat n =>
    simp only [Int.ofNat_eq_natCast] at h1 ⊢
    rw [if_neg (by omega), decF_eq 19 n [] (by omega)]
    simp
  | negSucc n =>
    simp only
    rw [if_pos (Int.negSucc_lt_zero n), decF_eq 19 (n + 1) [] (by omega)]
    simp
def strsOf : List D → Option (List ByteArray)
  | [] => some []
  | .str s :: l => xbind (strsOf l) fun r => some (s :: r)
  | _ => none
theorem strsOf_eq : ∀ {l : List D} {ws : List ByteArray}, strsOf l = some ws → l = ws.map .str
  | [], ws, h => by cases h; rfl
  | x :: l, ws, h => by
    unfold strsOf at h
    split at h
    · cases h; simp_all
    · rename_i s l' he
      cases he
      obtain ⟨r, h1, h⟩ := xbind_some h
      cases h
      rw [strsOf_eq h1]; rfl
    · cases h
def libZ : XCall := fun f args S =>
  pickE (Nat.beq f 38) (match args with
    | [.d (.int .i64 n)] => xif (decide (-9223372036854775808 ≤ n) && decide (n ≤ 9223372036854775807)) (some (.d (.str ⟨⟨itoaF n⟩⟩), S))
    | _ => none) <|
  pickE (Nat.beq f 41) (match args with
    | [x, .d (.str sep)] => xbind (xdeep S x) fun p => match p.1 with
      | .slice ds => xbind (strsOf ds) fun ws => xif (Nat.ble ws.length 1000) (xif (Nat.ble (Lib.join (ws.map (·.data.toList)) sep.data.toList).length 100000) (some (.d (.str ⟨⟨Lib.join (ws.map (·.data.toList)) sep.data.toList⟩⟩), p.2)))
      | _ => none
    | _ => none) <|
  pickE (Nat.beq f 192) (match args with
    | [.d (.str s), .d (.int .u8 c)] => some (.d (.int .i64 (Lib.indexByte s.data.toList c.toNat.toUInt8)), S)
    | _ => none) <|
  none
theorem libZ_ok {eb : Nat → Addr} {mm : Nat → Option Obj} (hm : TabM mm) : XCallOk Tryz.prog (seatZ eb mm) libZ := by
  intro f args S r S' h L U args' H K ra hH hK
  unfold libZ at h
  rcases pickE_some h with ⟨hb, g⟩ | g
  · clear h
    rw [Nat.eq_of_beq_eq_true hb]
    split at g
    · rename_i n
      obtain ⟨h1, h2⟩ := xif_some g
      simp only [Bool.and_eq_true, decide_eq_true_eq] at h1
      cases h2
      cases ra with
      | cons ra t =>
        cases t
        cases ra
        refine itoa_ok hm n h1.1 h1.2 ?_
        have := hK.here (y' := .d (.str ⟨⟨itoaF n⟩⟩)) (.d _) hH
        rw [itoaF_eq n h1.1 h1.2] at this
        exact this
    · cases g
  · clear h
    rcases pickE_some g with ⟨hb, h⟩ | h
    · clear g
      rw [Nat.eq_of_beq_eq_true hb]
      split at h
      · rename_i x sep
        obtain ⟨⟨d, S1⟩, h1, h5⟩ := xbind_some h
        clear h
        simp only at h5
        split at h5
        · rename_i ds
          obtain ⟨ws, h2, h6⟩ := xbind_some h5
          obtain ⟨h3, h7⟩ := xif_some h6
          obtain ⟨h4, h8⟩ := xif_some h7
          clear h5 h6 h7
          cases h8
          cases ra with
          | cons ra t =>
            cases t with
            | cons rb t =>
              cases t
              cases rb
              refine ACall.frz [true, false] ?_
              simp only [frzM]
              refine xdeep_sound h1 ra hH ?_
              intro H1 hH1
              rw [strsOf_eq h2]
              have h3 := ble_le h3
              have h4 := ble_le h4
              refine join_ok ws sep (by omega) (by omega) ?_
              exact hK.here (.d _) hH1
        · cases h5
      · cases h
    · rcases pickE_some h with ⟨hb, g2⟩ | g2
      · clear h g
        rw [Nat.eq_of_beq_eq_true hb]
        split at g2
        · rename_i s c
          cases g2
          cases ra with
          | cons ra t =>
            cases t with
            | cons rb t =>
              cases t; cases ra; cases rb
              exact indexByte_ok s c (hK.here (.d _) hH)
        · cases g2
      · cases g2

variable {eb : Nat → Addr} {mm : Nat → Option Obj}
noncomputable def runZ (eb : Nat → Addr) (mm : Nat → Option Obj) (lib : XCall) (n : Nat) (f : FuncId) (args : List A) : Option (A × XH) :=
  xcallBy Tryz.prog (seatZ eb mm) tabZ (xdefer Tryz.prog (seatZ eb mm) dtabZ lib) (xrun Tryz.prog (seatZ eb mm) (xcallBy Tryz.prog (seatZ eb mm) tabZ (xdefer Tryz.prog (seatZ eb mm) dtabZ lib)) n) f args xh0
end Go.Aug

/- alive of the code layer: the example, reckoned. -/
namespace Go.Aug
open Go.Proofs
set_option maxRecDepth 100000
variable {eb : Nat → Addr} {mm : Nat → Option Obj}
theorem onSome_of {α : Type} {o : Option α} {K : α → Prop} {l : Lk K} (x : α) (h : o = some x) (hK : K x) : onSome o (hid K l) := by
  rw [h]; exact hK
theorem alive15 (hm : TabM mm) (H : Heap) : ACall Tryz.prog (seatZ eb mm) 15 [] H fun r H' => r = .d (.bool true) ∧ H' = H :=
  ACall.keep (xclosed_ok (P := Tryz.prog) (V := seatZ eb mm) mixed tabZ_ok (fun rec hr => xdefer_ok mixed dtabZ_ok (libZ_ok hm) rec hr) (n := 100) (args := []) (by kernel_rfl) _)
end Go.Aug

/- The reference's decimals are strconv's. -/
namespace Go.Aug
open Go.Proofs
set_option maxRecDepth 100000
set_option linter.unusedSimpArgs false
attribute [local irreducible] hid andK letA onSome onVar onArr arrOnly onInt onBool onFunc onTup idxA ldV ldD addO ofPart appTo fillL slA srcK nilQ retW gif sgd sguard svc sops sdops sagain aopO aLoad aStore aBin aUn aConv aLen aIndexAddr aIndex aIndexAddrS aIndexS aSlice aAppend aBuild aBuildSlice aMakeSlice aField aFieldOf aCallOp deepK deepL frzM putE newK newV growV ACall roundQ thenQ inBlockQ sret cnd szs nilC onMap onRow aLookup aMapUpdate aMakeMap
variable {eb : Nat → Addr} {mm : Nat → Option Obj}

theorem wrap_in {n : Int} (h0 : -9223372036854775808 ≤ n) (h1 : n ≤ 9223372036854775807) : IntKind.i64.wrap n = n := by
  rw [IntKind.wrap_i64]; omega

theorem tdiv_natAbs (m : Int) : (m.tdiv 10).natAbs = m.natAbs / 10 := by
  rw [Int.natAbs_tdiv]; rfl
theorem tmod_natAbs (m : Int) : (m.tmod 10).natAbs = m.natAbs % 10 := by
  rw [Int.natAbs_tmod]; rfl

theorem dec_big {u : Nat} (h : ¬ u < 10) : Lib.decDigits u = Lib.decDigits (u / 10) ++ [UInt8.ofNat (48 + u % 10)] := by
  rw [Lib.decDigits, dif_neg h]
theorem dec_small {u : Nat} (h : u < 10) : Lib.decDigits u = [UInt8.ofNat (48 + u)] := by
  rw [Lib.decDigits, dif_pos h]

theorem app_mk (a b : List UInt8) : (⟨a.toArray⟩ : ByteArray) ++ ⟨b.toArray⟩ = ⟨(a ++ b).toArray⟩ := by
  rw [← strAdd_eq]
  simp [strAdd]
theorem size_mk (a : List UInt8) : ByteArray.size ⟨a.toArray⟩ = a.length := by simp [ByteArray.size]

theorem byteD_ofNat {n : Nat} (h : n < 256) : byteD (UInt8.ofNat n) = .int .u8 (n : Int) := by
  simp [byteD, Nat.mod_eq_of_lt h]

theorem le_none {H G : Heap} (h : LeH H G) {b : Nat} (hb : G b = none) : H b = none := by
  cases e : H b with
  | none => rfl
  | some o => have := h b o e; rw [hb] at this; cases this

theorem decimal_ok (H : Heap) (n : Int) (h0 : -9223372036854775808 ≤ n) (h1 : n ≤ 9223372036854775807) (K : A → Heap → Prop) (hK : K (.d (.str ⟨(Lib.itoa n).toArray⟩)) H) : ACall Tryz.prog (seatZ eb mm) 39 [.d (.int .i64 n)] H K := by
  refine ACall.by mixed fn39 (by simp) ?_
  conv in s39 => cbv
  refine svc_start ?_
  simp -dsimp (maxDischargeDepth := 9) only [go_sem, Nat.reduceBEq, Nat.reduceLT, Nat.reduceAdd, Nat.reduceSub, Nat.reduceMul, Nat.reduceLeDiff, Int.reduceLE, Int.toNat_natCast, Int.natCast_nonneg, List.getElem?_map, List.length_map, Nat.zero_add, eq_self, Bool.not_true, Bool.not_false]
  refine svc_loop (X := Int × List UInt8 × Nat) (fun x => [(0, .d (.int .i64 n)), (3, .d (.str ⟨x.2.1.toArray⟩)), (4, .d (.int .i64 x.1))])
    (fun x G => LeH H G ∧ x.1.natAbs < 10 ^ x.2.2 ∧ 1 ≤ x.2.2 ∧ x.2.2 + x.2.1.length ≤ 20 ∧ x.1.natAbs ≤ 9223372036854775808 ∧ Lib.decDigits n.natAbs = Lib.decDigits x.1.natAbs ++ x.2.1) (fun x => x.2.2) (n, [], 19) H
    ⟨.refl H, by simp only; omega, by simp, by simp, by simp only; omega, by simp⟩ (by simp -dsimp (maxDischargeDepth := 9) only [go_sem, Nat.reduceBEq, Nat.reduceLT, Nat.reduceAdd, Nat.reduceSub, Nat.reduceMul, Nat.reduceLeDiff, Int.reduceLE, Int.toNat_natCast, Int.natCast_nonneg, List.getElem?_map, List.length_map, Nat.zero_add, eq_self, Bool.not_true, Bool.not_false]) (.refl H) ?_
  rintro ⟨m, s, f⟩ G ⟨hG, hm, hf, hs, hmm, hd⟩
  simp only at hG hm hf hs hmm hd
  have hdm : m.natAbs % 10 < 10 := Nat.mod_lt _ (by decide)
  have ht := tmod_natAbs m
  have hq := tdiv_natAbs m
  have hw1 : m.tmod 10 < 0 → IntKind.i64.wrap (0 - m.tmod 10) = ((m.natAbs % 10 : Nat) : Int) := fun h => by rw [wrap_in (by omega) (by omega)]; omega
  have hw2 : ¬ m.tmod 10 < 0 → m.tmod 10 = ((m.natAbs % 10 : Nat) : Int) := fun h => by omega
  have hw3 : IntKind.i64.wrap (48 + ((m.natAbs % 10 : Nat) : Int)) = ((48 + m.natAbs % 10 : Nat) : Int) := by rw [wrap_in (by omega) (by omega)]; omega
  have hw4 : IntKind.u8.wrap ((48 + m.natAbs % 10 : Nat) : Int) = ((48 + m.natAbs % 10 : Nat) : Int) := by rw [IntKind.wrap_u8]; omega
  have hw5 : IntKind.i64.wrap (m.tdiv 10) = m.tdiv 10 := wrap_in (by omega) (by omega)
  have hby : [D.int .u8 ((48 + m.natAbs % 10 : Nat) : Int)] = [UInt8.ofNat (48 + m.natAbs % 10)].map byteD := by rw [List.map_cons, List.map_nil, byteD_ofNat (by omega)]
  have hsz : ByteArray.size ⟨[UInt8.ofNat (48 + m.natAbs % 10)].toArray⟩ + ByteArray.size ⟨s.toArray⟩ ≤ 9223372036854775807 := by rw [size_mk, size_mk]; simp only [List.length_cons, List.length_nil]; omega
  -- behind the digit
  have fin : ∀ (c : UInt8), c = UInt8.ofNat (48 + m.natAbs % 10) → (m.tdiv 10 = 0 → Lib.decDigits n.natAbs = c :: s) ∧ (m.tdiv 10 ≠ 0 → 2 ≤ f ∧ (m.tdiv 10).natAbs < 10 ^ (f - 1) ∧ Lib.decDigits n.natAbs = Lib.decDigits (m.tdiv 10).natAbs ++ c :: s) := by
    rintro c rfl
    refine ⟨fun h => ?_, fun h => ?_⟩
    · have h10 : m.natAbs < 10 := by omega
      rw [hd, dec_small h10, Nat.mod_eq_of_lt h10]; rfl
    · have h10 : ¬ m.natAbs < 10 := by omega
      have hf2 : 2 ≤ f := by
        rcases Nat.lt_or_ge f 2 with h' | h'
        · have : f = 1 := by omega
          subst this
          simp at hm; omega
        · exact h'
      refine ⟨hf2, ?_, ?_⟩
      · rw [hq]
        have : 10 ^ f = 10 ^ (f - 1) * 10 := by rw [← Nat.pow_succ]; congr 1; omega
        omega
      · rw [hd, dec_big h10, hq]; simp
  simp -dsimp (maxDischargeDepth := 9) only [go_sem, Nat.reduceBEq, Nat.reduceLT, Nat.reduceAdd, Nat.reduceSub, Nat.reduceMul, Nat.reduceLeDiff, Int.reduceLE, Int.toNat_natCast, Int.natCast_nonneg, List.getElem?_map, List.length_map, Nat.zero_add, eq_self, Bool.not_true, Bool.not_false]
  refine andK_split (by omega) ?_
  simp -dsimp (maxDischargeDepth := 9) only [go_sem, Nat.reduceBEq, Nat.reduceLT, Nat.reduceAdd, Nat.reduceSub, Nat.reduceMul, Nat.reduceLeDiff, Int.reduceLE, Int.toNat_natCast, Int.natCast_nonneg, List.getElem?_map, List.length_map, Nat.zero_add, eq_self, Bool.not_true, Bool.not_false]
  refine (fun (rest : ∀ G2, LeH H G2 → (?T : Heap → Prop) G2) => ?main) ?rest
  case main =>
    generalize hG9 : G = G9
    refine gif_split (fun h => ?_) (fun h => ?_)
    · have h' : m.tmod 10 < 0 := of_decide_eq_true h
      have e := hw1 h'
      simp -dsimp (maxDischargeDepth := 9) only [go_sem, Nat.reduceBEq, Nat.reduceLT, Nat.reduceAdd, Nat.reduceSub, Nat.reduceMul, Nat.reduceLeDiff, Int.reduceLE, Int.toNat_natCast, Int.natCast_nonneg, List.getElem?_map, List.length_map, Nat.zero_add, eq_self, Bool.not_true, Bool.not_false, e, hw3, hw4]
      exact rest G9 (hG9 ▸ hG)
    · have h' : ¬ m.tmod 10 < 0 := of_decide_eq_false h
      have e := hw2 h'
      simp -dsimp (maxDischargeDepth := 9) only [go_sem, Nat.reduceBEq, Nat.reduceLT, Nat.reduceAdd, Nat.reduceSub, Nat.reduceMul, Nat.reduceLeDiff, Int.reduceLE, Int.toNat_natCast, Int.natCast_nonneg, List.getElem?_map, List.length_map, Nat.zero_add, eq_self, Bool.not_true, Bool.not_false, e, hw3, hw4]
      exact rest G9 (hG9 ▸ hG)
  case rest =>
    intro G2 hG2
    refine newK_intro (fun b hb hn hm' => ?_)
    have hHb : H b = none := le_none hG2 hb
    simp -dsimp (maxDischargeDepth := 9) only [go_sem, Nat.reduceBEq, Nat.reduceLT, Nat.reduceAdd, Nat.reduceSub, Nat.reduceMul, Nat.reduceLeDiff, Int.reduceLE, Int.toNat_natCast, Int.natCast_nonneg, List.getElem?_map, List.length_map, Nat.zero_add, eq_self, Bool.not_true, Bool.not_false, hw3, hw4]
    refine ⟨_, hby, ?_⟩
    refine andK_split (by simp only [List.size_toArray, List.length_cons, List.length_nil]; omega) ?_
    simp -dsimp (maxDischargeDepth := 9) only [go_sem, Nat.reduceBEq, Nat.reduceLT, Nat.reduceAdd, Nat.reduceSub, Nat.reduceMul, Nat.reduceLeDiff, Int.reduceLE, Int.toNat_natCast, Int.natCast_nonneg, List.getElem?_map, List.length_map, Nat.zero_add, eq_self, Bool.not_true, Bool.not_false, app_mk, hw5]
    refine andK_split (by omega) ?_
    simp -dsimp (maxDischargeDepth := 9) only [go_sem, Nat.reduceBEq, Nat.reduceLT, Nat.reduceAdd, Nat.reduceSub, Nat.reduceMul, Nat.reduceLeDiff, Int.reduceLE, Int.toNat_natCast, Int.natCast_nonneg, List.getElem?_map, List.length_map, Nat.zero_add, eq_self, Bool.not_true, Bool.not_false, hw5]
    obtain ⟨fa, fb⟩ := fin _ rfl
    refine gif_split (fun h => ?_) (fun h => ?_)
    · have h' := fa (of_decide_eq_true h)
      simp -dsimp (maxDischargeDepth := 9) only [go_sem, Nat.reduceBEq, Nat.reduceLT, Nat.reduceAdd, Nat.reduceSub, Nat.reduceMul, Nat.reduceLeDiff, Int.reduceLE, Int.toNat_natCast, Int.natCast_nonneg, List.getElem?_map, List.length_map, Nat.zero_add, eq_self, Bool.not_true, Bool.not_false, h]
      refine gif_split (fun h2 => ?_) (fun h2 => ?_)
      · have h3 : n < 0 := of_decide_eq_true h2
        simp -dsimp (maxDischargeDepth := 9) only [go_sem, Nat.reduceBEq, Nat.reduceLT, Nat.reduceAdd, Nat.reduceSub, Nat.reduceMul, Nat.reduceLeDiff, Int.reduceLE, Int.toNat_natCast, Int.natCast_nonneg, List.getElem?_map, List.length_map, Nat.zero_add, eq_self, Bool.not_true, Bool.not_false, h2]
        refine andK_split (by simp only [List.size_toArray, List.length_cons, List.length_nil]; omega) ?_
        simp -dsimp (maxDischargeDepth := 9) only [go_sem, Nat.reduceBEq, Nat.reduceLT, Nat.reduceAdd, Nat.reduceSub, Nat.reduceMul, Nat.reduceLeDiff, Int.reduceLE, Int.toNat_natCast, Int.natCast_nonneg, List.getElem?_map, List.length_map, Nat.zero_add, eq_self, Bool.not_true, Bool.not_false, app_mk]
        refine retW_drop (G := H) (leH_upd hHb hG2) (retW_is ?_)
        have : Lib.itoa n = 45 :: Lib.decDigits n.natAbs := by unfold Lib.itoa; rw [if_pos h3]
        rw [this, h'] at hK
        exact hK
      · have h3 : ¬ n < 0 := of_decide_eq_false h2
        simp -dsimp (maxDischargeDepth := 9) only [go_sem, Nat.reduceBEq, Nat.reduceLT, Nat.reduceAdd, Nat.reduceSub, Nat.reduceMul, Nat.reduceLeDiff, Int.reduceLE, Int.toNat_natCast, Int.natCast_nonneg, List.getElem?_map, List.length_map, Nat.zero_add, eq_self, Bool.not_true, Bool.not_false, h2]
        refine retW_drop (G := H) (leH_upd hHb hG2) (retW_is ?_)
        have : Lib.itoa n = Lib.decDigits n.natAbs := by unfold Lib.itoa; rw [if_neg h3, show n.toNat = n.natAbs by omega]
        rw [this, h'] at hK
        exact hK
    · obtain ⟨h4, h5, h6⟩ := fb (of_decide_eq_false h)
      simp -dsimp (maxDischargeDepth := 9) only [go_sem, Nat.reduceBEq, Nat.reduceLT, Nat.reduceAdd, Nat.reduceSub, Nat.reduceMul, Nat.reduceLeDiff, Int.reduceLE, Int.toNat_natCast, Int.natCast_nonneg, List.getElem?_map, List.length_map, Nat.zero_add, eq_self, Bool.not_true, Bool.not_false, h]
      exact roundQ_next (m.tdiv 10, UInt8.ofNat (48 + m.natAbs % 10) :: s, f - 1) _ ⟨leH_upd hHb hG2, h5, by simp only; omega, by simp only [List.length_cons]; omega, by simp only; omega, h6⟩ (by simp only; omega) (by simp -dsimp (maxDischargeDepth := 9) only [go_sem, Nat.reduceBEq, Nat.reduceLT, Nat.reduceAdd, Nat.reduceSub, Nat.reduceMul, Nat.reduceLeDiff, Int.reduceLE, Int.toNat_natCast, Int.natCast_nonneg, List.getElem?_map, List.length_map, Nat.zero_add, eq_self, Bool.not_true, Bool.not_false]) (.refl _)
end Go.Aug
