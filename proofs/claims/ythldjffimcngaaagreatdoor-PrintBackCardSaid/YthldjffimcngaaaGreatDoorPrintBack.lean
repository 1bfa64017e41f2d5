/- PrintBack: the row and the card. -/
import Derived.Test.YthldjffimcngaaaGreatDoorAugFour
import Derived.Test.YthldjffimcngaaaGreatDoorRows
import Derived.Test.YthldjffimcngaaaGreatDoorCards
import Derived.Test.YthldjffimcngaaaGreatDoorTie
import Derived.ChangeSame
import Derived.ChangeVars
import Derived.JoinedOf
import Derived.RowKit
import Derived.RowKitTokens
import Derived.Carry
import Derived.LaidLaws
import Derived.LaidMore
import Derived.OpenShut
import Derived.Lay
import Derived.Stop.ErrReads
import Derived.Stop.Joined
import Derived.SevenTiedAt
import Derived.Test.YthldjffimcngaaaGreatDoorPrinterThree
set_option linter.all false
set_option linter.unusedVariables false
set_option linter.unusedSimpArgs false
set_option linter.unusedSectionVars false

/- PrintBack: the row and the card. -/
namespace Go.Proofs.YthldjffimcngaaaGreatDoor
open Go Go.Aug Go.ChangeShapes Go.WideShapes Go.RowKit
set_option maxRecDepth 100000
theorem own:ownKnob Tryz.prog.godebug=none:=by kernel_rfl
theorem zVe : "*" ++ "errors.errorString" = "*errors.errorString" := by decide
theorem rowV (u:TypeId) (h:Tryz.prog.typeName? 3 u=some "*errors.errorString"):u=183 :=
 typeName_ptr_named (nm := "errors.errorString") (by rw [zVe]; kernel_rfl) (by kernel_rfl) (by decide) u (by rw [zVe]; exact h)
theorem zSS:Tryz.prog.cellsOf 185=1:=by kernel_rfl
theorem zST:Tryz.prog.cellsOf 9=1:=by kernel_rfl
theorem zP3:laidOutB Tryz.prog=true:=by kernel_rfl
theorem gs2:Tryz.prog.globalNamed "augur/api.ErrText" = some 2:=by kernel_rfl
theorem gt2:(Tryz.prog.globals[2]?).map (·.type)=some 25:=by kernel_rfl
theorem gs1:Tryz.prog.globalNamed "augur/api.ErrSyntax" = some 1:=by kernel_rfl
theorem gt1:(Tryz.prog.globals[1]?).map (·.type)=some 25:=by kernel_rfl
theorem gs3:Tryz.prog.globalNamed "augur/api.ErrNest" = some 3:=by kernel_rfl
theorem gt3:(Tryz.prog.globals[3]?).map (·.type)=some 25:=by kernel_rfl
theorem gs0:Tryz.prog.globalNamed "augur/api.ErrLarge" = some 0:=by kernel_rfl
theorem gt0:(Tryz.prog.globals[0]?).map (·.type)=some 25:=by kernel_rfl
theorem gs9:Tryz.prog.globalNamed "strconv.ErrRange" = some 9:=by kernel_rfl
theorem gt9:(Tryz.prog.globals[9]?).map (·.type)=some 25:=by kernel_rfl
theorem gs8:Tryz.prog.globalNamed "strconv.ErrSyntax" = some 8:=by kernel_rfl
theorem gt8:(Tryz.prog.globals[8]?).map (·.type)=some 25:=by kernel_rfl
abbrev zHU:List (String×DataW Unit):=Rows.printBackRow.laid
def onF (g:Nat):Bool:=g == 0 || g == 1 || g == 2 || g == 3 || g == 8 || g == 9
abbrev mmF (W:World):Nat→Option Obj:=fun b=>if b == 4 then W.heap[b]? else none
theorem zS8 {W:World} (h:laidMet Tryz.prog zHU W):∃ eb:Nat→Addr,EnvOK (zK ⟨eb,onF,mmF W⟩) W (fun _=>False):=by
 obtain ⟨eb,he⟩:=zNa (TE:=185) Tryz.underlying25 rowV Tryz.underlying183 Tryz.underlying185 rfl rfl Tryz.underlying9 zSS zST h (fun g=>if onF g=true then some (.sent g) else none) (by
  intro g x hg
  split at hg
  ·rename_i hlt
   cases hg
   refine ⟨rfl, ?_⟩
   have:g=0∨g=1∨g=2∨g=3∨g=8∨g=9:=by simpa [onF,or_assoc] using hlt
   rcases this with rfl | rfl | rfl | rfl | rfl | rfl
   ·exact ⟨("augur/api.ErrLarge", Rows.laid_augur_api_ErrLarge),List.mem_of_getElem? (i:=6) rfl,gs0,gt0,_,rfl⟩
   ·exact ⟨("augur/api.ErrSyntax", Rows.laid_augur_api_ErrSyntax),List.mem_of_getElem? (i:=4) rfl,gs1,gt1,_,rfl⟩
   ·exact ⟨("augur/api.ErrText", Rows.laid_augur_api_ErrText),List.mem_of_getElem? (i:=3) rfl,gs2,gt2,_,rfl⟩
   ·exact ⟨("augur/api.ErrNest", Rows.laid_augur_api_ErrNest),List.mem_of_getElem? (i:=5) rfl,gs3,gt3,_,rfl⟩
   ·exact ⟨("strconv.ErrSyntax", Rows.laid_strconv_ErrSyntax),List.mem_of_getElem? (i:=8) rfl,gs8,gt8,_,rfl⟩
   ·exact ⟨("strconv.ErrRange", Rows.laid_strconv_ErrRange),List.mem_of_getElem? (i:=7) rfl,gs9,gt9,_,rfl⟩
  ·cases hg)
 exact ⟨eb,he (fun b=>b == 4) (fun _=>false) (fun f=>panL.contains f)⟩
theorem gtT:(Tryz.prog.globals[4]?).map (·.type)=some 162:=by kernel_rfl
theorem zSU:Tryz.prog.cellsOf 162=20:=by kernel_rfl
theorem zSV:Tryz.prog.cellsOf 151=1:=by kernel_rfl
theorem zPT {W:World} (h:laidMet Tryz.prog zHU W) (eb:Nat→Addr):Envs ⟨eb,onF,mmF W⟩:=by
 obtain ⟨T,fr,hh⟩:=zNb (zs:=Lib.pow10Tab) (k:=.u64) (name := "internal/strconv.uint64pow10") h (by
  show _ ∈ Rows.printBackRow.laid
  have:Lib.tabData (H:=Unit) .u64 Lib.pow10Tab=Rows.laid_internal_strconv_uint64pow10:=rfl
  rw [this]; simp [Rows.printBackRow]) zEp gtT Tryz.underlying162 Tryz.underlying151 zSV zSU
 exact ⟨⟨⟨rfl⟩,⟨rfl⟩,⟨rfl⟩,⟨rfl⟩⟩,⟨T,fr,hh⟩,⟨rfl⟩,⟨rfl⟩⟩
theorem zXX:Tryz.prog.readableRec 9=true:=by kernel_rfl
theorem zXZ:9 < Tryz.prog.types.size:=of_decide_eq_true (by kernel_rfl)
theorem zQ9 {H:Type} {enc:TypeId×Value→H} {W:World} {base:Nat} {v0:Value} {d0:DataW H} {ps:List MemPlace} {V:Env}
  (hok:Value.okWide Tryz.prog W .any base 9 v0) (h0:DataW.Trod enc Tryz.prog W 0 (fun _=>true) true 9 v0 d0 ps):∃ s:ByteArray,RepA V W (fun _=>False) v0 (.d (.str s)):=by
 unfold Value.okWide at hok
 simp only [Tryz.underlying9] at hok
 cases v0 with
 | string s=>exact ⟨s,.d _ _ (.str s)⟩
 | _=>exact hok.elim
theorem zJF {P:Program} {f:FuncId} {V:Env} {W:World} {x0:D} {v0:Value} (ok:ACall P V f [.d x0] (fun _=>none) (fun r _=>r=.d (.bool true))) (r0:RepA V W (fun _=>False) v0 (.d x0)) (he:EnvOK V W (fun _=>False)) :
  Calls P f #[v0] W fun e W'=>e=.returned (.bool true)∧Below W.heap.size W W':=by
 have:=ok (fun _=>False) W [v0] rfl (fun j h h'=>by
  match j with
  | 0=>exact r0
  | j+1=>exact absurd h (by simp only [List.length_cons,List.length_nil]; omega)) ⟨(fun b o h=>by cases h),(fun b h=>h.elim),he,(fun b o h=>by cases h)⟩
 refine this.mono ?_
 rintro e W' ⟨v,r,Z',H',rfl,hv,_,hx,rfl⟩
 refine ⟨?_,zMK hx⟩
 cases hv with
 | d _ _ h=>cases h; rfl
theorem zMT (os:Os) (args:Array Value):laidMetH Tryz.prog zHU ((World.doorLaid Tryz.prog 700 os).forCall (fun _ _=>0) ⟨#[],args,[]⟩).memory :=
 laidMetH_of_parts3 (fuel:=8) (laidMet_of_run' 8 (by kernel_rfl) (by kernel_rfl)) (by kernel_rfl) (by kernel_rfl)
theorem zDt (os:Os) (started:os.Started) (H:Type) (enc:TypeId×Value→H) :
  ReturnsInHanded {} Tryz.checked os 3 .any (fun w args=>(Rows.printBackSpec.pre enc Tryz.prog Tryz.f3 [] false w args∧laidMetH Tryz.prog zHU w)∧sizedMet enc Tryz.prog Tryz.f3 (OpenSpec.ofChange Rows.printBackSpec) false w args)
   (Rows.printBackSpec.post enc Tryz.prog Tryz.f3 false true false false):=by
 refine returnsInHanded_of_change_and (C:=Tryz.checked) (X:=fun w _=>laidMetH Tryz.prog zHU w) (fun _ _ _ hh h=>h.of_heap hh) own started (by kernel_rfl) Tryz.func3
  (ChangeSpec.witness_shaped (enc:=enc) (C:=Tryz.checked) (os:=os) (X:=fun w _=>laidMetH Tryz.prog zHU w) false (World.doorLaid Tryz.prog 700 os) #[.string ⟨#[]⟩] 8 rfl (World.shaped_of_RefB (by kernel_rfl) (by kernel_rfl)) (by kernel_rfl) (by kernel_rfl) (by kernel_rfl) (zMT os _)) ?_
 intro W base args ds gs zD1 hval0 hW _ _ hL _
 have hval:∀ (j:Nat) t v,Tryz.f3.params[j]?=some t→args[j]?=some v→Value.okWide Tryz.prog W .any base t v:=hval0
 have hW':=hW
 obtain ⟨p,q,hA0,hV,rfl,hfz,hnd⟩:=hW
 have hA:DataW.TrodAll enc Tryz.prog W 0 (fun _=>true) true Tryz.f3.params.toList args.toList ds p:=hA0
 have hlt:=hA.lt
 rw [Tryz.params3] at hA hval
 obtain ⟨v0,d0,rfl,rfl,h0⟩:=trodAll_one hA
 obtain ⟨rfl,rfl⟩:=trodVars_none hV
 have hL':laidMet Tryz.prog zHU W:=by
  have:=hL
  rwa [MakeChecks.laidMetH_plain _ _ _ (by kernel_rfl)] at this
 obtain ⟨eb,henv⟩:=zS8 hL'
 haveI:=zPT hL' eb
 obtain ⟨s0,r0⟩:=zQ9 (V:=zK ⟨eb,onF,mmF W⟩) (hval 0 9 v0 rfl rfl) h0
 refine (zJF (zG9 s0 (fun _=>none) _ rfl) r0 henv).mono ?_
 rintro e W' ⟨rfl,hbl⟩
 have e1:Rows.printBackSpec.fn H ([d0]++[])={ results:=[.lit (.bool true)],args:=[d0] }:=rfl
 refine ⟨_,rfl,_,_,_,[],p,[],hW', ?_, ?_, ?_,hbl.frame _,fun h=>by cases h⟩
 ·rw [e1]; exact trodAll_mk1 (shut_bool Tryz.underlying4 true)
 ·rw [e1]; exact trodAll_mk1 (Below.trod zP3 zXX zXZ h0 hbl hlt)
 ·rw [e1]; rfl
theorem zEr:Rows.PrintBackSaid :=
 OpenClaim.holds_of_wide 3 Tryz.f3 rfl rfl rfl rfl rfl rfl rfl ⟨rfl,rfl,rfl,rfl,rfl⟩ rfl rfl rfl rfl rfl (by kernel_rfl) Tryz.func3 (by kernel_rfl)
  (of_decide_eq_true (by kernel_rfl)) (by unfold Func.isWrapper; first | (rw [if_pos (by decide +kernel)]; kernel_rfl) | (rw [if_neg (by decide +kernel)]; exact ⟨rfl,rfl⟩))
  (fun os started H enc _=>zDt os started H enc)
theorem printBack_card:Rows.PrintBackCardSaid :=
 Claim7.holds_tied_plain_at .later [] _ _ _ _ zEr (fun _ h=>by cases h) (by kernel_rfl) (fun _ h=>by cases h) printBack_row_tie rfl ⟨rfl,rfl⟩ (by kernel_rfl) rfl
  (fun f fn hf hfn=>by
   obtain rfl:f=3:=Option.some.inj ((show Tryz.prog.funcNamed "augur/augurlaw03.PrintBack" = some 3 by kernel_rfl).symm.trans hf) |>.symm
   obtain rfl:fn=Tryz.f3:=(Option.some.inj (Tryz.func3.symm.trans hfn)).symm
   exact ⟨by kernel_rfl,fun j t ht=>by
    rw [Tryz.params3] at ht
    have hm:t ∈ [9]:=by simpa using Array.mem_of_getElem? ht
    have hall:([9].all fun u=>!Tryz.prog.wantsStandIn u)=true:=by kernel_rfl
    exact (show Tryz.prog.wantsStandIn t=false by simpa using List.all_eq_true.1 hall t hm)⟩)
  (by kernel_rfl)
#print axioms printBack_card
end Go.Proofs.YthldjffimcngaaaGreatDoor
