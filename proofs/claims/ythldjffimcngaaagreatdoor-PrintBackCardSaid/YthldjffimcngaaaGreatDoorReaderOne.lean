/- The facts of the program's functions, and the contracts of its lexer and parser; conditions stand in each contract. -/
import Derived.Test.YthldjffimcngaaaGreatDoorAugFour
import Derived.Test.YthldjffimcngaaaGreatDoorAugFive
import Derived.Test.YthldjffimcngaaaGreatDoorProg
import Derived.KernelRfl
set_option linter.all false
set_option linter.unusedVariables false
set_option linter.unusedSimpArgs false
set_option linter.unusedSectionVars false

/- The facts of the seat's types and functions that the reckoning asks; by program (gd.sh, gen2.py, mkpq.py). -/
namespace Go.Aug
open Go.Proofs
set_option maxRecDepth 100000
structure EbG where
  eb:Nat→Addr
  on:Nat→Bool
  mm:Nat→Option Obj
class On (e:EbG) (g:Nat):Prop where
  on:e.on g=true
def panL:List Nat:=[28,29,30,31,52,53,58,59,62,63,68,69,70,71,72,73,74,75,76,77,78,95,96,97,98,101,103,107,112]
def zK (e:EbG):Env:=⟨183,185,e.eb,fun g=>if e.on g=true then some (.sent g) else none,e.mm,fun _=>false,fun f=>panL.contains f⟩
@[go_sem] theorem zWU {e:EbG} {t:TypeId}:(zK e).nz t=false:=Eq.trans rfl rfl
theorem vP {e:EbG} {g:Nat} (h:On e g):(zK e).G g=some (.sent g):=if_pos h.on
@[go_sem] theorem zSa:ifcT Tryz.prog 116=true:=by kernel_rfl
@[go_sem] theorem zXU {eb:EbG}:(zK eb).pan 8=false:=by kernel_rfl
@[go_sem] theorem zXV {eb:EbG}:(zK eb).pan 9=false:=by kernel_rfl
@[go_sem] theorem zVS {eb:EbG}:(zK eb).pan 10=false:=by kernel_rfl
@[go_sem] theorem zVT {eb:EbG}:(zK eb).pan 11=false:=by kernel_rfl
@[go_sem] theorem zVU {eb:EbG}:(zK eb).pan 12=false:=by kernel_rfl
@[go_sem] theorem zVV {eb:EbG}:(zK eb).pan 14=false:=by kernel_rfl
@[go_sem] theorem zVW {eb:EbG}:(zK eb).pan 16=false:=by kernel_rfl
@[go_sem] theorem zVX {eb:EbG}:(zK eb).pan 19=false:=by kernel_rfl
@[go_sem] theorem zVY {eb:EbG}:(zK eb).pan 20=false:=by kernel_rfl
@[go_sem] theorem zVZ {eb:EbG}:(zK eb).pan 22=false:=by kernel_rfl
@[go_sem] theorem zV0 {eb:EbG}:(zK eb).pan 23=false:=by kernel_rfl
@[go_sem] theorem zV1 {eb:EbG}:(zK eb).pan 25=false:=by kernel_rfl
@[go_sem] theorem zV2 {eb:EbG}:(zK eb).pan 26=false:=by kernel_rfl
@[go_sem] theorem zV3 {eb:EbG}:(zK eb).pan 27=false:=by kernel_rfl
@[go_sem] theorem zV4 {eb:EbG}:(zK eb).pan 29=true:=by kernel_rfl
@[go_sem] theorem zV5 {eb:EbG}:(zK eb).pan 30=true:=by kernel_rfl
@[go_sem] theorem zV6 {eb:EbG}:(zK eb).pan 31=true:=by kernel_rfl
@[go_sem] theorem zV7 {eb:EbG}:(zK eb).pan 34=false:=by kernel_rfl
@[go_sem] theorem zV8 {eb:EbG}:(zK eb).pan 35=false:=by kernel_rfl
@[go_sem] theorem zV9 {eb:EbG}:(zK eb).pan 37=false:=by kernel_rfl
@[go_sem] theorem zWa {eb:EbG}:(zK eb).pan 38=false:=by kernel_rfl
@[go_sem] theorem zWb {eb:EbG}:(zK eb).pan 40=false:=by kernel_rfl
@[go_sem] theorem zWc {eb:EbG}:(zK eb).pan 42=false:=by kernel_rfl
@[go_sem] theorem zWd {eb:EbG}:(zK eb).pan 44=false:=by kernel_rfl
@[go_sem] theorem zWe {eb:EbG}:(zK eb).pan 45=false:=by kernel_rfl
@[go_sem] theorem zWf {eb:EbG}:(zK eb).pan 46=false:=by kernel_rfl
@[go_sem] theorem zWg {eb:EbG}:(zK eb).pan 48=false:=by kernel_rfl
@[go_sem] theorem zWh {eb:EbG}:(zK eb).pan 49=false:=by kernel_rfl
@[go_sem] theorem zWi {eb:EbG}:(zK eb).pan 53=true:=by kernel_rfl
@[go_sem] theorem zWj {eb:EbG}:(zK eb).pan 54=false:=by kernel_rfl
@[go_sem] theorem zWk {eb:EbG}:(zK eb).pan 55=false:=by kernel_rfl
@[go_sem] theorem zWl {eb:EbG}:(zK eb).pan 56=false:=by kernel_rfl
@[go_sem] theorem zWm {eb:EbG}:(zK eb).pan 59=true:=by kernel_rfl
@[go_sem] theorem zWn {eb:EbG}:(zK eb).pan 60=false:=by kernel_rfl
@[go_sem] theorem zWo {eb:EbG}:(zK eb).pan 63=true:=by kernel_rfl
@[go_sem] theorem zWp {eb:EbG}:(zK eb).pan 64=false:=by kernel_rfl
@[go_sem] theorem zWq {eb:EbG}:(zK eb).pan 65=false:=by kernel_rfl
@[go_sem] theorem zWr {eb:EbG}:(zK eb).pan 67=false:=by kernel_rfl
@[go_sem] theorem zWs {eb:EbG}:(zK eb).pan 68=true:=by kernel_rfl
@[go_sem] theorem zWt {eb:EbG}:(zK eb).pan 69=true:=by kernel_rfl
@[go_sem] theorem zWu {eb:EbG}:(zK eb).pan 70=true:=by kernel_rfl
@[go_sem] theorem zWv {eb:EbG}:(zK eb).pan 71=true:=by kernel_rfl
@[go_sem] theorem zWw {eb:EbG}:(zK eb).pan 72=true:=by kernel_rfl
@[go_sem] theorem zWx {eb:EbG}:(zK eb).pan 74=true:=by kernel_rfl
@[go_sem] theorem zWy {eb:EbG}:(zK eb).pan 76=true:=by kernel_rfl
@[go_sem] theorem zWz {eb:EbG}:(zK eb).pan 77=true:=by kernel_rfl
@[go_sem] theorem zWA {eb:EbG}:(zK eb).pan 80=false:=by kernel_rfl
@[go_sem] theorem zWB {eb:EbG}:(zK eb).pan 81=false:=by kernel_rfl
@[go_sem] theorem zWC {eb:EbG}:(zK eb).pan 82=false:=by kernel_rfl
@[go_sem] theorem zWD {eb:EbG}:(zK eb).pan 83=false:=by kernel_rfl
@[go_sem] theorem zWE {eb:EbG}:(zK eb).pan 84=false:=by kernel_rfl
@[go_sem] theorem zWF {eb:EbG}:(zK eb).pan 85=false:=by kernel_rfl
@[go_sem] theorem zWG {eb:EbG}:(zK eb).pan 86=false:=by kernel_rfl
@[go_sem] theorem zWH {eb:EbG}:(zK eb).pan 87=false:=by kernel_rfl
@[go_sem] theorem zWI {eb:EbG}:(zK eb).pan 88=false:=by kernel_rfl
@[go_sem] theorem zWJ {eb:EbG}:(zK eb).pan 89=false:=by kernel_rfl
@[go_sem] theorem zWK {eb:EbG}:(zK eb).pan 90=false:=by kernel_rfl
@[go_sem] theorem zWL {eb:EbG}:(zK eb).pan 91=false:=by kernel_rfl
@[go_sem] theorem zWM {eb:EbG}:(zK eb).pan 92=false:=by kernel_rfl
@[go_sem] theorem zWN {eb:EbG}:(zK eb).pan 95=true:=by kernel_rfl
@[go_sem] theorem zWO {eb:EbG}:(zK eb).pan 98=true:=by kernel_rfl
@[go_sem] theorem zWP {eb:EbG}:(zK eb).pan 99=false:=by kernel_rfl
@[go_sem] theorem zUF {eb:EbG}:(zK eb).pan 101=true:=by kernel_rfl
@[go_sem] theorem zUG {eb:EbG}:(zK eb).pan 102=false:=by kernel_rfl
@[go_sem] theorem zUH {eb:EbG}:(zK eb).pan 106=false:=by kernel_rfl
@[go_sem] theorem zUI {eb:EbG}:(zK eb).pan 108=false:=by kernel_rfl
@[go_sem] theorem zUJ {eb:EbG}:(zK eb).pan 110=false:=by kernel_rfl
@[go_sem] theorem zUK {eb:EbG}:(zK eb).pan 111=false:=by kernel_rfl
@[go_sem] theorem zUL {eb:EbG}:(zK eb).pan 114=false:=by kernel_rfl
@[go_sem] theorem zUM {eb:EbG}:(zK eb).pan 115=false:=by kernel_rfl
@[go_sem] theorem zUN {eb:EbG}:(zK eb).pan 116=false:=by kernel_rfl
@[go_sem] theorem zUO {eb:EbG}:(zK eb).pan 117=false:=by kernel_rfl
@[go_sem] theorem zUP {eb:EbG}:(zK eb).pan 118=false:=by kernel_rfl
@[go_sem] theorem zUQ {eb:EbG}:(zK eb).pan 119=false:=by kernel_rfl
@[go_sem] theorem zUR {eb:EbG}:(zK eb).pan 125=false:=by kernel_rfl
@[go_sem] theorem zUS {eb:EbG}:(zK eb).pan 126=false:=by kernel_rfl
@[go_sem] theorem zUT {eb:EbG}:(zK eb).pan 127=false:=by kernel_rfl
@[go_sem] theorem zUU {eb:EbG}:(zK eb).pan 133=false:=by kernel_rfl
@[go_sem] theorem zUV {eb:EbG}:(zK eb).pan 134=false:=by kernel_rfl
@[go_sem] theorem zUW {eb:EbG}:(zK eb).pan 135=false:=by kernel_rfl
@[go_sem] theorem zUX {eb:EbG}:(zK eb).pan 136=false:=by kernel_rfl
@[go_sem] theorem zUY {eb:EbG}:(zK eb).pan 137=false:=by kernel_rfl
@[go_sem] theorem zUZ {eb:EbG}:(zK eb).pan 138=false:=by kernel_rfl
@[go_sem] theorem zU0 {eb:EbG}:(zK eb).pan 139=false:=by kernel_rfl
@[go_sem] theorem zU1 {eb:EbG}:(zK eb).pan 140=false:=by kernel_rfl
@[go_sem] theorem zU2 {eb:EbG}:(zK eb).pan 148=false:=by kernel_rfl
theorem mixed:Tryz.prog.follows .mixedOrders=true:=by kernel_rfl
@[go_sem] theorem zRO:zFb Tryz.prog 23=(some (44,(20,336))):=by kernel_rfl
@[go_sem] theorem zRP:zFb Tryz.prog 33=(some (9,(1,16))):=by kernel_rfl
@[go_sem] theorem zRQ:zFb Tryz.prog 34=(some (120,(2,40))):=by kernel_rfl
@[go_sem] theorem zRR:zFb Tryz.prog 35=(some (63,(3,48))):=by kernel_rfl
@[go_sem] theorem zRS:zFb Tryz.prog 36=(some (4,(1,1))):=by kernel_rfl
@[go_sem] theorem zRT:zFb Tryz.prog 37=(some (39,(4,56))):=by kernel_rfl
@[go_sem] theorem zRU:zFb Tryz.prog 40=(some (42,(12,184))):=by kernel_rfl
@[go_sem] theorem zRV:zFb Tryz.prog 46=(some (50,(3,32))):=by kernel_rfl
@[go_sem] theorem zQi:zHH Tryz.prog 133=(some (5,(false,1))):=by kernel_rfl
@[go_sem] theorem zQj:zHH Tryz.prog 142=(some (4,(false,1))):=by kernel_rfl
@[go_sem] theorem zQk:zDs Tryz.prog 116=(some ([(.d (.raw .nilIface))],[(0,1)])):=by kernel_rfl
@[go_sem] theorem zQl:zDs Tryz.prog 120=(some ([(.d (.str (ByteArray.mk (Array.mk [])))),.nils],[(0,1),(1,1)])):=by kernel_rfl
@[go_sem] theorem zQm:zDs Tryz.prog 133=(some ([(.d (.str (ByteArray.mk (Array.mk [])))),(.d (.str (ByteArray.mk (Array.mk [])))),(.d (.str (ByteArray.mk (Array.mk [])))),(.d (.str (ByteArray.mk (Array.mk [])))),(.d (.str (ByteArray.mk (Array.mk []))))],[(0,1),(1,1),(2,1),(3,1),(4,1)])):=by kernel_rfl
@[go_sem] theorem zQn:zDs Tryz.prog 142=(some ([(.d (.str (ByteArray.mk (Array.mk [])))),(.d (.str (ByteArray.mk (Array.mk [])))),(.d (.str (ByteArray.mk (Array.mk [])))),(.d (.str (ByteArray.mk (Array.mk []))))],[(0,1),(1,1),(2,1),(3,1)])):=by kernel_rfl
@[go_sem] theorem zRW:zDs Tryz.prog 39=(some ([(.d (.int .i64 (0:Int))),(.d (.str (ByteArray.mk (Array.mk [])))),(.d (.int .i64 (0:Int))),.nils],[(0,1),(1,1),(2,1),(3,1)])):=by kernel_rfl
@[go_sem] theorem zRX:zDs Tryz.prog 42=(some ([(.d (.int .i64 (0:Int))),(.d (.int .i64 (0:Int))),(.d (.str (ByteArray.mk (Array.mk [])))),(.d (.int .i64 (0:Int))),.nils,(.d (.int .i64 (0:Int))),(.d (.str (ByteArray.mk (Array.mk [])))),(.d (.int .i64 (0:Int))),.nils,(.d (.str (ByteArray.mk (Array.mk [])))),.nils,.nils],[(0,1),(1,4),(5,4),(9,1),(10,1),(11,1)])):=by kernel_rfl
@[go_sem] theorem zRY:zDs Tryz.prog 44=(some ([(.d (.int .i64 (0:Int))),(.d (.str (ByteArray.mk (Array.mk [])))),.nils,.nils,.nils,.nils,(.d (.int .i64 (0:Int))),.nils,(.d (.int .i64 (0:Int))),(.d (.int .i64 (0:Int))),(.d (.str (ByteArray.mk (Array.mk [])))),(.d (.int .i64 (0:Int))),.nils,(.d (.int .i64 (0:Int))),(.d (.str (ByteArray.mk (Array.mk [])))),(.d (.int .i64 (0:Int))),.nils,(.d (.str (ByteArray.mk (Array.mk [])))),.nils,.nils],[(0,1),(1,1),(2,1),(3,1),(4,1),(5,1),(6,1),(7,1),(8,12)])):=by kernel_rfl
@[go_sem] theorem zRZ:zDs Tryz.prog 50=(some ([(.d (.int .i64 (0:Int))),(.d (.str (ByteArray.mk (Array.mk [])))),(.d (.int .i64 (0:Int)))],[(0,1),(1,1),(2,1)])):=by kernel_rfl
@[go_sem] theorem zR0:zDs Tryz.prog 63=(some ([(.d (.bool false)),(.d (.str (ByteArray.mk (Array.mk [])))),.nils],[(0,1),(1,1),(2,1)])):=by kernel_rfl
@[go_sem] theorem zR1:zDs Tryz.prog 71=(some ([.nils,(.d (.int .i64 (0:Int)))],[(0,1),(1,1)])):=by kernel_rfl
@[go_sem] theorem zUv:bsOf Tryz.prog 23=(some (44,(20,false))):=by kernel_rfl
@[go_sem] theorem zUw:bsOf Tryz.prog 33=(some (9,(1,false))):=by kernel_rfl
@[go_sem] theorem zUx:bsOf Tryz.prog 34=(some (120,(2,false))):=by kernel_rfl
@[go_sem] theorem zUy:bsOf Tryz.prog 35=(some (63,(3,false))):=by kernel_rfl
@[go_sem] theorem zUz:bsOf Tryz.prog 36=(some (4,(1,false))):=by kernel_rfl
@[go_sem] theorem zUA:bsOf Tryz.prog 37=(some (39,(4,false))):=by kernel_rfl
@[go_sem] theorem zUB:bsOf Tryz.prog 40=(some (42,(12,false))):=by kernel_rfl
@[go_sem] theorem zUC:bsOf Tryz.prog 46=(some (50,(3,false))):=by kernel_rfl
@[go_sem] theorem zUD:bsOf Tryz.prog 77=(some (5,(1,true))):=by kernel_rfl
@[go_sem] theorem zNj:zH Tryz.prog 10=true:=by kernel_rfl
@[go_sem] theorem zL6:zH Tryz.prog 101=true:=by kernel_rfl
@[go_sem] theorem zL7:zH Tryz.prog 102=true:=by kernel_rfl
@[go_sem] theorem zL8:zH Tryz.prog 106=true:=by kernel_rfl
@[go_sem] theorem zL9:zH Tryz.prog 108=true:=by kernel_rfl
@[go_sem] theorem zNk:zH Tryz.prog 11=true:=by kernel_rfl
@[go_sem] theorem zMa:zH Tryz.prog 110=true:=by kernel_rfl
@[go_sem] theorem zMb:zH Tryz.prog 111=true:=by kernel_rfl
@[go_sem] theorem zMc:zH Tryz.prog 114=true:=by kernel_rfl
@[go_sem] theorem zMd:zH Tryz.prog 115=true:=by kernel_rfl
@[go_sem] theorem zMe:zH Tryz.prog 116=true:=by kernel_rfl
@[go_sem] theorem zMf:zH Tryz.prog 117=true:=by kernel_rfl
@[go_sem] theorem zMg:zH Tryz.prog 118=true:=by kernel_rfl
@[go_sem] theorem zMh:zH Tryz.prog 119=true:=by kernel_rfl
@[go_sem] theorem zNl:zH Tryz.prog 12=true:=by kernel_rfl
@[go_sem] theorem zMi:zH Tryz.prog 125=true:=by kernel_rfl
@[go_sem] theorem zMj:zH Tryz.prog 126=true:=by kernel_rfl
@[go_sem] theorem zMk:zH Tryz.prog 127=true:=by kernel_rfl
@[go_sem] theorem zMl:zH Tryz.prog 133=true:=by kernel_rfl
@[go_sem] theorem zMm:zH Tryz.prog 134=true:=by kernel_rfl
@[go_sem] theorem zMn:zH Tryz.prog 135=true:=by kernel_rfl
@[go_sem] theorem zMo:zH Tryz.prog 136=true:=by kernel_rfl
@[go_sem] theorem zMp:zH Tryz.prog 137=true:=by kernel_rfl
@[go_sem] theorem zMq:zH Tryz.prog 138=true:=by kernel_rfl
@[go_sem] theorem zMr:zH Tryz.prog 139=true:=by kernel_rfl
@[go_sem] theorem zNm:zH Tryz.prog 14=true:=by kernel_rfl
@[go_sem] theorem zMs:zH Tryz.prog 140=true:=by kernel_rfl
@[go_sem] theorem zMt:zH Tryz.prog 148=true:=by kernel_rfl
@[go_sem] theorem zNn:zH Tryz.prog 16=true:=by kernel_rfl
@[go_sem] theorem zNo:zH Tryz.prog 19=true:=by kernel_rfl
@[go_sem] theorem zNp:zH Tryz.prog 20=true:=by kernel_rfl
@[go_sem] theorem zNq:zH Tryz.prog 22=true:=by kernel_rfl
@[go_sem] theorem zNr:zH Tryz.prog 23=true:=by kernel_rfl
@[go_sem] theorem zNs:zH Tryz.prog 25=true:=by kernel_rfl
@[go_sem] theorem zNt:zH Tryz.prog 26=true:=by kernel_rfl
@[go_sem] theorem zNu:zH Tryz.prog 27=true:=by kernel_rfl
@[go_sem] theorem zNv:zH Tryz.prog 29=true:=by kernel_rfl
@[go_sem] theorem zNw:zH Tryz.prog 30=true:=by kernel_rfl
@[go_sem] theorem zNx:zH Tryz.prog 31=true:=by kernel_rfl
@[go_sem] theorem zNy:zH Tryz.prog 34=true:=by kernel_rfl
@[go_sem] theorem zNz:zH Tryz.prog 35=true:=by kernel_rfl
@[go_sem] theorem zNA:zH Tryz.prog 37=true:=by kernel_rfl
@[go_sem] theorem zNB:zH Tryz.prog 38=true:=by kernel_rfl
@[go_sem] theorem zNC:zH Tryz.prog 40=true:=by kernel_rfl
@[go_sem] theorem zND:zH Tryz.prog 42=true:=by kernel_rfl
@[go_sem] theorem zNE:zH Tryz.prog 44=true:=by kernel_rfl
@[go_sem] theorem zNF:zH Tryz.prog 45=true:=by kernel_rfl
@[go_sem] theorem zNG:zH Tryz.prog 46=true:=by kernel_rfl
@[go_sem] theorem zNH:zH Tryz.prog 48=true:=by kernel_rfl
@[go_sem] theorem zNI:zH Tryz.prog 49=true:=by kernel_rfl
@[go_sem] theorem zNJ:zH Tryz.prog 53=true:=by kernel_rfl
@[go_sem] theorem zNK:zH Tryz.prog 54=true:=by kernel_rfl
@[go_sem] theorem zNL:zH Tryz.prog 55=true:=by kernel_rfl
@[go_sem] theorem zNM:zH Tryz.prog 56=true:=by kernel_rfl
@[go_sem] theorem zNN:zH Tryz.prog 59=true:=by kernel_rfl
@[go_sem] theorem zNO:zH Tryz.prog 60=true:=by kernel_rfl
@[go_sem] theorem zNP:zH Tryz.prog 63=true:=by kernel_rfl
@[go_sem] theorem zNQ:zH Tryz.prog 64=true:=by kernel_rfl
@[go_sem] theorem zNR:zH Tryz.prog 65=true:=by kernel_rfl
@[go_sem] theorem zNS:zH Tryz.prog 67=true:=by kernel_rfl
@[go_sem] theorem zNT:zH Tryz.prog 68=true:=by kernel_rfl
@[go_sem] theorem zNU:zH Tryz.prog 69=true:=by kernel_rfl
@[go_sem] theorem zNV:zH Tryz.prog 70=true:=by kernel_rfl
@[go_sem] theorem zNW:zH Tryz.prog 71=true:=by kernel_rfl
@[go_sem] theorem zNX:zH Tryz.prog 72=true:=by kernel_rfl
@[go_sem] theorem zNY:zH Tryz.prog 74=true:=by kernel_rfl
@[go_sem] theorem zNZ:zH Tryz.prog 76=true:=by kernel_rfl
@[go_sem] theorem zN0:zH Tryz.prog 77=true:=by kernel_rfl
@[go_sem] theorem zO6:zH Tryz.prog 8=true:=by kernel_rfl
@[go_sem] theorem zN1:zH Tryz.prog 80=true:=by kernel_rfl
@[go_sem] theorem zN2:zH Tryz.prog 81=true:=by kernel_rfl
@[go_sem] theorem zN3:zH Tryz.prog 82=true:=by kernel_rfl
@[go_sem] theorem zN4:zH Tryz.prog 83=true:=by kernel_rfl
@[go_sem] theorem zN5:zH Tryz.prog 84=true:=by kernel_rfl
@[go_sem] theorem zN6:zH Tryz.prog 85=true:=by kernel_rfl
@[go_sem] theorem zN7:zH Tryz.prog 86=true:=by kernel_rfl
@[go_sem] theorem zN8:zH Tryz.prog 87=true:=by kernel_rfl
@[go_sem] theorem zN9:zH Tryz.prog 88=true:=by kernel_rfl
@[go_sem] theorem zOa:zH Tryz.prog 89=true:=by kernel_rfl
@[go_sem] theorem zO7:zH Tryz.prog 9=true:=by kernel_rfl
@[go_sem] theorem zOb:zH Tryz.prog 90=true:=by kernel_rfl
@[go_sem] theorem zOc:zH Tryz.prog 91=true:=by kernel_rfl
@[go_sem] theorem zOd:zH Tryz.prog 92=true:=by kernel_rfl
@[go_sem] theorem zOe:zH Tryz.prog 95=true:=by kernel_rfl
@[go_sem] theorem zOf:zH Tryz.prog 98=true:=by kernel_rfl
@[go_sem] theorem zOg:zH Tryz.prog 99=true:=by kernel_rfl
@[go_sem] theorem zO8:zIz Tryz.prog 3 5=(some (Conv.int .u8)):=by kernel_rfl
@[go_sem] theorem zOh:zIz Tryz.prog 77 9=(some Conv.toStr):=by kernel_rfl
@[go_sem] theorem zO9 {eb:EbG}:zMU Tryz.prog (zK eb) 25=true:=by kernel_rfl
@[go_sem] theorem zKd:yY Tryz.prog 116 0=(some 0):=by kernel_rfl
@[go_sem] theorem zKe:yY Tryz.prog 120 0=(some 0):=by kernel_rfl
@[go_sem] theorem zKf:yY Tryz.prog 120 1=(some 1):=by kernel_rfl
@[go_sem] theorem zKY:yY Tryz.prog 39 0=(some 0):=by kernel_rfl
@[go_sem] theorem zKZ:yY Tryz.prog 39 1=(some 1):=by kernel_rfl
@[go_sem] theorem zK0:yY Tryz.prog 39 2=(some 2):=by kernel_rfl
@[go_sem] theorem zK1:yY Tryz.prog 39 3=(some 3):=by kernel_rfl
@[go_sem] theorem zK2:yY Tryz.prog 42 0=(some 0):=by kernel_rfl
@[go_sem] theorem zK3:yY Tryz.prog 42 1=(some 1):=by kernel_rfl
@[go_sem] theorem zK4:yY Tryz.prog 42 2=(some 5):=by kernel_rfl
@[go_sem] theorem zK5:yY Tryz.prog 42 3=(some 9):=by kernel_rfl
@[go_sem] theorem zK6:yY Tryz.prog 42 4=(some 10):=by kernel_rfl
@[go_sem] theorem zK7:yY Tryz.prog 42 5=(some 11):=by kernel_rfl
@[go_sem] theorem zK8:yY Tryz.prog 44 0=(some 0):=by kernel_rfl
@[go_sem] theorem zK9:yY Tryz.prog 44 1=(some 1):=by kernel_rfl
@[go_sem] theorem zLa:yY Tryz.prog 44 2=(some 2):=by kernel_rfl
@[go_sem] theorem zLb:yY Tryz.prog 44 3=(some 3):=by kernel_rfl
@[go_sem] theorem zLc:yY Tryz.prog 44 4=(some 4):=by kernel_rfl
@[go_sem] theorem zLd:yY Tryz.prog 44 5=(some 5):=by kernel_rfl
@[go_sem] theorem zLe:yY Tryz.prog 44 6=(some 6):=by kernel_rfl
@[go_sem] theorem zLf:yY Tryz.prog 44 7=(some 7):=by kernel_rfl
@[go_sem] theorem zLg:yY Tryz.prog 44 8=(some 8):=by kernel_rfl
@[go_sem] theorem zLh:yY Tryz.prog 50 0=(some 0):=by kernel_rfl
@[go_sem] theorem zLi:yY Tryz.prog 50 1=(some 1):=by kernel_rfl
@[go_sem] theorem zLj:yY Tryz.prog 50 2=(some 2):=by kernel_rfl
@[go_sem] theorem zLk:yY Tryz.prog 63 0=(some 0):=by kernel_rfl
@[go_sem] theorem zLl:yY Tryz.prog 63 1=(some 1):=by kernel_rfl
@[go_sem] theorem zLm:yY Tryz.prog 63 2=(some 2):=by kernel_rfl
@[go_sem] theorem zLn:yY Tryz.prog 71 0=(some 0):=by kernel_rfl
@[go_sem] theorem zLo:yY Tryz.prog 71 1=(some 1):=by kernel_rfl
@[go_sem] theorem zLp:yY Tryz.prog 89 0=(some 0):=by kernel_rfl
@[go_sem] theorem zLq:yY Tryz.prog 89 1=(some 1):=by kernel_rfl
@[go_sem] theorem zLr:yY Tryz.prog 89 2=(some 2):=by kernel_rfl
@[go_sem] theorem zR2:zFd Tryz.prog 23=(some 20):=by kernel_rfl
@[go_sem] theorem zR3:zFd Tryz.prog 33=(some 1):=by kernel_rfl
@[go_sem] theorem zR4:zFd Tryz.prog 34=(some 2):=by kernel_rfl
@[go_sem] theorem zR5:zFd Tryz.prog 35=(some 3):=by kernel_rfl
@[go_sem] theorem zR6:zFd Tryz.prog 36=(some 1):=by kernel_rfl
@[go_sem] theorem zR7:zFd Tryz.prog 37=(some 4):=by kernel_rfl
@[go_sem] theorem zR8:zFd Tryz.prog 40=(some 12):=by kernel_rfl
@[go_sem] theorem zR9:zFd Tryz.prog 46=(some 3):=by kernel_rfl
@[go_sem] theorem zQo:zEa Tryz.prog 4=true:=by kernel_rfl
@[go_sem] theorem zPa:jU Tryz.prog 25=true:=by kernel_rfl
@[go_sem] theorem zOi:wH Tryz.prog 23=true:=by kernel_rfl
@[go_sem] theorem zOj:wH Tryz.prog 33=true:=by kernel_rfl
@[go_sem] theorem zOk:wH Tryz.prog 34=true:=by kernel_rfl
@[go_sem] theorem zGa:wH Tryz.prog 35=true:=by kernel_rfl
@[go_sem] theorem zOl:wH Tryz.prog 36=true:=by kernel_rfl
@[go_sem] theorem zGb:wH Tryz.prog 37=true:=by kernel_rfl
@[go_sem] theorem zOm:wH Tryz.prog 40=true:=by kernel_rfl
@[go_sem] theorem zOn:wH Tryz.prog 46=true:=by kernel_rfl
@[go_sem] theorem zSb:zGV Tryz.prog 9=true:=by kernel_rfl
@[go_sem] theorem zUE:mkOf Tryz.prog 33=(some (9,(1,(16,(.str (ByteArray.mk (Array.mk []))))))):=by kernel_rfl
@[go_sem] theorem zOo:zI0 Tryz.prog 50 0=(some ((false,1),0)):=by kernel_rfl
@[go_sem] theorem zOp:zI0 Tryz.prog 50 1=(some ((false,1),1)):=by kernel_rfl
@[go_sem] theorem zPb:zEQ Tryz.prog 3 5=false:=by kernel_rfl
@[go_sem] theorem zOq:zEQ Tryz.prog 77 9=false:=by kernel_rfl
@[go_sem] theorem zQp:zId Tryz.prog 9=(some none):=by kernel_rfl
@[go_sem] theorem zPc:yN Tryz.prog 116=(some (true,1)):=by kernel_rfl
@[go_sem] theorem zPd:yN Tryz.prog 120=(some (true,2)):=by kernel_rfl
@[go_sem] theorem zPe:yN Tryz.prog 133=(some (true,5)):=by kernel_rfl
@[go_sem] theorem zQq:yN Tryz.prog 23=(some (false,1)):=by kernel_rfl
@[go_sem] theorem zQr:yN Tryz.prog 25=(some (false,1)):=by kernel_rfl
@[go_sem] theorem zSc:yN Tryz.prog 3=(some (false,1)):=by kernel_rfl
@[go_sem] theorem zQs:yN Tryz.prog 33=(some (false,1)):=by kernel_rfl
@[go_sem] theorem zQt:yN Tryz.prog 34=(some (false,1)):=by kernel_rfl
@[go_sem] theorem zQu:yN Tryz.prog 35=(some (false,1)):=by kernel_rfl
@[go_sem] theorem zQv:yN Tryz.prog 36=(some (false,1)):=by kernel_rfl
@[go_sem] theorem zQw:yN Tryz.prog 37=(some (false,1)):=by kernel_rfl
@[go_sem] theorem zQx:yN Tryz.prog 39=(some (true,4)):=by kernel_rfl
@[go_sem] theorem zSd:yN Tryz.prog 4=(some (false,1)):=by kernel_rfl
@[go_sem] theorem zQy:yN Tryz.prog 40=(some (false,1)):=by kernel_rfl
@[go_sem] theorem zQz:yN Tryz.prog 42=(some (true,12)):=by kernel_rfl
@[go_sem] theorem zQA:yN Tryz.prog 44=(some (true,20)):=by kernel_rfl
@[go_sem] theorem zQB:yN Tryz.prog 46=(some (false,1)):=by kernel_rfl
@[go_sem] theorem zQC:yN Tryz.prog 50=(some (true,3)):=by kernel_rfl
@[go_sem] theorem zQD:yN Tryz.prog 63=(some (true,3)):=by kernel_rfl
@[go_sem] theorem zQE:yN Tryz.prog 69=(some (false,1)):=by kernel_rfl
@[go_sem] theorem zSe:yN Tryz.prog 9=(some (false,1)):=by kernel_rfl
@[go_sem] theorem zPf:uV Tryz.prog 116=(some [(.d (.raw .nilIface))]):=by kernel_rfl
@[go_sem] theorem zPg:uV Tryz.prog 120=(some [(.d (.str (ByteArray.mk (Array.mk [])))),.nils]):=by kernel_rfl
@[go_sem] theorem zPh:uV Tryz.prog 133=(some [(.d (.str (ByteArray.mk (Array.mk [])))),(.d (.str (ByteArray.mk (Array.mk [])))),(.d (.str (ByteArray.mk (Array.mk [])))),(.d (.str (ByteArray.mk (Array.mk [])))),(.d (.str (ByteArray.mk (Array.mk []))))]):=by kernel_rfl
@[go_sem] theorem zQF:uV Tryz.prog 23=(some [.nils]):=by kernel_rfl
@[go_sem] theorem zQG:uV Tryz.prog 25=(some [(.d (.raw .nilIface))]):=by kernel_rfl
@[go_sem] theorem zQH:uV Tryz.prog 39=(some [(.d (.int .i64 (0:Int))),(.d (.str (ByteArray.mk (Array.mk [])))),(.d (.int .i64 (0:Int))),.nils]):=by kernel_rfl
@[go_sem] theorem zQI:uV Tryz.prog 42=(some [(.d (.int .i64 (0:Int))),(.d (.int .i64 (0:Int))),(.d (.str (ByteArray.mk (Array.mk [])))),(.d (.int .i64 (0:Int))),.nils,(.d (.int .i64 (0:Int))),(.d (.str (ByteArray.mk (Array.mk [])))),(.d (.int .i64 (0:Int))),.nils,(.d (.str (ByteArray.mk (Array.mk [])))),.nils,.nils]):=by kernel_rfl
@[go_sem] theorem zQJ:uV Tryz.prog 44=(some [(.d (.int .i64 (0:Int))),(.d (.str (ByteArray.mk (Array.mk [])))),.nils,.nils,.nils,.nils,(.d (.int .i64 (0:Int))),.nils,(.d (.int .i64 (0:Int))),(.d (.int .i64 (0:Int))),(.d (.str (ByteArray.mk (Array.mk [])))),(.d (.int .i64 (0:Int))),.nils,(.d (.int .i64 (0:Int))),(.d (.str (ByteArray.mk (Array.mk [])))),(.d (.int .i64 (0:Int))),.nils,(.d (.str (ByteArray.mk (Array.mk [])))),.nils,.nils]):=by kernel_rfl
@[go_sem] theorem zQK:uV Tryz.prog 46=(some [.nils]):=by kernel_rfl
@[go_sem] theorem zQL:uV Tryz.prog 50=(some [(.d (.int .i64 (0:Int))),(.d (.str (ByteArray.mk (Array.mk [])))),(.d (.int .i64 (0:Int)))]):=by kernel_rfl
@[go_sem] theorem zQM:uV Tryz.prog 63=(some [(.d (.bool false)),(.d (.str (ByteArray.mk (Array.mk [])))),.nils]):=by kernel_rfl
def pl3:List (Nat×Plan):=[]
def kp3:List (Nat×List Nat):=[(0,[0]),(1,[0]),(2,[]),(3,[0]),(4,[3,4]),(5,[]),(6,[3]),(7,[3,5]),(8,[3,4,5,6]),(9,[4]),(10,[3,4,5,6])]
noncomputable def s3:SCode:=toS (zF pl3) (zE kp3) (Tryz.f3.body.getD .skip)
theorem fn3:FnIs Tryz.prog 3 48 [.tmp 2] s3:=FnIs.mk' (zF pl3) (zE kp3) (by kernel_rfl)
def pl4:List (Nat×Plan):=[]
def kp4:List (Nat×List Nat):=[(0,[0]),(1,[0]),(2,[]),(3,[0]),(4,[3,4]),(5,[]),(6,[3]),(7,[3,5]),(8,[3,5,18,19,20]),(9,[3,5,18,19,20]),(10,[3,5,7,18,19,20]),(11,[3,5,8,18,19,20]),(12,[]),(13,[3,5,8,18,19,20]),(14,[3,5,18,19,20]),(15,[3,5])]
noncomputable def s4:SCode:=toS (zF pl4) (zE kp4) (Tryz.f4.body.getD .skip)
def pl5:List (Nat×Plan):=[]
def kp5:List (Nat×List Nat):=[(0,[0]),(1,[0]),(2,[]),(3,[0]),(4,[0,3,4]),(5,[3,4,5]),(6,[]),(7,[3,5]),(8,[3,5,25,26,27]),(9,[3,5,25,26,27]),(10,[3,5,7,8,25,26,27]),(11,[]),(12,[3,5,7,8,25,26,27]),(13,[]),(14,[3,5,25,26,27]),(15,[3,5]),(16,[5,9]),(17,[]),(18,[5,9]),(19,[4,5,10])]
noncomputable def s5:SCode:=toS (zF pl5) (zE kp5) (Tryz.f5.body.getD .skip)
def pl6:List (Nat×Plan):=[]
def kp6:List (Nat×List Nat):=[(0,[0]),(1,[0]),(2,[]),(3,[0]),(4,[0,3]),(5,[3,12,13,14]),(6,[3,12,13,14]),(7,[3,4,5,12,13,14]),(8,[3,5,12,13,14]),(9,[3,5,6,12,13,14]),(10,[3,6,12,13,14,23]),(11,[3,6,12,13,14]),(12,[3,6,12,13,14,23]),(13,[3,6,12,13,14]),(14,[3,6,12,13,14,23]),(15,[3,6,12,13,14]),(16,[3,6,12,13,14,23]),(17,[3,6,12,13,14]),(18,[3,6,12,13,14,23]),(19,[3,12,13,14]),(20,[3,6,12,13,14,23]),(21,[3,6,12,13,14]),(22,[3,6,12,13,14,23]),(23,[3,6,12,13,14]),(24,[3,12,13,14]),(25,[3]),(26,[3,7,8])]
noncomputable def s6:SCode:=toS (zF pl6) (zE kp6) (Tryz.f6.body.getD .skip)
def pl7:List (Nat×Plan):=[]
def kp7:List (Nat×List Nat):=[(0,[0]),(1,[0]),(2,[]),(3,[0]),(4,[0,3,4]),(5,[0,3]),(6,[0,3,5,6]),(7,[]),(8,[0]),(9,[0,7,8]),(10,[0,7]),(11,[0,7,9,10]),(12,[]),(13,[0]),(14,[11,12]),(15,[11]),(16,[11,13,14]),(17,[])]
noncomputable def s7:SCode:=toS (zF pl7) (zE kp7) (Tryz.f7.body.getD .skip)
def pl8:List (Nat×Plan):=[]
def kp8:List (Nat×List Nat):=[(0,[]),(1,[]),(2,[1,2])]
noncomputable def s8:SCode:=toS (zF pl8) (zE kp8) (Tryz.f8.body.getD .skip)
theorem fn8:FnIs Tryz.prog 8 19 [.tmp 0] s8:=FnIs.mk' (zF pl8) (zE kp8) (by kernel_rfl)
def pl9:List (Nat×Plan):=[]
def kp9:List (Nat×List Nat):=[(0,[0]),(1,[0])]
noncomputable def s9:SCode:=toS (zF pl9) (zE kp9) (Tryz.f9.body.getD .skip)
theorem fn9:FnIs Tryz.prog 9 8 [.tmp 2,.tmp 3] s9:=FnIs.mk' (zF pl9) (zE kp9) (by kernel_rfl)
def pl10:List (Nat×Plan):=[]
def kp10:List (Nat×List Nat):=[(0,[0]),(1,[0]),(2,[0,3]),(3,[3,6,7,8]),(4,[3,6,7,8]),(5,[3,5,6,7,8]),(6,[3,6,7,8]),(7,[3])]
noncomputable def s10:SCode:=toS (zF pl10) (zE kp10) (Tryz.f10.body.getD .skip)
def pl11:List (Nat×Plan):=[(6,(.fl 0 (.fl 1 (.fl 2 (.fl 3 (.fl 4 (.fl 5 (.fl 6 (.fl 7 (.eff 8 [] (.fl 9 .done)))))))))))]
def kp11:List (Nat×List Nat):=[(0,[0,1]),(1,[0,1]),(2,[]),(3,[0,1]),(4,[0,1,12,13]),(5,[0,1,12,13]),(6,[0,1,5,12,13]),(7,[]),(8,[0,1,12,13]),(9,[])]
noncomputable def s11:SCode:=toS (zF pl11) (zE kp11) (Tryz.f11.body.getD .skip)
theorem fn11:FnIs Tryz.prog 11 27 [.tmp 4] s11:=FnIs.mk' (zF pl11) (zE kp11) (by kernel_rfl)
def pl12:List (Nat×Plan):=[]
def kp12:List (Nat×List Nat):=[(0,[0]),(1,[0]),(2,[0,3]),(3,[3,6,7,8]),(4,[3,6,7,8]),(5,[3,5,6,7,8]),(6,[3,6,7,8]),(7,[3])]
noncomputable def s12:SCode:=toS (zF pl12) (zE kp12) (Tryz.f12.body.getD .skip)
theorem fn12:FnIs Tryz.prog 12 18 [.tmp 2] s12:=FnIs.mk' (zF pl12) (zE kp12) (by kernel_rfl)
def pl14:List (Nat×Plan):=[(4,(.fl 0 (.fl 1 (.fl 2 (.fl 3 (.fl 4 (.fl 8 (.fl 9 (.eff 5 [1,9] (.fl 6 (.fl 7 (.eff 10 [1] (.fl 11 (.fl 12 .done)))))))))))))),(6,(.fl 0 (.fl 1 (.fl 2 (.fl 3 (.fl 4 (.eff 5 [1] (.fl 6 (.fl 7 .done))))))))),(8,(.fl 0 (.fl 1 (.fl 2 (.fl 3 (.fl 4 (.fl 8 (.fl 9 (.eff 5 [1,9] (.fl 6 (.fl 7 (.eff 10 [1] (.fl 11 (.fl 12 .done)))))))))))))),(10,(.fl 0 (.fl 1 (.fl 2 (.fl 3 (.eff 4 [1] (.fl 5 (.fl 6 .done))))))))]
def kp14:List (Nat×List Nat):=[(0,[0]),(1,[1]),(2,[1,3]),(3,[1,3,5]),(4,[1]),(5,[1,3,5]),(6,[1]),(7,[1,3,5]),(8,[1]),(9,[1,3,5]),(10,[1]),(11,[1,3]),(12,[1,3]),(13,[3])]
noncomputable def s14:SCode:=toS (zF pl14) (zE kp14) (Tryz.f14.body.getD .skip)
theorem fn14:FnIs Tryz.prog 14 63 [.tmp 2] s14:=FnIs.mk' (zF pl14) (zE kp14) (by kernel_rfl)
def pl16:List (Nat×Plan):=[]
def kp16:List (Nat×List Nat):=[(0,[0]),(1,[0]),(2,[0,5,6,7]),(3,[0,5,6,7]),(4,[0,4,5,6,7]),(5,[]),(6,[0,5,6,7]),(7,[])]
noncomputable def s16:SCode:=toS (zF pl16) (zE kp16) (Tryz.f16.body.getD .skip)
theorem fn16:FnIs Tryz.prog 16 15 [.tmp 2] s16:=FnIs.mk' (zF pl16) (zE kp16) (by kernel_rfl)
def pl19:List (Nat×Plan):=[(7,(.fl 0 (.fl 1 (.fl 4 (.fl 5 (.eff 2 [5] (.fl 3 (.eff 6 [] (.fl 7 (.fl 8 .done)))))))))),(9,(.fl 0 (.fl 1 (.fl 2 (.fl 3 (.eff 4 [1] (.fl 5 (.fl 6 .done)))))))),(19,(.fl 0 (.fl 4 (.fl 5 (.fl 8 (.eff 1 [5,8] (.fl 2 (.fl 3 (.fl 6 (.fl 7 (.eff 9 [5] (.fl 10 (.fl 11 .done)))))))))))))]
def kp19:List (Nat×List Nat):=[(0,[0]),(1,[1]),(2,[1,4]),(3,[]),(4,[1,4]),(5,[]),(6,[1,4]),(7,[1]),(8,[1,4]),(9,[1]),(10,[1,4]),(11,[1]),(12,[1,4]),(13,[1]),(14,[1,4]),(15,[1]),(16,[1,4]),(17,[1]),(18,[1,4]),(19,[1]),(20,[])]
noncomputable def s19:SCode:=toS (zF pl19) (zE kp19) (Tryz.f19.body.getD .skip)
theorem fn19:FnIs Tryz.prog 19 59 [.tmp 2] s19:=FnIs.mk' (zF pl19) (zE kp19) (by kernel_rfl)
def pl20:List (Nat×Plan):=[(6,(.fl 0 (.fl 1 (.fl 2 (.fl 3 (.fl 4 (.fl 5 (.fl 6 (.fl 7 (.fl 8 (.fl 9 (.eff 10 [] (.fl 11 .done)))))))))))))]
def kp20:List (Nat×List Nat):=[(0,[0,1]),(1,[2,3]),(2,[]),(3,[2,3]),(4,[2,3,53,54]),(5,[2,3,53,54]),(6,[2,3,5,53,54]),(7,[]),(8,[2,3,53,54]),(9,[])]
noncomputable def s20:SCode:=toS (zF pl20) (zE kp20) (Tryz.f20.body.getD .skip)
theorem fn20:FnIs Tryz.prog 20 70 [.tmp 4] s20:=FnIs.mk' (zF pl20) (zE kp20) (by kernel_rfl)
def pl22:List (Nat×Plan):=[(2,(.fl 0 (.fl 1 (.fl 3 (.fl 4 (.eff 2 [4] (.eff 5 [] (.fl 6 (.fl 7 .done))))))))),(3,(.fl 0 (.fl 1 (.fl 2 (.fl 3 (.eff 4 [1] (.fl 5 (.fl 6 .done))))))))]
def kp22:List (Nat×List Nat):=[(0,[0]),(1,[1]),(2,[1]),(3,[1])]
noncomputable def s22:SCode:=toS (zF pl22) (zE kp22) (Tryz.f22.body.getD .skip)
theorem fn22:FnIs Tryz.prog 22 19 [.tmp 2] s22:=FnIs.mk' (zF pl22) (zE kp22) (by kernel_rfl)
def pl23:List (Nat×Plan):=[]
def kp23:List (Nat×List Nat):=[(0,[0,1]),(1,[2,3])]
noncomputable def s23:SCode:=toS (zF pl23) (zE kp23) (Tryz.f23.body.getD .skip)
theorem fn23:FnIs Tryz.prog 23 31 [.tmp 4] s23:=FnIs.mk' (zF pl23) (zE kp23) (by kernel_rfl)
def pl25:List (Nat×Plan):=[(1,(.fl 0 (.fl 1 (.fl 2 (.fl 3 (.eff 4 [1] (.fl 5 (.fl 6 .done))))))))]
def kp25:List (Nat×List Nat):=[(0,[0]),(1,[1])]
noncomputable def s25:SCode:=toS (zF pl25) (zE kp25) (Tryz.f25.body.getD .skip)
theorem fn25:FnIs Tryz.prog 25 9 [.tmp 2] s25:=FnIs.mk' (zF pl25) (zE kp25) (by kernel_rfl)
def pl26:List (Nat×Plan):=[]
def kp26:List (Nat×List Nat):=[(0,[0,1]),(1,[2,3])]
noncomputable def s26:SCode:=toS (zF pl26) (zE kp26) (Tryz.f26.body.getD .skip)
theorem fn26:FnIs Tryz.prog 26 24 [.tmp 4] s26:=FnIs.mk' (zF pl26) (zE kp26) (by kernel_rfl)
def pl27:List (Nat×Plan):=[(3,(.fl 0 (.fl 1 (.eff 2 [1] (.eff 3 [] .done)))))]
def kp27:List (Nat×List Nat):=[(0,[0,1]),(1,[0,1,4,5]),(2,[1,4,5,6]),(3,[4,5]),(4,[1,4,5,6]),(5,[1,4,5,6]),(6,[1,4,5,6,7]),(7,[4,5,6,7]),(8,[4,5,7]),(9,[4,5])]
noncomputable def s27:SCode:=toS (zF pl27) (zE kp27) (Tryz.f27.body.getD .skip)
theorem fn27:FnIs Tryz.prog 27 35 [.cell 4 23,.cell 5 25] s27:=FnIs.mk' (zF pl27) (zE kp27) (by kernel_rfl)
def pl28:List (Nat×Plan):=[(2,(.fl 0 (.fl 1 (.fl 2 (.fl 3 (.fl 4 (.fl 5 (.fl 6 (.fl 7 (.fl 8 (.fl 9 .done)))))))))))]
def kp28:List (Nat×List Nat):=[(0,[0]),(1,[0]),(2,[0,3]),(3,[0,3]),(4,[0,3]),(5,[0,3]),(6,[0,3]),(7,[3])]
noncomputable def s28:SCode:=toS (zF pl28) (zE kp28) (Tryz.f28.body.getD .skip)
theorem fn28:FnIs Tryz.prog 28 28 [.tmp 2] s28:=FnIs.mk' (zF pl28) (zE kp28) (by kernel_rfl)
def pl29:List (Nat×Plan):=[]
def kp29:List (Nat×List Nat):=[(0,[1])]
noncomputable def s29:SCode:=toS (zF pl29) (zE kp29) (Tryz.f29.body.getD .skip)
theorem fn29:FnIs Tryz.prog 29 7 [] s29:=FnIs.mk' (zF pl29) (zE kp29) (by kernel_rfl)
def pl30:List (Nat×Plan):=[(2,(.fl 0 (.fl 2 (.fl 3 (.both (.eff 1 [2,3] (.both (.eff 4 [0,2] (.both (.eff 5 [] (.both (.eff 6 [] (.eff 7 [0,2,3] (.eff 8 [] .done))) (.eff 7 [0,2,3] (.eff 6 [] (.eff 8 [] .done))))) (.eff 7 [0,2,3] (.eff 5 [] (.eff 6 [] (.eff 8 [] .done)))))) (.eff 7 [0,2,3] (.eff 4 [0,2] (.eff 5 [] (.eff 6 [] (.eff 8 [] .done))))))) (.both (.eff 4 [0,2] (.both (.eff 1 [2,3] (.both (.eff 5 [] (.both (.eff 6 [] (.eff 7 [0,2,3] (.eff 8 [] .done))) (.eff 7 [0,2,3] (.eff 6 [] (.eff 8 [] .done))))) (.eff 7 [0,2,3] (.eff 5 [] (.eff 6 [] (.eff 8 [] .done)))))) (.eff 7 [0,2,3] (.eff 1 [2,3] (.eff 5 [] (.eff 6 [] (.eff 8 [] .done))))))) (.eff 7 [0,2,3] (.both (.eff 1 [2,3] (.eff 4 [0,2] (.eff 5 [] (.eff 6 [] (.eff 8 [] .done))))) (.eff 4 [0,2] (.eff 1 [2,3] (.eff 5 [] (.eff 6 [] (.eff 8 [] .done))))))))))))),(4,(.fl 0 (.fl 1 (.fl 2 (.eff 3 [1] (.eff 4 [1] (.eff 5 [] (.fl 6 (.eff 7 [] .done))))))))),(6,(.fl 0 (.fl 1 (.fl 2 (.eff 3 [1] (.eff 4 [1] (.eff 5 [] (.fl 6 (.eff 7 [] .done))))))))),(9,(.fl 0 (.fl 2 (.both (.eff 1 [2] (.eff 3 [0,2] (.eff 4 [] (.eff 5 [] (.eff 6 [] .done))))) (.eff 3 [0,2] (.eff 1 [2] (.eff 4 [] (.eff 5 [] (.eff 6 [] .done))))))))),(11,(.fl 0 (.fl 2 (.fl 3 (.both (.eff 1 [2,3] (.both (.eff 4 [0,2] (.both (.eff 5 [] (.both (.eff 6 [] (.eff 7 [0,2,3] (.eff 8 [] .done))) (.eff 7 [0,2,3] (.eff 6 [] (.eff 8 [] .done))))) (.eff 7 [0,2,3] (.eff 5 [] (.eff 6 [] (.eff 8 [] .done)))))) (.eff 7 [0,2,3] (.eff 4 [0,2] (.eff 5 [] (.eff 6 [] (.eff 8 [] .done))))))) (.both (.eff 4 [0,2] (.both (.eff 1 [2,3] (.both (.eff 5 [] (.both (.eff 6 [] (.eff 7 [0,2,3] (.eff 8 [] .done))) (.eff 7 [0,2,3] (.eff 6 [] (.eff 8 [] .done))))) (.eff 7 [0,2,3] (.eff 5 [] (.eff 6 [] (.eff 8 [] .done)))))) (.eff 7 [0,2,3] (.eff 1 [2,3] (.eff 5 [] (.eff 6 [] (.eff 8 [] .done))))))) (.eff 7 [0,2,3] (.both (.eff 1 [2,3] (.eff 4 [0,2] (.eff 5 [] (.eff 6 [] (.eff 8 [] .done))))) (.eff 4 [0,2] (.eff 1 [2,3] (.eff 5 [] (.eff 6 [] (.eff 8 [] .done))))))))))))),(15,(.fl 0 (.fl 2 (.both (.eff 1 [2] (.both (.eff 3 [0,2] (.both (.eff 4 [] (.both (.eff 5 [0,2] (.both (.eff 6 [] (.eff 7 [0,2] (.eff 8 [] .done))) (.eff 7 [0,2] (.eff 6 [] (.eff 8 [] .done))))) (.eff 7 [0,2] (.eff 5 [0,2] (.eff 6 [] (.eff 8 [] .done)))))) (.both (.eff 5 [0,2] (.both (.eff 4 [] (.both (.eff 6 [] (.eff 7 [0,2] (.eff 8 [] .done))) (.eff 7 [0,2] (.eff 6 [] (.eff 8 [] .done))))) (.eff 7 [0,2] (.eff 4 [] (.eff 6 [] (.eff 8 [] .done)))))) (.eff 7 [0,2] (.both (.eff 4 [] (.eff 5 [0,2] (.eff 6 [] (.eff 8 [] .done)))) (.eff 5 [0,2] (.eff 4 [] (.eff 6 [] (.eff 8 [] .done))))))))) (.both (.eff 5 [0,2] (.both (.eff 3 [0,2] (.both (.eff 4 [] (.both (.eff 6 [] (.eff 7 [0,2] (.eff 8 [] .done))) (.eff 7 [0,2] (.eff 6 [] (.eff 8 [] .done))))) (.eff 7 [0,2] (.eff 4 [] (.eff 6 [] (.eff 8 [] .done)))))) (.eff 7 [0,2] (.eff 3 [0,2] (.eff 4 [] (.eff 6 [] (.eff 8 [] .done))))))) (.eff 7 [0,2] (.both (.eff 3 [0,2] (.both (.eff 4 [] (.eff 5 [0,2] (.eff 6 [] (.eff 8 [] .done)))) (.eff 5 [0,2] (.eff 4 [] (.eff 6 [] (.eff 8 [] .done)))))) (.eff 5 [0,2] (.eff 3 [0,2] (.eff 4 [] (.eff 6 [] (.eff 8 [] .done)))))))))) (.both (.eff 3 [0,2] (.both (.eff 1 [2] (.both (.eff 4 [] (.both (.eff 5 [0,2] (.both (.eff 6 [] (.eff 7 [0,2] (.eff 8 [] .done))) (.eff 7 [0,2] (.eff 6 [] (.eff 8 [] .done))))) (.eff 7 [0,2] (.eff 5 [0,2] (.eff 6 [] (.eff 8 [] .done)))))) (.both (.eff 5 [0,2] (.both (.eff 4 [] (.both (.eff 6 [] (.eff 7 [0,2] (.eff 8 [] .done))) (.eff 7 [0,2] (.eff 6 [] (.eff 8 [] .done))))) (.eff 7 [0,2] (.eff 4 [] (.eff 6 [] (.eff 8 [] .done)))))) (.eff 7 [0,2] (.both (.eff 4 [] (.eff 5 [0,2] (.eff 6 [] (.eff 8 [] .done)))) (.eff 5 [0,2] (.eff 4 [] (.eff 6 [] (.eff 8 [] .done))))))))) (.both (.eff 5 [0,2] (.both (.eff 1 [2] (.both (.eff 4 [] (.both (.eff 6 [] (.eff 7 [0,2] (.eff 8 [] .done))) (.eff 7 [0,2] (.eff 6 [] (.eff 8 [] .done))))) (.eff 7 [0,2] (.eff 4 [] (.eff 6 [] (.eff 8 [] .done)))))) (.eff 7 [0,2] (.eff 1 [2] (.eff 4 [] (.eff 6 [] (.eff 8 [] .done))))))) (.eff 7 [0,2] (.both (.eff 1 [2] (.both (.eff 4 [] (.eff 5 [0,2] (.eff 6 [] (.eff 8 [] .done)))) (.eff 5 [0,2] (.eff 4 [] (.eff 6 [] (.eff 8 [] .done)))))) (.eff 5 [0,2] (.eff 1 [2] (.eff 4 [] (.eff 6 [] (.eff 8 [] .done)))))))))) (.both (.eff 5 [0,2] (.both (.eff 1 [2] (.both (.eff 3 [0,2] (.both (.eff 4 [] (.both (.eff 6 [] (.eff 7 [0,2] (.eff 8 [] .done))) (.eff 7 [0,2] (.eff 6 [] (.eff 8 [] .done))))) (.eff 7 [0,2] (.eff 4 [] (.eff 6 [] (.eff 8 [] .done)))))) (.eff 7 [0,2] (.eff 3 [0,2] (.eff 4 [] (.eff 6 [] (.eff 8 [] .done))))))) (.both (.eff 3 [0,2] (.both (.eff 1 [2] (.both (.eff 4 [] (.both (.eff 6 [] (.eff 7 [0,2] (.eff 8 [] .done))) (.eff 7 [0,2] (.eff 6 [] (.eff 8 [] .done))))) (.eff 7 [0,2] (.eff 4 [] (.eff 6 [] (.eff 8 [] .done)))))) (.eff 7 [0,2] (.eff 1 [2] (.eff 4 [] (.eff 6 [] (.eff 8 [] .done))))))) (.eff 7 [0,2] (.both (.eff 1 [2] (.eff 3 [0,2] (.eff 4 [] (.eff 6 [] (.eff 8 [] .done))))) (.eff 3 [0,2] (.eff 1 [2] (.eff 4 [] (.eff 6 [] (.eff 8 [] .done)))))))))) (.eff 7 [0,2] (.both (.eff 1 [2] (.both (.eff 3 [0,2] (.both (.eff 4 [] (.eff 5 [0,2] (.eff 6 [] (.eff 8 [] .done)))) (.eff 5 [0,2] (.eff 4 [] (.eff 6 [] (.eff 8 [] .done)))))) (.eff 5 [0,2] (.eff 3 [0,2] (.eff 4 [] (.eff 6 [] (.eff 8 [] .done))))))) (.both (.eff 3 [0,2] (.both (.eff 1 [2] (.both (.eff 4 [] (.eff 5 [0,2] (.eff 6 [] (.eff 8 [] .done)))) (.eff 5 [0,2] (.eff 4 [] (.eff 6 [] (.eff 8 [] .done)))))) (.eff 5 [0,2] (.eff 1 [2] (.eff 4 [] (.eff 6 [] (.eff 8 [] .done))))))) (.eff 5 [0,2] (.both (.eff 1 [2] (.eff 3 [0,2] (.eff 4 [] (.eff 6 [] (.eff 8 [] .done))))) (.eff 3 [0,2] (.eff 1 [2] (.eff 4 [] (.eff 6 [] (.eff 8 [] .done))))))))))))))))]
def kp30:List (Nat×List Nat):=[(0,[0]),(1,[1,2]),(2,[1,2]),(3,[1,2,3]),(4,[1,2,3]),(5,[1,2,3]),(6,[1,2,3]),(7,[2,3]),(8,[1,2]),(9,[1,2]),(10,[1,2]),(11,[1,2]),(12,[1,2,4]),(13,[1,2,4]),(14,[2,4]),(15,[1,2]),(16,[1,2,5]),(17,[1,2,5]),(18,[2,5])]
noncomputable def s30:SCode:=toS (zF pl30) (zE kp30) (Tryz.f30.body.getD .skip)
theorem fn30:FnIs Tryz.prog 30 73 [.cell 2 44] s30:=FnIs.mk' (zF pl30) (zE kp30) (by kernel_rfl)
def pl31:List (Nat×Plan):=[]
def kp31:List (Nat×List Nat):=[(0,[0,1]),(1,[0])]
noncomputable def s31:SCode:=toS (zF pl31) (zE kp31) (Tryz.f31.body.getD .skip)
theorem fn31:FnIs Tryz.prog 31 11 [] s31:=FnIs.mk' (zF pl31) (zE kp31) (by kernel_rfl)
def pl34:List (Nat×Plan):=[(6,(.fl 0 (.fl 1 (.fl 2 (.fl 3 (.fl 4 (.fl 5 (.fl 6 (.fl 7 (.fl 8 (.fl 9 (.fl 10 .done)))))))))))),(12,(.fl 0 (.fl 1 (.fl 2 (.fl 3 (.fl 4 (.fl 5 (.fl 6 (.fl 7 (.fl 8 (.fl 9 (.fl 10 .done)))))))))))),(18,(.fl 0 (.fl 1 (.fl 2 (.fl 3 (.fl 4 (.fl 5 (.fl 6 (.fl 7 (.fl 8 (.fl 9 (.fl 10 (.fl 11 (.fl 12 (.fl 13 (.fl 14 (.fl 15 (.fl 16 (.fl 17 (.fl 18 (.fl 19 (.fl 20 (.fl 21 (.fl 22 (.fl 23 (.fl 24 (.fl 25 (.eff 26 [] (.fl 27 (.fl 28 .done))))))))))))))))))))))))))))))]
def kp34:List (Nat×List Nat):=[(0,[0,1]),(1,[2,3]),(2,[]),(3,[2,3]),(4,[2,3,80,81]),(5,[2,3,80,81]),(6,[2,3,5,80,81]),(7,[]),(8,[2,3,80,81]),(9,[2,3]),(10,[2,3,98,99]),(11,[2,3,98,99]),(12,[2,3,6,98,99]),(13,[]),(14,[2,3,98,99]),(15,[2,3]),(16,[2,3,116,117]),(17,[2,3,116,117]),(18,[2,3,7,116,117]),(19,[]),(20,[2,3,116,117]),(21,[])]
noncomputable def s34:SCode:=toS (zF pl34) (zE kp34) (Tryz.f34.body.getD .skip)
theorem fn34:FnIs Tryz.prog 34 150 [.tmp 4] s34:=FnIs.mk' (zF pl34) (zE kp34) (by kernel_rfl)
def pl35:List (Nat×Plan):=[(8,(.fl 0 (.fl 1 (.fl 2 (.fl 3 (.fl 4 (.eff 5 [2] (.eff 6 [2] (.fl 7 (.eff 8 [] (.eff 9 [] (.eff 10 [] .done)))))))))))),(10,(.fl 0 (.fl 1 (.fl 2 (.fl 3 (.fl 4 (.fl 8 (.eff 5 [1] (.fl 6 (.fl 7 (.eff 9 [1] (.fl 10 (.fl 11 .done))))))))))))),(12,(.fl 0 (.fl 1 (.fl 2 (.fl 3 (.fl 4 (.eff 5 [1] (.eff 6 [1] (.fl 7 (.fl 8 .done)))))))))),(23,(.fl 0 (.fl 1 (.fl 2 (.fl 3 (.eff 4 [1] (.fl 5 (.fl 6 (.fl 7 .done))))))))),(27,(.fl 0 (.fl 1 (.fl 2 (.fl 3 (.eff 4 [1] (.eff 5 [1] (.fl 6 (.fl 7 .done)))))))))]
def kp35:List (Nat×List Nat):=[(0,[0]),(1,[1]),(2,[1,3]),(3,[1,3,12]),(4,[1]),(5,[1,4]),(6,[1,4,17,18,19]),(7,[1,4,17,18,19]),(8,[1,4,6,17,18,19]),(9,[1,4,17,18,19]),(10,[1,4]),(11,[1,3,12]),(12,[1]),(13,[1,3,12]),(14,[1]),(15,[1,7]),(16,[1,7,59,60,61]),(17,[1,7,59,60,61]),(18,[1,7,9,59,60,61]),(19,[1,7,9,10,59,60,61]),(20,[1,7,59,60,61]),(21,[1,7,10,59,60,61]),(22,[1,7,59,60,61]),(23,[1,7]),(24,[1,3]),(25,[1,3]),(26,[1,3,12]),(27,[1]),(28,[1,3]),(29,[1,3]),(30,[3])]
noncomputable def s35:SCode:=toS (zF pl35) (zE kp35) (Tryz.f35.body.getD .skip)
theorem fn35:FnIs Tryz.prog 35 115 [.tmp 2] s35:=FnIs.mk' (zF pl35) (zE kp35) (by kernel_rfl)
def pl37:List (Nat×Plan):=[(1,(.fl 0 (.fl 1 (.fl 2 (.fl 3 (.fl 4 (.fl 5 (.fl 6 (.fl 7 (.fl 8 (.fl 9 (.fl 10 (.fl 11 (.fl 12 (.fl 13 (.fl 14 (.fl 15 (.fl 16 (.fl 17 .done)))))))))))))))))))]
def kp37:List (Nat×List Nat):=[(0,[0]),(1,[0])]
noncomputable def s37:SCode:=toS (zF pl37) (zE kp37) (Tryz.f37.body.getD .skip)
theorem fn37:FnIs Tryz.prog 37 20 [.tmp 2] s37:=FnIs.mk' (zF pl37) (zE kp37) (by kernel_rfl)
def pl38:List (Nat×Plan):=[]
def kp38:List (Nat×List Nat):=[(0,[0,1]),(1,[0,1])]
noncomputable def s38:SCode:=toS (zF pl38) (zE kp38) (Tryz.f38.body.getD .skip)
theorem fn38:FnIs Tryz.prog 38 13 [] s38:=FnIs.mk' (zF pl38) (zE kp38) (by kernel_rfl)
def pl39:List (Nat×Plan):=[(13,(.fl 0 (.fl 1 (.fl 2 (.eff 3 [1] (.eff 4 [1] (.eff 5 [] (.fl 6 (.eff 7 [] .done))))))))),(15,(.fl 0 (.fl 1 (.fl 2 (.eff 3 [1] (.eff 4 [1] (.eff 5 [] (.fl 6 (.eff 7 [] .done))))))))),(17,(.fl 0 (.fl 1 (.fl 2 (.eff 3 [1] (.eff 4 [1] (.eff 5 [] (.fl 6 (.eff 7 [] .done))))))))),(22,(.fl 0 (.fl 1 (.fl 2 (.eff 3 [1] (.eff 4 [1] (.eff 5 [] (.fl 6 (.eff 7 [] .done))))))))),(5,(.fl 0 (.fl 1 (.fl 2 (.eff 3 [1] (.eff 4 [1] (.eff 5 [] (.fl 6 (.eff 7 [] .done)))))))))]
def kp39:List (Nat×List Nat):=[(0,[0]),(1,[0,2]),(2,[0,2,3]),(3,[0,2,3]),(4,[0,2,3]),(5,[0,2,3]),(6,[0,2,3]),(7,[0,2,3]),(8,[0,2,3]),(9,[0,2,3]),(10,[0,2,3]),(11,[0,2,3]),(12,[0,2,3]),(13,[0,2,3]),(14,[0,2,3]),(15,[0,2,3]),(16,[0,2,3]),(17,[0,2,3]),(18,[0,2,3]),(19,[0,2,3]),(20,[0,2,3]),(21,[0,2,3]),(22,[0,2,3]),(23,[0,2,3]),(24,[0,2,3]),(25,[0,2,3]),(26,[0,2,3]),(27,[0,2,3]),(28,[0,2,3,4]),(29,[0,2,3,4]),(30,[0,2,3,4]),(31,[0,2,3]),(32,[0,2,3]),(33,[0,2,3]),(34,[2,3]),(35,[0,2,3]),(36,[2,3]),(37,[0,2,3]),(38,[2,3]),(39,[0,2,3]),(40,[2,3]),(41,[2,3])]
noncomputable def s39:SCode:=toS (zF pl39) (zE kp39) (Tryz.f39.body.getD .skip)
theorem fn39:FnIs Tryz.prog 39 158 [.cell 2 44] s39:=FnIs.mk' (zF pl39) (zE kp39) (by kernel_rfl)
def pl40:List (Nat×Plan):=[]
def kp40:List (Nat×List Nat):=[(0,[0,1]),(1,[0])]
noncomputable def s40:SCode:=toS (zF pl40) (zE kp40) (Tryz.f40.body.getD .skip)
theorem fn40:FnIs Tryz.prog 40 17 [] s40:=FnIs.mk' (zF pl40) (zE kp40) (by kernel_rfl)
def pl42:List (Nat×Plan):=[]
def kp42:List (Nat×List Nat):=[(0,[0,1]),(1,[0,1]),(2,[]),(3,[0,1]),(4,[0,1,5]),(5,[1,5,14,15,16]),(6,[1,5,14,15,16]),(7,[1,5,6,7,14,15,16]),(8,[1,5,14,15,16]),(9,[5])]
noncomputable def s42:SCode:=toS (zF pl42) (zE kp42) (Tryz.f42.body.getD .skip)
theorem fn42:FnIs Tryz.prog 42 32 [.tmp 4] s42:=FnIs.mk' (zF pl42) (zE kp42) (by kernel_rfl)
def pl43:List (Nat×Plan):=[]
def kp43:List (Nat×List Nat):=[(0,[0]),(1,[0])]
noncomputable def s43:SCode:=toS (zF pl43) (zE kp43) (Tryz.f43.body.getD .skip)
theorem fn43:FnIs Tryz.prog 43 4 [.tmp 2] s43:=FnIs.mk' (zF pl43) (zE kp43) (by kernel_rfl)
def pl44:List (Nat×Plan):=[(5,(.fl 0 (.fl 1 (.fl 2 (.fl 3 (.fl 4 (.fl 5 (.eff 6 [3] (.fl 7 (.fl 8 (.eff 9 [] .done)))))))))))]
def kp44:List (Nat×List Nat):=[(0,[0]),(1,[0]),(2,[0,3]),(3,[3,9,10,11]),(4,[3,9,10,11]),(5,[3,4,5,9,10,11]),(6,[3,9,10,11]),(7,[3])]
noncomputable def s44:SCode:=toS (zF pl44) (zE kp44) (Tryz.f44.body.getD .skip)
theorem fn44:FnIs Tryz.prog 44 28 [.tmp 2] s44:=FnIs.mk' (zF pl44) (zE kp44) (by kernel_rfl)
def pl45:List (Nat×Plan):=[]
def kp45:List (Nat×List Nat):=[(0,[0,1]),(1,[0,1]),(2,[]),(3,[0,1]),(4,[0,1,5]),(5,[1,5,14,15,16]),(6,[1,5,14,15,16]),(7,[1,5,6,7,14,15,16]),(8,[1,5,14,15,16]),(9,[5])]
noncomputable def s45:SCode:=toS (zF pl45) (zE kp45) (Tryz.f45.body.getD .skip)
theorem fn45:FnIs Tryz.prog 45 32 [.tmp 4] s45:=FnIs.mk' (zF pl45) (zE kp45) (by kernel_rfl)
def pl46:List (Nat×Plan):=[]
def kp46:List (Nat×List Nat):=[(0,[0,1]),(1,[0,1]),(2,[]),(3,[0,1]),(4,[0,1,5]),(5,[1,5,14,15,16]),(6,[1,5,14,15,16]),(7,[1,5,6,7,14,15,16]),(8,[1,5,14,15,16]),(9,[5])]
noncomputable def s46:SCode:=toS (zF pl46) (zE kp46) (Tryz.f46.body.getD .skip)
theorem fn46:FnIs Tryz.prog 46 32 [.tmp 4] s46:=FnIs.mk' (zF pl46) (zE kp46) (by kernel_rfl)
def pl47:List (Nat×Plan):=[]
def kp47:List (Nat×List Nat):=[(0,[0]),(1,[0]),(2,[]),(3,[])]
noncomputable def s47:SCode:=toS (zF pl47) (zE kp47) (Tryz.f47.body.getD .skip)
theorem fn47:FnIs Tryz.prog 47 4 [.tmp 2] s47:=FnIs.mk' (zF pl47) (zE kp47) (by kernel_rfl)
def pl48:List (Nat×Plan):=[]
def kp48:List (Nat×List Nat):=[(0,[0]),(1,[0]),(2,[0,3]),(3,[]),(4,[0,3])]
noncomputable def s48:SCode:=toS (zF pl48) (zE kp48) (Tryz.f48.body.getD .skip)
theorem fn48:FnIs Tryz.prog 48 14 [.tmp 2] s48:=FnIs.mk' (zF pl48) (zE kp48) (by kernel_rfl)
def pl49:List (Nat×Plan):=[]
def kp49:List (Nat×List Nat):=[(0,[0,1]),(1,[0,1]),(2,[]),(3,[0,1]),(4,[0,1,5]),(5,[1,5,14,15,16]),(6,[1,5,14,15,16]),(7,[1,5,6,7,14,15,16]),(8,[1,5,14,15,16]),(9,[5])]
noncomputable def s49:SCode:=toS (zF pl49) (zE kp49) (Tryz.f49.body.getD .skip)
theorem fn49:FnIs Tryz.prog 49 32 [.tmp 4] s49:=FnIs.mk' (zF pl49) (zE kp49) (by kernel_rfl)
def pl53:List (Nat×Plan):=[]
def kp53:List (Nat×List Nat):=[(0,[0,1]),(1,[2,3,4])]
noncomputable def s53:SCode:=toS (zF pl53) (zE kp53) (Tryz.f53.body.getD .skip)
theorem fn53:FnIs Tryz.prog 53 8 [.cell 4 42] s53:=FnIs.mk' (zF pl53) (zE kp53) (by kernel_rfl)
def pl54:List (Nat×Plan):=[]
def kp54:List (Nat×List Nat):=[(0,[0,1]),(1,[1,2]),(2,[1,2,5]),(3,[1,2,5,13,14,15]),(4,[1,2,5,13,14,15]),(5,[1,2,5,6,7,13,14,15]),(6,[1,2,5,13,14,15]),(7,[1,5])]
noncomputable def s54:SCode:=toS (zF pl54) (zE kp54) (Tryz.f54.body.getD .skip)
theorem fn54:FnIs Tryz.prog 54 31 [.tmp 4] s54:=FnIs.mk' (zF pl54) (zE kp54) (by kernel_rfl)
def pl55:List (Nat×Plan):=[(3,(.fl 0 (.fl 1 (.fl 2 (.fl 3 (.fl 4 (.fl 5 (.fl 6 (.eff 7 [] (.fl 8 .done))))))))))]
def kp55:List (Nat×List Nat):=[(0,[0,1]),(1,[1,2]),(2,[]),(3,[1,2])]
noncomputable def s55:SCode:=toS (zF pl55) (zE kp55) (Tryz.f55.body.getD .skip)
theorem fn55:FnIs Tryz.prog 55 18 [.tmp 4] s55:=FnIs.mk' (zF pl55) (zE kp55) (by kernel_rfl)
def pl56:List (Nat×Plan):=[(6,(.fl 0 (.fl 1 (.fl 2 (.fl 3 (.fl 4 (.fl 5 (.fl 6 (.fl 7 (.eff 8 [] (.fl 9 .done)))))))))))]
def kp56:List (Nat×List Nat):=[(0,[0,1]),(1,[0,1]),(2,[]),(3,[0,1]),(4,[0,1,12,13]),(5,[0,1,12,13]),(6,[0,1,5,12,13]),(7,[]),(8,[0,1,12,13]),(9,[])]
noncomputable def s56:SCode:=toS (zF pl56) (zE kp56) (Tryz.f56.body.getD .skip)
theorem fn56:FnIs Tryz.prog 56 27 [.tmp 4] s56:=FnIs.mk' (zF pl56) (zE kp56) (by kernel_rfl)
def pl59:List (Nat×Plan):=[]
def kp59:List (Nat×List Nat):=[(0,[0,1]),(1,[2,3,4]),(2,[2,3,4]),(3,[2,3,4,5]),(4,[2,3,4,5,13]),(5,[2,4,5]),(6,[4,5]),(7,[2,3,4,5,13]),(8,[2,4,5]),(9,[4,5]),(10,[2,3,4]),(11,[2,3,4,6])]
noncomputable def s59:SCode:=toS (zF pl59) (zE kp59) (Tryz.f59.body.getD .skip)
theorem fn59:FnIs Tryz.prog 59 45 [.cell 4 39] s59:=FnIs.mk' (zF pl59) (zE kp59) (by kernel_rfl)
def pl63:List (Nat×Plan):=[]
def kp63:List (Nat×List Nat):=[(0,[0,1]),(1,[2,3,4]),(2,[2,3,4]),(3,[2,4]),(4,[2,3,4]),(5,[4]),(6,[2,3,4]),(7,[2,3,4,5])]
noncomputable def s63:SCode:=toS (zF pl63) (zE kp63) (Tryz.f63.body.getD .skip)
theorem fn63:FnIs Tryz.prog 63 27 [.cell 4 63] s63:=FnIs.mk' (zF pl63) (zE kp63) (by kernel_rfl)
def pl64:List (Nat×Plan):=[(6,(.fl 0 (.fl 1 (.fl 2 (.fl 3 (.fl 4 (.fl 5 (.fl 6 (.fl 7 (.eff 8 [] (.fl 9 .done)))))))))))]
def kp64:List (Nat×List Nat):=[(0,[0,1]),(1,[0,1]),(2,[]),(3,[0,1]),(4,[0,1,12,13]),(5,[0,1,12,13]),(6,[0,1,5,12,13]),(7,[]),(8,[0,1,12,13]),(9,[])]
noncomputable def s64:SCode:=toS (zF pl64) (zE kp64) (Tryz.f64.body.getD .skip)
theorem fn64:FnIs Tryz.prog 64 27 [.tmp 4] s64:=FnIs.mk' (zF pl64) (zE kp64) (by kernel_rfl)
def pl65:List (Nat×Plan):=[(2,(.fl 0 (.fl 1 (.fl 2 .done)))),(6,(.fl 0 (.fl 1 (.fl 2 .done))))]
def kp65:List (Nat×List Nat):=[(0,[0]),(1,[0]),(2,[]),(3,[0]),(4,[0,4]),(5,[4,5]),(6,[]),(7,[4])]
noncomputable def s65:SCode:=toS (zF pl65) (zE kp65) (Tryz.f65.body.getD .skip)
theorem fn65:FnIs Tryz.prog 65 17 [.tmp 2,.tmp 3] s65:=FnIs.mk' (zF pl65) (zE kp65) (by kernel_rfl)
def pl66:List (Nat×Plan):=[(3,(.fl 0 (.fl 1 (.fl 2 (.eff 3 [2] (.eff 4 [] .done))))))]
def kp66:List (Nat×List Nat):=[(0,[0,1]),(1,[0,1,2,3]),(2,[0,1,2]),(3,[0,1,2,4])]
noncomputable def s66:SCode:=toS (zF pl66) (zE kp66) (Tryz.f66.body.getD .skip)
theorem fn66:FnIs Tryz.prog 66 14 [] s66:=FnIs.mk' (zF pl66) (zE kp66) (by kernel_rfl)
def pl67:List (Nat×Plan):=[]
def kp67:List (Nat×List Nat):=[(0,[0,1]),(1,[0,1]),(2,[0]),(3,[]),(4,[])]
noncomputable def s67:SCode:=toS (zF pl67) (zE kp67) (Tryz.f67.body.getD .skip)
theorem fn67:FnIs Tryz.prog 67 15 [.tmp 4] s67:=FnIs.mk' (zF pl67) (zE kp67) (by kernel_rfl)
def pl68:List (Nat×Plan):=[]
def kp68:List (Nat×List Nat):=[(0,[0]),(1,[0]),(2,[0,3]),(3,[0,3]),(4,[0,3]),(5,[3])]
noncomputable def s68:SCode:=toS (zF pl68) (zE kp68) (Tryz.f68.body.getD .skip)
theorem fn68:FnIs Tryz.prog 68 26 [.tmp 2] s68:=FnIs.mk' (zF pl68) (zE kp68) (by kernel_rfl)
def pl69:List (Nat×Plan):=[(4,(.fl 0 (.fl 1 (.fl 2 (.fl 3 (.fl 4 (.fl 5 (.fl 6 (.fl 7 (.fl 8 (.fl 9 (.fl 10 (.fl 11 (.fl 12 (.fl 13 (.fl 14 .done))))))))))))))))]
def kp69:List (Nat×List Nat):=[(0,[0,1]),(1,[0,1]),(2,[]),(3,[0,1]),(4,[0,1,5]),(5,[0,1,5]),(6,[0,1,5]),(7,[0,1,5]),(8,[5]),(9,[0,1,5])]
noncomputable def s69:SCode:=toS (zF pl69) (zE kp69) (Tryz.f69.body.getD .skip)
theorem fn69:FnIs Tryz.prog 69 37 [.tmp 4] s69:=FnIs.mk' (zF pl69) (zE kp69) (by kernel_rfl)
def pl70:List (Nat×Plan):=[]
def kp70:List (Nat×List Nat):=[(0,[0]),(1,[0]),(2,[0,3]),(3,[0,3]),(4,[0,3]),(5,[3])]
noncomputable def s70:SCode:=toS (zF pl70) (zE kp70) (Tryz.f70.body.getD .skip)
theorem fn70:FnIs Tryz.prog 70 21 [.tmp 2] s70:=FnIs.mk' (zF pl70) (zE kp70) (by kernel_rfl)
def pl71:List (Nat×Plan):=[]
def kp71:List (Nat×List Nat):=[(0,[0]),(1,[1,2]),(2,[1,2,3])]
noncomputable def s71:SCode:=toS (zF pl71) (zE kp71) (Tryz.f71.body.getD .skip)
theorem fn71:FnIs Tryz.prog 71 11 [.cell 2 120] s71:=FnIs.mk' (zF pl71) (zE kp71) (by kernel_rfl)
def pl72:List (Nat×Plan):=[(4,(.fl 0 (.fl 1 (.fl 2 (.fl 3 (.fl 4 (.fl 5 (.fl 6 (.fl 7 (.fl 8 (.fl 9 (.fl 10 (.fl 11 (.fl 12 (.fl 13 (.fl 14 .done))))))))))))))))]
def kp72:List (Nat×List Nat):=[(0,[0,1]),(1,[0,1]),(2,[]),(3,[0,1]),(4,[0,1,5]),(5,[0,1,5]),(6,[0,1,5]),(7,[0,1,5]),(8,[5]),(9,[0,1,5])]
noncomputable def s72:SCode:=toS (zF pl72) (zE kp72) (Tryz.f72.body.getD .skip)
theorem fn72:FnIs Tryz.prog 72 37 [.tmp 4] s72:=FnIs.mk' (zF pl72) (zE kp72) (by kernel_rfl)
def pl73:List (Nat×Plan):=[]
def kp73:List (Nat×List Nat):=[(0,[0]),(1,[0,1])]
noncomputable def s73:SCode:=toS (zF pl73) (zE kp73) (Tryz.f73.body.getD .skip)
theorem fn73:FnIs Tryz.prog 73 4 [.cell 1 63] s73:=FnIs.mk' (zF pl73) (zE kp73) (by kernel_rfl)
def pl74:List (Nat×Plan):=[(4,(.fl 0 (.fl 1 (.fl 2 (.fl 3 (.fl 4 (.fl 5 (.fl 6 (.fl 7 (.fl 8 (.fl 9 (.fl 10 (.fl 11 (.fl 12 (.fl 13 (.fl 14 .done))))))))))))))))]
def kp74:List (Nat×List Nat):=[(0,[0,1]),(1,[0,1]),(2,[]),(3,[0,1]),(4,[0,1,5]),(5,[0,1,5]),(6,[0,1,5]),(7,[0,1,5]),(8,[5]),(9,[0,1,5])]
noncomputable def s74:SCode:=toS (zF pl74) (zE kp74) (Tryz.f74.body.getD .skip)
theorem fn74:FnIs Tryz.prog 74 37 [.tmp 4] s74:=FnIs.mk' (zF pl74) (zE kp74) (by kernel_rfl)
def pl75:List (Nat×Plan):=[]
def kp75:List (Nat×List Nat):=[(0,[0]),(1,[0]),(2,[]),(3,[0]),(4,[])]
noncomputable def s75:SCode:=toS (zF pl75) (zE kp75) (Tryz.f75.body.getD .skip)
theorem fn75:FnIs Tryz.prog 75 7 [.tmp 2] s75:=FnIs.mk' (zF pl75) (zE kp75) (by kernel_rfl)
def pl76:List (Nat×Plan):=[]
def kp76:List (Nat×List Nat):=[(0,[0]),(1,[0]),(2,[0,5,6]),(3,[0,5,6]),(4,[0,3,4,5,6]),(5,[3]),(6,[0,5,6]),(7,[0]),(8,[])]
noncomputable def s76:SCode:=toS (zF pl76) (zE kp76) (Tryz.f76.body.getD .skip)
theorem fn76:FnIs Tryz.prog 76 19 [.tmp 2] s76:=FnIs.mk' (zF pl76) (zE kp76) (by kernel_rfl)
def pl77:List (Nat×Plan):=[(4,(.fl 0 (.fl 1 (.fl 2 (.fl 3 (.fl 4 (.fl 5 (.fl 6 (.fl 7 (.fl 8 (.fl 9 (.fl 10 (.fl 11 (.fl 12 (.fl 13 (.fl 14 .done))))))))))))))))]
def kp77:List (Nat×List Nat):=[(0,[0,1]),(1,[0,1]),(2,[]),(3,[0,1]),(4,[0,1,5]),(5,[0,1,5]),(6,[0,1,5]),(7,[0,1,5]),(8,[5]),(9,[0,1,5])]
noncomputable def s77:SCode:=toS (zF pl77) (zE kp77) (Tryz.f77.body.getD .skip)
theorem fn77:FnIs Tryz.prog 77 37 [.tmp 4] s77:=FnIs.mk' (zF pl77) (zE kp77) (by kernel_rfl)
def pl78:List (Nat×Plan):=[]
def kp78:List (Nat×List Nat):=[(0,[0]),(1,[0,1])]
noncomputable def s78:SCode:=toS (zF pl78) (zE kp78) (Tryz.f78.body.getD .skip)
theorem fn78:FnIs Tryz.prog 78 4 [.cell 1 39] s78:=FnIs.mk' (zF pl78) (zE kp78) (by kernel_rfl)
def pl80:List (Nat×Plan):=[]
def kp80:List (Nat×List Nat):=[(0,[0]),(1,[0]),(2,[]),(3,[0])]
noncomputable def s80:SCode:=toS (zF pl80) (zE kp80) (Tryz.f80.body.getD .skip)
theorem fn80:FnIs Tryz.prog 80 10 [.tmp 2] s80:=FnIs.mk' (zF pl80) (zE kp80) (by kernel_rfl)
def pl81:List (Nat×Plan):=[]
def kp81:List (Nat×List Nat):=[(0,[0]),(1,[0]),(2,[0,3]),(3,[3,7,8,9]),(4,[3,7,8,9]),(5,[3,5,7,8,9]),(6,[3,7,8,9]),(7,[3])]
noncomputable def s81:SCode:=toS (zF pl81) (zE kp81) (Tryz.f81.body.getD .skip)
theorem fn81:FnIs Tryz.prog 81 20 [.tmp 2] s81:=FnIs.mk' (zF pl81) (zE kp81) (by kernel_rfl)
def pl82:List (Nat×Plan):=[]
def kp82:List (Nat×List Nat):=[(0,[0,1]),(1,[0,1]),(2,[0,1,5]),(3,[1,5,8,9,10]),(4,[1,5,8,9,10]),(5,[1,5,6,7,8,9,10]),(6,[1,5,7,8,9,10]),(7,[1,5,7,8,9,10]),(8,[1,5,8,9,10]),(9,[5])]
noncomputable def s82:SCode:=toS (zF pl82) (zE kp82) (Tryz.f82.body.getD .skip)
theorem fn82:FnIs Tryz.prog 82 25 [.tmp 4] s82:=FnIs.mk' (zF pl82) (zE kp82) (by kernel_rfl)
def pl83:List (Nat×Plan):=[]
def kp83:List (Nat×List Nat):=[(0,[0]),(1,[0]),(2,[0,3]),(3,[3,7,8,9]),(4,[3,7,8,9]),(5,[3,5,7,8,9]),(6,[3,7,8,9]),(7,[3])]
noncomputable def s83:SCode:=toS (zF pl83) (zE kp83) (Tryz.f83.body.getD .skip)
theorem fn83:FnIs Tryz.prog 83 20 [.tmp 2] s83:=FnIs.mk' (zF pl83) (zE kp83) (by kernel_rfl)
def pl84:List (Nat×Plan):=[(18,(.fl 0 (.fl 1 (.fl 4 (.fl 5 (.eff 2 [5] (.fl 3 (.eff 6 [] (.fl 7 (.fl 8 .done)))))))))),(20,(.fl 0 (.fl 1 (.fl 2 (.fl 3 (.eff 4 [1] (.eff 5 [1] (.fl 6 (.fl 7 .done)))))))))]
def kp84:List (Nat×List Nat):=[(0,[0]),(1,[1]),(2,[1,3]),(3,[1,3,10,11,12]),(4,[1,3,10,11,12]),(5,[1,3,5,10,11,12]),(6,[1,3,10,11,12]),(7,[1,3]),(8,[1,3,6,7]),(9,[1,3,7]),(10,[1,3,6,7]),(11,[1,3,6]),(12,[1,3,6,7]),(13,[1,3,6,7,37]),(14,[]),(15,[1,3,6,7,37]),(16,[]),(17,[1,3,6,7,37]),(18,[1]),(19,[1,3,6,7,37]),(20,[1]),(21,[1,3,6,7,37]),(22,[3]),(23,[1,3,6,7,37]),(24,[3]),(25,[1,6,7,37]),(26,[6]),(27,[1,6,7,37]),(28,[1]),(29,[1,6,7,37]),(30,[1,6,7]),(31,[])]
noncomputable def s84:SCode:=toS (zF pl84) (zE kp84) (Tryz.f84.body.getD .skip)
theorem fn84:FnIs Tryz.prog 84 90 [.tmp 2] s84:=FnIs.mk' (zF pl84) (zE kp84) (by kernel_rfl)
def pl85:List (Nat×Plan):=[]
def kp85:List (Nat×List Nat):=[(0,[0,1]),(1,[0,1]),(2,[0]),(3,[]),(4,[])]
noncomputable def s85:SCode:=toS (zF pl85) (zE kp85) (Tryz.f85.body.getD .skip)
theorem fn85:FnIs Tryz.prog 85 15 [.tmp 4] s85:=FnIs.mk' (zF pl85) (zE kp85) (by kernel_rfl)
def pl86:List (Nat×Plan):=[(1,(.fl 0 (.eff 1 [] (.fl 2 (.fl 3 (.fl 4 (.fl 5 (.fl 6 (.fl 7 (.fl 8 (.fl 9 (.fl 10 (.fl 11 (.fl 12 (.fl 13 (.fl 14 (.fl 15 (.fl 16 (.fl 17 (.fl 18 (.fl 19 (.fl 20 (.fl 21 (.fl 22 (.fl 23 (.fl 24 (.fl 25 (.fl 26 (.fl 27 (.fl 28 (.fl 29 (.fl 30 (.fl 31 (.eff 32 [] (.fl 33 (.fl 34 .done)))))))))))))))))))))))))))))))))))),(5,(.fl 0 (.fl 1 (.fl 2 (.fl 3 (.fl 4 (.fl 5 (.fl 6 (.fl 7 (.fl 8 (.fl 9 (.fl 10 (.fl 11 (.fl 12 .done))))))))))))))]
def kp86:List (Nat×List Nat):=[(0,[0,1]),(1,[0,1]),(2,[0]),(3,[]),(4,[0]),(5,[0])]
noncomputable def s86:SCode:=toS (zF pl86) (zE kp86) (Tryz.f86.body.getD .skip)
theorem fn86:FnIs Tryz.prog 86 61 [.tmp 4] s86:=FnIs.mk' (zF pl86) (zE kp86) (by kernel_rfl)
def pl87:List (Nat×Plan):=[]
def kp87:List (Nat×List Nat):=[(0,[0,1]),(1,[0,1]),(2,[0,1]),(3,[]),(4,[0,1]),(5,[]),(6,[0,1]),(7,[0,1]),(8,[0]),(9,[0])]
noncomputable def s87:SCode:=toS (zF pl87) (zE kp87) (Tryz.f87.body.getD .skip)
theorem fn87:FnIs Tryz.prog 87 35 [.tmp 4] s87:=FnIs.mk' (zF pl87) (zE kp87) (by kernel_rfl)
def pl88:List (Nat×Plan):=[(3,(.fl 0 (.fl 1 (.fl 2 (.eff 3 [1] (.eff 4 [1] (.eff 5 [] (.fl 6 (.eff 7 [] .done)))))))))]
def kp88:List (Nat×List Nat):=[(0,[0]),(1,[0,2]),(2,[0,2,3]),(3,[0,2,3]),(4,[2,3])]
noncomputable def s88:SCode:=toS (zF pl88) (zE kp88) (Tryz.f88.body.getD .skip)
theorem fn88:FnIs Tryz.prog 88 27 [.cell 2 120] s88:=FnIs.mk' (zF pl88) (zE kp88) (by kernel_rfl)
def pl89:List (Nat×Plan):=[(2,(.fl 0 (.eff 1 [] (.fl 2 (.fl 3 (.fl 4 (.fl 5 (.fl 6 (.fl 7 (.fl 8 (.fl 9 (.fl 10 (.fl 11 (.fl 12 (.fl 13 (.fl 14 (.fl 15 (.fl 16 .done)))))))))))))))))),(4,(.fl 0 (.fl 1 (.fl 2 (.fl 3 (.fl 4 (.fl 5 (.fl 6 (.fl 7 (.fl 8 (.fl 9 (.fl 10 (.fl 11 (.eff 12 [] (.eff 13 [] .done))))))))))))))),(9,(.fl 0 (.fl 1 (.fl 2 (.fl 3 (.fl 4 (.eff 5 [1] (.eff 6 [1] (.eff 7 [] (.fl 8 (.eff 9 [] .done)))))))))))]
def kp89:List (Nat×List Nat):=[(0,[0,1]),(1,[0,1,4]),(2,[0,1,4]),(3,[0,4]),(4,[0,4]),(5,[0,1,4]),(6,[4]),(7,[0,1,4]),(8,[0,1,4,5]),(9,[0,1,4,5]),(10,[4,5])]
noncomputable def s89:SCode:=toS (zF pl89) (zE kp89) (Tryz.f89.body.getD .skip)
theorem fn89:FnIs Tryz.prog 89 74 [.cell 4 63] s89:=FnIs.mk' (zF pl89) (zE kp89) (by kernel_rfl)
def pl90:List (Nat×Plan):=[(2,(.fl 0 (.eff 1 [] (.fl 2 (.fl 3 (.fl 4 (.fl 5 (.fl 6 (.fl 7 (.fl 8 (.fl 9 (.fl 10 (.fl 11 (.fl 12 (.fl 13 (.fl 14 (.fl 15 (.fl 16 .done)))))))))))))))))),(4,(.fl 0 (.fl 1 (.fl 2 (.fl 3 (.fl 4 (.fl 5 (.fl 6 (.fl 7 (.fl 8 (.fl 9 (.fl 10 (.fl 11 (.eff 12 [] (.eff 13 [] .done))))))))))))))),(5,(.fl 0 (.eff 1 [] (.fl 2 (.fl 3 (.fl 4 (.fl 5 (.fl 6 (.fl 7 (.fl 8 (.fl 9 (.fl 10 (.fl 11 (.fl 12 (.fl 13 (.fl 14 (.fl 15 (.fl 16 .done)))))))))))))))))),(7,(.fl 0 (.fl 1 (.fl 2 (.fl 3 (.fl 4 (.fl 5 (.fl 6 (.fl 7 (.fl 8 (.fl 9 (.fl 10 (.fl 11 (.eff 12 [] (.eff 13 [] .done))))))))))))))),(10,(.fl 0 (.fl 1 (.fl 2 (.fl 3 (.fl 4 (.eff 5 [1] (.eff 6 [1] (.eff 7 [] (.fl 8 (.eff 9 [] .done)))))))))))]
def kp90:List (Nat×List Nat):=[(0,[0,1]),(1,[0,1,4]),(2,[0,1,4]),(3,[0,4]),(4,[0,4]),(5,[0,1,4]),(6,[0,4]),(7,[0,4]),(8,[0,1,4]),(9,[0,1,4,5]),(10,[0,1,4,5]),(11,[4,5])]
noncomputable def s90:SCode:=toS (zF pl90) (zE kp90) (Tryz.f90.body.getD .skip)
theorem fn90:FnIs Tryz.prog 90 108 [.cell 4 39] s90:=FnIs.mk' (zF pl90) (zE kp90) (by kernel_rfl)
def pl91:List (Nat×Plan):=[]
def kp91:List (Nat×List Nat):=[(0,[0,1]),(1,[0,1,4]),(2,[0,1,4,5]),(3,[0,1,4,5]),(4,[0,1,4,5,6]),(5,[0,1,4,5,6]),(6,[0,1,4,5,6]),(7,[0,1,4,5,6]),(8,[0,1,4,5,6]),(9,[0,1,4,5]),(10,[4,5]),(11,[4,5]),(12,[4,5])]
noncomputable def s91:SCode:=toS (zF pl91) (zE kp91) (Tryz.f91.body.getD .skip)
theorem fn91:FnIs Tryz.prog 91 50 [.cell 4 42] s91:=FnIs.mk' (zF pl91) (zE kp91) (by kernel_rfl)
def pl95:List (Nat×Plan):=[]
def kp95:List (Nat×List Nat):=[(0,[0,1,2,3]),(1,[0,1,2,3,8]),(2,[0,1,2,3,8,9]),(3,[0,1,2,3,8,9]),(4,[1,8,9]),(5,[8,9]),(6,[1,8,9])]
noncomputable def s95:SCode:=toS (zF pl95) (zE kp95) (Tryz.f95.body.getD .skip)
theorem fn95:FnIs Tryz.prog 95 30 [.cell 8 42] s95:=FnIs.mk' (zF pl95) (zE kp95) (by kernel_rfl)
def pl96:List (Nat×Plan):=[]
def kp96:List (Nat×List Nat):=[(0,[0,1]),(1,[0,1,2])]
noncomputable def s96:SCode:=toS (zF pl96) (zE kp96) (Tryz.f96.body.getD .skip)
theorem fn96:FnIs Tryz.prog 96 6 [.cell 2 42] s96:=FnIs.mk' (zF pl96) (zE kp96) (by kernel_rfl)
def pl97:List (Nat×Plan):=[]
def kp97:List (Nat×List Nat):=[(0,[0,1]),(1,[0,1,2])]
noncomputable def s97:SCode:=toS (zF pl97) (zE kp97) (Tryz.f97.body.getD .skip)
theorem fn97:FnIs Tryz.prog 97 6 [.cell 2 42] s97:=FnIs.mk' (zF pl97) (zE kp97) (by kernel_rfl)
def pl98:List (Nat×Plan):=[(15,(.fl 0 (.fl 1 (.fl 2 (.fl 3 (.fl 4 (.eff 5 [1] (.eff 6 [] (.eff 7 [] (.eff 8 [] .done)))))))))),(22,(.fl 0 (.fl 1 (.fl 2 (.fl 3 (.eff 4 [0] (.eff 5 [] (.eff 6 [] .done))))))))]
def kp98:List (Nat×List Nat):=[(0,[0,1]),(1,[0,1,4]),(2,[0,1,4]),(3,[4]),(4,[0,1,4]),(5,[4]),(6,[0,1,4]),(7,[0,1,4]),(8,[0,1,4]),(9,[0,1,4]),(10,[0,1,4]),(11,[0,1,4]),(12,[0,1,4,5]),(13,[0,1,4,5]),(14,[0,1,4,5,6]),(15,[0,1,4,5,6]),(16,[0,1,4]),(17,[0,1,4]),(18,[0,4,7]),(19,[4,7]),(20,[0,1,4]),(21,[0,1,4,8]),(22,[0,1,4,8]),(23,[0,4,8]),(24,[0,4,8]),(25,[4,8])]
noncomputable def s98:SCode:=toS (zF pl98) (zE kp98) (Tryz.f98.body.getD .skip)
theorem fn98:FnIs Tryz.prog 98 91 [.cell 4 42] s98:=FnIs.mk' (zF pl98) (zE kp98) (by kernel_rfl)
def pl99:List (Nat×Plan):=[]
def kp99:List (Nat×List Nat):=[(0,[0,1]),(1,[0,3]),(2,[0,3,5]),(3,[5,6]),(4,[5]),(5,[5])]
noncomputable def s99:SCode:=toS (zF pl99) (zE kp99) (Tryz.f99.body.getD .skip)
theorem fn99:FnIs Tryz.prog 99 26 [.tmp 4] s99:=FnIs.mk' (zF pl99) (zE kp99) (by kernel_rfl)
def zT3:List (Nat×Plan):=[(0,(.fl 0 (.fl 1 (.fl 2 (.fl 3 (.fl 4 (.fl 5 (.fl 6 (.fl 7 (.fl 8 (.fl 9 (.fl 10 (.fl 11 (.fl 12 (.fl 13 .done)))))))))))))))]
def zTo:List (Nat×List Nat):=[(0,[0,1]),(1,[0])]
noncomputable def s101:SCode:=toS (zF zT3) (zE zTo) (Tryz.f101.body.getD .skip)
theorem zXg:FnIs Tryz.prog 101 21 [] s101:=FnIs.mk' (zF zT3) (zE zTo) (by kernel_rfl)
def zT4:List (Nat×Plan):=[(1,(.fl 0 (.fl 1 (.fl 2 (.fl 3 (.fl 4 (.fl 5 (.fl 6 (.fl 7 (.fl 8 (.fl 9 .done))))))))))),(2,(.fl 0 (.fl 1 (.fl 2 (.fl 3 (.fl 4 (.fl 5 (.fl 6 (.fl 7 (.fl 8 (.fl 9 (.eff 10 [] .done))))))))))))]
def zTp:List (Nat×List Nat):=[(0,[0]),(1,[0,2]),(2,[0,2]),(3,[2])]
noncomputable def s102:SCode:=toS (zF zT4) (zE zTp) (Tryz.f102.body.getD .skip)
theorem zXh:FnIs Tryz.prog 102 24 [.cell 2 50] s102:=FnIs.mk' (zF zT4) (zE zTp) (by kernel_rfl)
def zT5:List (Nat×Plan):=[]
def zTq:List (Nat×List Nat):=[(0,[0,1]),(1,[0,1,2])]
noncomputable def s103:SCode:=toS (zF zT5) (zE zTq) (Tryz.f103.body.getD .skip)
theorem zXi:FnIs Tryz.prog 103 7 [.cell 2 39] s103:=FnIs.mk' (zF zT5) (zE zTq) (by kernel_rfl)
def zT6:List (Nat×Plan):=[]
def zTr:List (Nat×List Nat):=[(0,[0]),(1,[0,2]),(2,[0,2,3]),(3,[2,3])]
noncomputable def s106:SCode:=toS (zF zT6) (zE zTr) (Tryz.f106.body.getD .skip)
theorem zXj:FnIs Tryz.prog 106 14 [.cell 2 50] s106:=FnIs.mk' (zF zT6) (zE zTr) (by kernel_rfl)
def zT7:List (Nat×Plan):=[]
def zTs:List (Nat×List Nat):=[(0,[0,1]),(1,[0,1,2])]
noncomputable def s107:SCode:=toS (zF zT7) (zE zTs) (Tryz.f107.body.getD .skip)
theorem zXk:FnIs Tryz.prog 107 7 [.cell 2 63] s107:=FnIs.mk' (zF zT7) (zE zTs) (by kernel_rfl)
def zT8:List (Nat×Plan):=[]
def zTt:List (Nat×List Nat):=[(0,[0,1]),(1,[0,1]),(2,[0,1,5]),(3,[0,1,5]),(4,[0,1,5,6,7]),(5,[]),(6,[0,1,5,6]),(7,[])]
noncomputable def s108:SCode:=toS (zF zT8) (zE zTt) (Tryz.f108.body.getD .skip)
theorem zXl:FnIs Tryz.prog 108 36 [.tmp 4] s108:=FnIs.mk' (zF zT8) (zE zTt) (by kernel_rfl)
def zT9:List (Nat×Plan):=[]
def zTu:List (Nat×List Nat):=[(0,[1,2]),(1,[2,4]),(2,[])]
noncomputable def s109:SCode:=toS (zF zT9) (zE zTu) (Tryz.f109.body.getD .skip)
theorem zXm:FnIs Tryz.prog 109 10 [.tmp 5] s109:=FnIs.mk' (zF zT9) (zE zTu) (by kernel_rfl)
def zUa:List (Nat×Plan):=[]
def zTv:List (Nat×List Nat):=[(0,[0,1]),(1,[0,1]),(2,[1,5])]
noncomputable def s110:SCode:=toS (zF zUa) (zE zTv) (Tryz.f110.body.getD .skip)
theorem zXn:FnIs Tryz.prog 110 22 [.tmp 4] s110:=FnIs.mk' (zF zUa) (zE zTv) (by kernel_rfl)
def zUb:List (Nat×Plan):=[]
def zTw:List (Nat×List Nat):=[(0,[0]),(1,[0]),(2,[3]),(3,[3]),(4,[3]),(5,[3]),(6,[3]),(7,[3]),(8,[3]),(9,[3]),(10,[3]),(11,[3]),(12,[3]),(13,[3]),(14,[3]),(15,[3]),(16,[3]),(17,[3]),(18,[3]),(19,[3]),(20,[]),(21,[])]
noncomputable def s111:SCode:=toS (zF zUb) (zE zTw) (Tryz.f111.body.getD .skip)
theorem zXo:FnIs Tryz.prog 111 23 [.tmp 2] s111:=FnIs.mk' (zF zUb) (zE zTw) (by kernel_rfl)
def zUc:List (Nat×Plan):=[]
def zTx:List (Nat×List Nat):=[(0,[0]),(1,[0,1])]
noncomputable def s112:SCode:=toS (zF zUc) (zE zTx) (Tryz.f112.body.getD .skip)
theorem zXp:FnIs Tryz.prog 112 4 [.cell 1 63] s112:=FnIs.mk' (zF zUc) (zE zTx) (by kernel_rfl)
def zUd:List (Nat×Plan):=[(1,(.fl 0 (.fl 1 (.fl 2 (.fl 3 (.eff 4 [1] (.eff 5 [1] (.fl 6 (.fl 7 .done)))))))))]
def zTy:List (Nat×List Nat):=[(0,[0]),(1,[1])]
noncomputable def s114:SCode:=toS (zF zUd) (zE zTy) (Tryz.f114.body.getD .skip)
theorem zXq:FnIs Tryz.prog 114 10 [.tmp 2] s114:=FnIs.mk' (zF zUd) (zE zTy) (by kernel_rfl)
def zUe:List (Nat×Plan):=[]
def zTz:List (Nat×List Nat):=[(0,[0]),(1,[1]),(2,[1,3]),(3,[1]),(4,[1,3])]
noncomputable def s115:SCode:=toS (zF zUe) (zE zTz) (Tryz.f115.body.getD .skip)
theorem zXr:FnIs Tryz.prog 115 18 [.tmp 2] s115:=FnIs.mk' (zF zUe) (zE zTz) (by kernel_rfl)
def zUf:List (Nat×Plan):=[]
def zTA:List (Nat×List Nat):=[(0,[0,1]),(1,[0,3]),(2,[0,3,5]),(3,[3,5,6]),(4,[3]),(5,[3,5,6]),(6,[3,5,6]),(7,[3,5,6]),(8,[3]),(9,[3,5]),(10,[3]),(11,[3])]
noncomputable def s116:SCode:=toS (zF zUf) (zE zTA) (Tryz.f116.body.getD .skip)
theorem zXs:FnIs Tryz.prog 116 31 [.tmp 4] s116:=FnIs.mk' (zF zUf) (zE zTA) (by kernel_rfl)
def zUg:List (Nat×Plan):=[(1,(.fl 0 (.eff 1 [] (.fl 2 (.fl 3 (.fl 4 (.fl 5 (.fl 6 (.fl 7 (.fl 8 (.fl 9 (.fl 10 (.fl 11 (.fl 12 (.fl 13 (.fl 14 (.fl 15 (.fl 16 (.fl 17 (.fl 18 (.fl 19 (.fl 20 (.fl 21 (.fl 22 (.fl 23 (.fl 24 (.fl 25 (.fl 26 (.fl 27 (.fl 28 (.fl 29 (.fl 30 (.fl 31 (.fl 32 (.fl 33 (.fl 34 (.fl 35 (.fl 36 (.fl 37 (.fl 38 (.fl 39 (.fl 40 (.fl 41 (.fl 42 (.fl 43 (.fl 44 (.fl 45 (.fl 46 .done))))))))))))))))))))))))))))))))))))))))))))))))]
def zTB:List (Nat×List Nat):=[(0,[0,1]),(1,[0,1])]
noncomputable def s117:SCode:=toS (zF zUg) (zE zTB) (Tryz.f117.body.getD .skip)
theorem zXt:FnIs Tryz.prog 117 51 [.tmp 4] s117:=FnIs.mk' (zF zUg) (zE zTB) (by kernel_rfl)
def zUh:List (Nat×Plan):=[]
def zTC:List (Nat×List Nat):=[(0,[0,1]),(1,[0])]
noncomputable def s118:SCode:=toS (zF zUh) (zE zTC) (Tryz.f118.body.getD .skip)
theorem zXu:FnIs Tryz.prog 118 13 [] s118:=FnIs.mk' (zF zUh) (zE zTC) (by kernel_rfl)
def zUi:List (Nat×Plan):=[(16,(.fl 0 (.fl 1 (.fl 2 (.fl 3 (.eff 4 [0] (.eff 5 [] (.fl 6 (.eff 7 [] .done))))))))),(24,(.fl 0 (.fl 1 (.fl 2 (.fl 3 (.eff 4 [0] (.eff 5 [] (.eff 6 [] .done))))))))]
def zTD:List (Nat×List Nat):=[(0,[0,1]),(1,[0,1,4]),(2,[0,1,4]),(3,[4]),(4,[0,1,4]),(5,[4]),(6,[0,1,4]),(7,[0,1,4]),(8,[0,1,4]),(9,[0,1,4]),(10,[0,1,4]),(11,[0,1,4]),(12,[0,1,4,5]),(13,[0,1,4,5,6]),(14,[0,1,4,5,6]),(15,[0,1,4,5,6]),(16,[0,1,4,5,6]),(17,[4,5]),(18,[0,1,4]),(19,[0,1,4]),(20,[0,4,7]),(21,[4,7]),(22,[0,1,4]),(23,[0,1,4,8]),(24,[0,1,4,8]),(25,[0,4,8]),(26,[0,4,8]),(27,[4,8])]
noncomputable def s119:SCode:=toS (zF zUi) (zE zTD) (Tryz.f119.body.getD .skip)
theorem zXv:FnIs Tryz.prog 119 86 [.cell 4 42] s119:=FnIs.mk' (zF zUi) (zE zTD) (by kernel_rfl)
def zUj:List (Nat×Plan):=[]
def zTE:List (Nat×List Nat):=[(0,[0,1]),(1,[0,1]),(2,[0,1]),(3,[0,1,12]),(4,[0,1,12]),(5,[0,1,12]),(6,[0,1,12]),(7,[0,1]),(8,[0,1,12]),(9,[0,1]),(10,[0,1,5]),(11,[0]),(12,[0,1,5]),(13,[1]),(14,[1])]
noncomputable def s125:SCode:=toS (zF zUj) (zE zTE) (Tryz.f125.body.getD .skip)
theorem zXw:FnIs Tryz.prog 125 35 [.tmp 4] s125:=FnIs.mk' (zF zUj) (zE zTE) (by kernel_rfl)
def zUk:List (Nat×Plan):=[]
def zTF:List (Nat×List Nat):=[(0,[0,1]),(1,[0,1,4]),(2,[0,1,4,6]),(3,[0,1,4,6]),(4,[0,1,4,6]),(5,[4,6,7]),(6,[4,6,7,8]),(7,[4,7]),(8,[4,7,8]),(9,[0,1,4,6]),(10,[0,1,4,6]),(11,[0,1,4]),(12,[0,1,4,6]),(13,[4]),(14,[0,1,4,6]),(15,[0,1,4]),(16,[4])]
noncomputable def s126:SCode:=toS (zF zUk) (zE zTF) (Tryz.f126.body.getD .skip)
theorem zXx:FnIs Tryz.prog 126 60 [.cell 4 50,.tmp 5] s126:=FnIs.mk' (zF zUk) (zE zTF) (by kernel_rfl)
def zUl:List (Nat×Plan):=[]
def zTG:List (Nat×List Nat):=[(0,[0]),(1,[0]),(2,[0,3]),(3,[0,3,4]),(4,[0,3,4,5]),(5,[0,3,4,5]),(6,[0,3,4,5]),(7,[0,3,4]),(8,[0,3,4]),(9,[0,3]),(10,[3]),(11,[3])]
noncomputable def s127:SCode:=toS (zF zUl) (zE zTG) (Tryz.f127.body.getD .skip)
theorem zXy:FnIs Tryz.prog 127 29 [.tmp 2] s127:=FnIs.mk' (zF zUl) (zE zTG) (by kernel_rfl)
def zUm:List (Nat×Plan):=[]
def zTH:List (Nat×List Nat):=[(0,[0]),(1,[0])]
noncomputable def s134:SCode:=toS (zF zUm) (zE zTH) (Tryz.f134.body.getD .skip)
theorem zXz:FnIs Tryz.prog 134 9 [.tmp 2] s134:=FnIs.mk' (zF zUm) (zE zTH) (by kernel_rfl)
def zUn:List (Nat×Plan):=[]
def zTI:List (Nat×List Nat):=[(0,[0]),(1,[0])]
noncomputable def s135:SCode:=toS (zF zUn) (zE zTI) (Tryz.f135.body.getD .skip)
theorem zXA:FnIs Tryz.prog 135 13 [.tmp 2] s135:=FnIs.mk' (zF zUn) (zE zTI) (by kernel_rfl)
def zUo:List (Nat×Plan):=[]
def zTJ:List (Nat×List Nat):=[(0,[0,1,2]),(1,[0,1,2]),(2,[0,1,2,7]),(3,[0,1,2,7]),(4,[1,7])]
noncomputable def s136:SCode:=toS (zF zUo) (zE zTJ) (Tryz.f136.body.getD .skip)
theorem zXB:FnIs Tryz.prog 136 25 [.tmp 6] s136:=FnIs.mk' (zF zUo) (zE zTJ) (by kernel_rfl)
def zUp:List (Nat×Plan):=[]
def zTK:List (Nat×List Nat):=[(0,[0]),(1,[0])]
noncomputable def s137:SCode:=toS (zF zUp) (zE zTK) (Tryz.f137.body.getD .skip)
theorem zXC:FnIs Tryz.prog 137 13 [.tmp 2] s137:=FnIs.mk' (zF zUp) (zE zTK) (by kernel_rfl)
def zUq:List (Nat×Plan):=[]
def zTL:List (Nat×List Nat):=[(0,[0]),(1,[0])]
noncomputable def s138:SCode:=toS (zF zUq) (zE zTL) (Tryz.f138.body.getD .skip)
theorem zXD:FnIs Tryz.prog 138 9 [.tmp 2] s138:=FnIs.mk' (zF zUq) (zE zTL) (by kernel_rfl)
def zUr:List (Nat×Plan):=[]
def zTM:List (Nat×List Nat):=[(0,[0,1]),(1,[0,1,4]),(2,[0,1,4,6]),(3,[0,1,4]),(4,[0,1,4,6]),(5,[0,1,4,6]),(6,[0,1,4,6,7]),(7,[0,1,4,6,7,8,9]),(8,[4]),(9,[0,1,4,6,7,8]),(10,[4]),(11,[4,7,8])]
noncomputable def s139:SCode:=toS (zF zUr) (zE zTM) (Tryz.f139.body.getD .skip)
theorem zXE:FnIs Tryz.prog 139 59 [.cell 4 50,.tmp 5] s139:=FnIs.mk' (zF zUr) (zE zTM) (by kernel_rfl)
end Go.Aug
