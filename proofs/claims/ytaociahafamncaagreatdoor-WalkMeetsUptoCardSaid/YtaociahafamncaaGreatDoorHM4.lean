/- Folded. -/
import Derived.Shelf.Strings.Builder1
import Derived.Shelf.Small.Bits
import Derived.Shelf.Small.Wraps
import Derived.Shelf.Strings.BuilderF
import Derived.Shelf.Strings.BuilderK
import Derived.Shelf.Strconv.Itoa0
import Derived.Shelf.Strconv.Itoa1
import Derived.Shelf.LaysM
import Derived.Shelf.Strconv.Itoa2
import Derived.Shelf.Strconv.Itoa3
import Derived.Shelf.Sort.Plain
import Derived.Shelf.Slices.Turned
import Derived.Ground.Names2Prog
import Derived.Shelf.Slices.CompactI
import Derived.Shelf.Slices.SearchI
import Derived.Shelf.Slices.Cells
import Derived.Shelf.Slices.In.SortNone
import Derived.Test.YtaociahafamncaaGreatDoorHM1
import Derived.Lib.BitFns
set_option maxRecDepth 100000
set_option maxHeartbeats 40000000
namespace Go.Proofs.YtaociahafamncaaGreatDoor
end Go.Proofs.YtaociahafamncaaGreatDoor
namespace Go.Proofs
open Go.Shelf
def Tryz.lays169_ren:Go.Shelf.Ren:=⟨fun|169=>53|n=>n,fun|70=>111|9=>9|0=>0|72=>113|37=>108|127=>137|3=>3|5=>5|n=>n,fun|n=>n⟩
theorem Tryz.lays169:Go.Proofs.Lays.n169 Tryz.prog Tryz.lays169_ren:={
 mixed:=by kernel_rfl
 f169:=Tryz.func53.trans (congrArg some (by kernel_rfl))
 t0:=Tryz.underlying0
 a0:=Tryz.isAgg0
 z0:=Tryz.sizeOf0
 v0:=Tryz.zeroValue0
 t3:=Tryz.underlying3
 a3:=Tryz.isAgg3
 z3:=Tryz.sizeOf3
 v3:=Tryz.zeroValue3
 t9:=Tryz.underlying9
 a9:=Tryz.isAgg9
 z9:=Tryz.sizeOf9
 v9:=Tryz.zeroValue9
 t37:=Tryz.underlying108
 a37:=Tryz.isAgg108
 z37:=Tryz.sizeOf108
 v37:=Tryz.zeroValue108
 t70:=Tryz.underlying111
 a70:=Tryz.isAgg111
 z70:=Tryz.sizeOf111
 v70:=Tryz.zeroValue111
 t72:=Tryz.underlying113
 a72:=Tryz.isAgg113
 z72:=Tryz.sizeOf113
 v72:=Tryz.zeroValue113
 t127:=Tryz.underlying137
 a127:=Tryz.isAgg137
 z127:=Tryz.sizeOf137
 v127:=Tryz.zeroValue137}
theorem Tryz.Builder_Extra_169:Builder.Extra Tryz.prog Tryz.lays169_ren:={
 sizeBuilder:=by kernel_rfl
 liesBuilder:=by kernel_rfl
 t5:=Tryz.underlying5
 a5:=Tryz.isAgg5
 z5:=Tryz.sizeOf5
 v5:=Tryz.zeroValue5
 infoByte:=by kernel_rfl
 cellsByte:=by kernel_rfl
 sizeByte:=by kernel_rfl
 neB5:=by decide}
open Go.RowKit in
theorem Tryz.Builder_String_any(B b:Nat)(l:List UInt8)(w:World)(h:Lib.IsBuilder 113 5 B b (Lib.byteCells l) w)(hBw:B≤w.heap.size):
  Calls Tryz.prog 53 #[.pointer (some ⟨b,0,none⟩)] w fun e w'=>e=.returned (.string ⟨l.toArray⟩)∧Below B w w':=Any.Builder_String_any Tryz.lays169 Tryz.Builder_Extra_169 B b l w h hBw
def Tryz.lays121_ren:Go.Shelf.Ren:=⟨fun|121=>70|214=>82|n=>n,fun|4=>4|9=>9|n=>n,fun|n=>n⟩
theorem Tryz.lays121:Go.Proofs.Lays.n121 Tryz.prog Tryz.lays121_ren:={
 mixed:=by kernel_rfl
 f121:=Tryz.func70.trans (congrArg some (by kernel_rfl))
 f214:=Tryz.func82.trans (congrArg some (by kernel_rfl))
 t4:=Tryz.underlying4
 a4:=Tryz.isAgg4
 z4:=Tryz.sizeOf4
 v4:=Tryz.zeroValue4
 t9:=Tryz.underlying9
 a9:=Tryz.isAgg9
 z9:=Tryz.sizeOf9
 v9:=Tryz.zeroValue9}
open Go.RowKit in
theorem Tryz.strconv_FormatBool(b:Bool)(w:World):
  Calls Tryz.prog 70 #[.bool b] w fun e w'=>e=.returned (.string ⟨(Lib.formatBool b).toArray⟩)∧w'=w:=Any.strconv_FormatBool Tryz.lays121 b w
open Go.RowKit in
theorem Tryz.Builder_String_any_k(B b:Nat)(l:List UInt8)(w:World)(h:Lib.IsBuilderF 113 5 B b (Lib.byteCells l) w)(hBw:B≤w.heap.size):
  Calls Tryz.prog 53 #[.pointer (some ⟨b,0,none⟩)] w fun e w'=>e=.returned (.string ⟨l.toArray⟩)∧(Lib.IsBuilderF 113 5 B b (Lib.byteCells l) w'∧Below B w w'∧Lib.OthersKept 5 (some b) w w'):=Any.Builder_String_any_k Tryz.lays169 Tryz.Builder_Extra_169 B b l w h hBw
def Tryz.lays129_ren:Go.Shelf.Ren:=⟨fun|129=>83|n=>n,fun|53=>141|3=>3|4=>4|46=>159|5=>5|9=>9|n=>n,fun|n=>n⟩
theorem Tryz.lays129:Go.Proofs.Lays.n129 Tryz.prog Tryz.lays129_ren:={
 mixed:=by kernel_rfl
 f129:=Tryz.func83.trans (congrArg some (by kernel_rfl))
 t3:=Tryz.underlying3
 a3:=Tryz.isAgg3
 z3:=Tryz.sizeOf3
 v3:=Tryz.zeroValue3
 t4:=Tryz.underlying4
 a4:=Tryz.isAgg4
 z4:=Tryz.sizeOf4
 v4:=Tryz.zeroValue4
 t5:=Tryz.underlying5
 a5:=Tryz.isAgg5
 z5:=Tryz.sizeOf5
 v5:=Tryz.zeroValue5
 t9:=Tryz.underlying9
 a9:=Tryz.isAgg9
 z9:=Tryz.sizeOf9
 v9:=Tryz.zeroValue9
 t46:=Tryz.underlying159
 a46:=Tryz.isAgg159
 z46:=Tryz.sizeOf159
 v46:=Tryz.zeroValue159
 t53:=Tryz.underlying141
 a53:=Tryz.isAgg141
 z53:=Tryz.sizeOf141
 v53:=Tryz.zeroValue141}
theorem Tryz.bits_Len64(x:Int)(w:World)(h0:0≤x)(h1:x≤18446744073709551615):
  Calls Tryz.prog 83 #[.int .u64 x] w fun e w'=>e=.returned (.int .i64 (Lib.bitLen x.toNat))∧w'=w:=Any.bits_Len64 Tryz.lays129 x w h0 h1
def Tryz.laysM171_ren:Go.Shelf.Ren:=⟨fun|171=>51|243=>68|246=>81|283=>88|284=>89|285=>90|286=>91|129=>83|317=>97|318=>98|319=>99|320=>100|337=>111|338=>112|n=>n,fun|3=>3|9=>9|2=>2|4=>4|171=>165|0=>0|53=>141|37=>108|5=>5|173=>167|212=>173|51=>174|20=>20|213=>175|46=>159|232=>191|233=>192|n=>n,fun|17=>0|18=>1|19=>2|n=>n⟩
theorem Tryz.laysM171:Go.Proofs.LaysM.n171 Tryz.prog Tryz.laysM171_ren:={
 mixed:=by kernel_rfl
 f129:=Tryz.func83.trans (congrArg some (by kernel_rfl))
 f171:=Tryz.func51.trans (congrArg some (by kernel_rfl))
 f243:=Tryz.func68.trans (congrArg some (by kernel_rfl))
 f246:=Tryz.func81.trans (congrArg some (by kernel_rfl))
 f283:=Tryz.func88.trans (congrArg some (by kernel_rfl))
 f284:=Tryz.func89.trans (congrArg some (by kernel_rfl))
 f285:=Tryz.func90.trans (congrArg some (by kernel_rfl))
 f286:=Tryz.func91.trans (congrArg some (by kernel_rfl))
 f317:=Tryz.func97.trans (congrArg some (by kernel_rfl))
 f318:=Tryz.func98.trans (congrArg some (by kernel_rfl))
 f319:=Tryz.func99.trans (congrArg some (by kernel_rfl))
 f320:=Tryz.func100.trans (congrArg some (by kernel_rfl))
 f337:=Tryz.func111.trans (congrArg some (by kernel_rfl))
 f338:=Tryz.func112.trans (congrArg some (by kernel_rfl))
 t0:=Tryz.underlying0
 a0:=Tryz.isAgg0
 z0:=Tryz.sizeOf0
 v0:=Tryz.zeroValue0
 t2:=Tryz.underlying2
 a2:=Tryz.isAgg2
 z2:=Tryz.sizeOf2
 v2:=Tryz.zeroValue2
 t3:=Tryz.underlying3
 a3:=Tryz.isAgg3
 z3:=Tryz.sizeOf3
 v3:=Tryz.zeroValue3
 t4:=Tryz.underlying4
 a4:=Tryz.isAgg4
 z4:=Tryz.sizeOf4
 v4:=Tryz.zeroValue4
 t5:=Tryz.underlying5
 a5:=Tryz.isAgg5
 z5:=Tryz.sizeOf5
 v5:=Tryz.zeroValue5
 t9:=Tryz.underlying9
 a9:=Tryz.isAgg9
 z9:=Tryz.sizeOf9
 v9:=Tryz.zeroValue9
 t20:=Tryz.underlying20
 a20:=Tryz.isAgg20
 z20:=Tryz.sizeOf20
 v20:=Tryz.zeroValue20
 t37:=Tryz.underlying108
 a37:=Tryz.isAgg108
 z37:=Tryz.sizeOf108
 v37:=Tryz.zeroValue108
 t46:=Tryz.underlying159
 a46:=Tryz.isAgg159
 z46:=Tryz.sizeOf159
 v46:=Tryz.zeroValue159
 t51:=Tryz.underlying174
 a51:=Tryz.isAgg174
 z51:=Tryz.sizeOf174
 v51:=Tryz.zeroValue174
 t53:=Tryz.underlying141
 a53:=Tryz.isAgg141
 z53:=Tryz.sizeOf141
 v53:=Tryz.zeroValue141
 t171:=Tryz.underlying165
 a171:=Tryz.isAgg165
 z171:=Tryz.sizeOf165
 v171:=Tryz.zeroValue165
 t173:=Tryz.underlying167
 a173:=Tryz.isAgg167
 z173:=Tryz.sizeOf167
 v173:=Tryz.zeroValue167
 t212:=Tryz.underlying173
 a212:=Tryz.isAgg173
 z212:=Tryz.sizeOf173
 v212:=Tryz.zeroValue173
 t213:=Tryz.underlying175
 a213:=Tryz.isAgg175
 z213:=Tryz.sizeOf175
 t232:=Tryz.underlying191
 a232:=Tryz.isAgg191
 z232:=Tryz.sizeOf191
 v232:=Tryz.zeroValue191
 t233:=Tryz.underlying192
 a233:=Tryz.isAgg192
 z233:=Tryz.sizeOf192
 v233:=Tryz.zeroValue192
 g17:=by kernel_rfl
 g18:=by kernel_rfl
 g19:=by kernel_rfl
 i0:=by kernel_rfl
 i2:=by kernel_rfl
 i3:=by kernel_rfl
 i4:=by kernel_rfl
 i5:=by kernel_rfl
 i9:=by kernel_rfl
 i20:=by kernel_rfl
 i37:=by kernel_rfl
 i46:=by kernel_rfl
 i51:=by kernel_rfl
 i53:=by kernel_rfl
 i171:=by kernel_rfl
 i173:=by kernel_rfl
 i212:=by kernel_rfl
 i232:=by kernel_rfl
 i233:=by kernel_rfl
 m17:=by kernel_rfl
 m18:=by kernel_rfl
 m19:=by kernel_rfl}
open Go.RowKit Go.Sort Go.Lib in
theorem Tryz.strconv_Itoa(n:Int)(h0: -9223372036854775808≤n)(h1:n≤9223372036854775807)(w:World)(htab:Lib.TabIs Tryz.prog w "internal/strconv.uint64pow10" .u64 Lib.pow10Tab):
  Calls Tryz.prog 51 #[.int .i64 n] w fun e w'=>e=.returned (.string ⟨(Lib.itoa n).toArray⟩)∧∃k os,w'=grow (w.drewN k) os:=Any.strconv_Itoa Tryz.laysM171 n h0 h1 w htab
def Tryz.lays189_ren:Go.Shelf.Ren:=⟨fun|189=>86|125=>96|257=>95|128=>110|129=>83|294=>101|295=>102|296=>103|297=>104|298=>105|299=>106|216=>107|300=>108|301=>109|328=>113|329=>114|330=>115|331=>116|332=>117|215=>118|343=>119|n=>n,fun|28=>71|3=>3|46=>159|0=>0|51=>174|53=>141|4=>4|183=>178|182=>177|131=>120|5=>5|9=>9|218=>185|222=>189|228=>193|229=>52|n=>n,fun|n=>n⟩
theorem Tryz.lays189:Go.Proofs.Lays.n189 Tryz.prog Tryz.lays189_ren:={
 mixed:=by kernel_rfl
 f125:=Tryz.func96.trans (congrArg some (by kernel_rfl))
 f128:=Tryz.func110.trans (congrArg some (by kernel_rfl))
 f129:=Tryz.func83.trans (congrArg some (by kernel_rfl))
 f189:=Tryz.func86.trans (congrArg some (by kernel_rfl))
 f215:=Tryz.func118.trans (congrArg some (by kernel_rfl))
 f216:=Tryz.func107.trans (congrArg some (by kernel_rfl))
 f257:=Tryz.func95.trans (congrArg some (by kernel_rfl))
 f294:=Tryz.func101.trans (congrArg some (by kernel_rfl))
 f295:=Tryz.func102.trans (congrArg some (by kernel_rfl))
 f296:=Tryz.func103.trans (congrArg some (by kernel_rfl))
 f297:=Tryz.func104.trans (congrArg some (by kernel_rfl))
 f298:=Tryz.func105.trans (congrArg some (by kernel_rfl))
 f299:=Tryz.func106.trans (congrArg some (by kernel_rfl))
 f300:=Tryz.func108.trans (congrArg some (by kernel_rfl))
 f301:=Tryz.func109.trans (congrArg some (by kernel_rfl))
 f328:=Tryz.func113.trans (congrArg some (by kernel_rfl))
 f329:=Tryz.func114.trans (congrArg some (by kernel_rfl))
 f330:=Tryz.func115.trans (congrArg some (by kernel_rfl))
 f331:=Tryz.func116.trans (congrArg some (by kernel_rfl))
 f332:=Tryz.func117.trans (congrArg some (by kernel_rfl))
 f343:=Tryz.func119.trans (congrArg some (by kernel_rfl))
 t0:=Tryz.underlying0
 a0:=Tryz.isAgg0
 z0:=Tryz.sizeOf0
 v0:=Tryz.zeroValue0
 t3:=Tryz.underlying3
 a3:=Tryz.isAgg3
 z3:=Tryz.sizeOf3
 v3:=Tryz.zeroValue3
 t4:=Tryz.underlying4
 a4:=Tryz.isAgg4
 z4:=Tryz.sizeOf4
 v4:=Tryz.zeroValue4
 t5:=Tryz.underlying5
 a5:=Tryz.isAgg5
 z5:=Tryz.sizeOf5
 v5:=Tryz.zeroValue5
 t9:=Tryz.underlying9
 a9:=Tryz.isAgg9
 z9:=Tryz.sizeOf9
 v9:=Tryz.zeroValue9
 t28:=Tryz.underlying71
 a28:=Tryz.isAgg71
 z28:=Tryz.sizeOf71
 v28:=Tryz.zeroValue71
 t46:=Tryz.underlying159
 a46:=Tryz.isAgg159
 z46:=Tryz.sizeOf159
 v46:=Tryz.zeroValue159
 t51:=Tryz.underlying174
 a51:=Tryz.isAgg174
 z51:=Tryz.sizeOf174
 v51:=Tryz.zeroValue174
 t53:=Tryz.underlying141
 a53:=Tryz.isAgg141
 z53:=Tryz.sizeOf141
 v53:=Tryz.zeroValue141
 t131:=Tryz.underlying120
 a131:=Tryz.isAgg120
 z131:=Tryz.sizeOf120
 v131:=Tryz.zeroValue120
 t182:=Tryz.underlying177
 a182:=Tryz.isAgg177
 z182:=Tryz.sizeOf177
 v182:=Tryz.zeroValue177
 t183:=Tryz.underlying178
 a183:=Tryz.isAgg178
 z183:=Tryz.sizeOf178
 v183:=Tryz.zeroValue178
 t218:=Tryz.underlying185
 a218:=Tryz.isAgg185
 z218:=Tryz.sizeOf185
 v218:=Tryz.zeroValue185
 t222:=Tryz.underlying189
 a222:=Tryz.isAgg189
 z222:=Tryz.sizeOf189
 v222:=Tryz.zeroValue189
 t228:=Tryz.underlying193
 a228:=Tryz.isAgg193
 z228:=Tryz.sizeOf193
 v228:=Tryz.zeroValue193
 t229:=Tryz.underlying52
 a229:=Tryz.isAgg52
 z229:=Tryz.sizeOf52
 v229:=Tryz.zeroValue52}
open Go.Sort Go.RowKit in
theorem Tryz.slices_Sort_int(blk off cap:Nat)(zs:List Int)(w:World)(hH:Holds (Value.int .i64) w blk off zs.toArray)(hblk:blk<w.heap.size)(hsz:zs.length<4611686018427387904):
  Calls Tryz.prog 86 #[.slice (some ⟨blk,off,none⟩) zs.length cap] w fun e w'=>
   e=.returned (.tuple #[])∧∃n os,w'=grow (putRow (Value.int .i64) (Sort.ahead w n) blk off (zs.mergeSort fun x y=>decide (x≤y)).toArray) os:=Any.slices_Sort_int Tryz.lays189 blk off cap zs w hH hblk hsz
def Tryz.lays108_ren:Go.Shelf.Ren:=⟨fun|108=>63|n=>n,fun|28=>71|3=>3|0=>0|4=>4|n=>n,fun|n=>n⟩
theorem Tryz.lays108:Go.Proofs.Lays.n108 Tryz.prog Tryz.lays108_ren:={
 mixed:=by kernel_rfl
 f108:=Tryz.func63.trans (congrArg some (by kernel_rfl))
 t0:=Tryz.underlying0
 a0:=Tryz.isAgg0
 z0:=Tryz.sizeOf0
 v0:=Tryz.zeroValue0
 t3:=Tryz.underlying3
 a3:=Tryz.isAgg3
 z3:=Tryz.sizeOf3
 v3:=Tryz.zeroValue3
 t4:=Tryz.underlying4
 a4:=Tryz.isAgg4
 z4:=Tryz.sizeOf4
 v4:=Tryz.zeroValue4
 t28:=Tryz.underlying71
 a28:=Tryz.isAgg71
 z28:=Tryz.sizeOf71
 v28:=Tryz.zeroValue71}
open Go.Lib in
theorem Tryz.slices_Index_int(b off n c:Nat)(zs:List Int)(x:Int)(w:World)(hz:n≤zs.length)(hbig:n≤9223372036854775807)(hc:∀j,j<zs.length→w.cell? ⟨b,off+j,none⟩=some (.int .i64 (zs.getD j 0))):
  Calls Tryz.prog 63 #[.slice (some ⟨b,off,none⟩) n c,.int .i64 x] w fun e w'=>e=.returned (.int .i64 (Lib.idxOf (zs.take n) x))∧w'=w:=Any.slices_Index_int Tryz.lays108 b off n c zs x w hz hbig hc
def Tryz.lays107_ren:Go.Shelf.Ren:=⟨fun|107=>64|108=>63|n=>n,fun|28=>71|3=>3|4=>4|0=>0|n=>n,fun|n=>n⟩
theorem Tryz.lays107:Go.Proofs.Lays.n107 Tryz.prog Tryz.lays107_ren:={
 mixed:=by kernel_rfl
 f107:=Tryz.func64.trans (congrArg some (by kernel_rfl))
 f108:=Tryz.func63.trans (congrArg some (by kernel_rfl))
 t0:=Tryz.underlying0
 a0:=Tryz.isAgg0
 z0:=Tryz.sizeOf0
 v0:=Tryz.zeroValue0
 t3:=Tryz.underlying3
 a3:=Tryz.isAgg3
 z3:=Tryz.sizeOf3
 v3:=Tryz.zeroValue3
 t4:=Tryz.underlying4
 a4:=Tryz.isAgg4
 z4:=Tryz.sizeOf4
 v4:=Tryz.zeroValue4
 t28:=Tryz.underlying71
 a28:=Tryz.isAgg71
 z28:=Tryz.sizeOf71
 v28:=Tryz.zeroValue71}
open Go.Lib in
theorem Tryz.slices_Contains_int(b off n c:Nat)(zs:List Int)(x:Int)(w:World)(hz:n≤zs.length)(hbig:n≤9223372036854775807)(hc:∀j,j<zs.length→w.cell? ⟨b,off+j,none⟩=some (.int .i64 (zs.getD j 0))):
  Calls Tryz.prog 64 #[.slice (some ⟨b,off,none⟩) n c,.int .i64 x] w fun e w'=>e=.returned (.bool ((zs.take n).contains x))∧w'=w:=Any.slices_Contains_int Tryz.lays107 b off n c zs x w hz hbig hc
def Tryz.laysNm220_ren:Go.Shelf.Ren:=⟨fun|20=>87|n=>n,fun|22=>71|3=>3|4=>4|0=>0|n=>n,fun|n=>n⟩
theorem Tryz.laysNm220:Go.Proofs.Lays2.n20 Tryz.prog Tryz.laysNm220_ren:={
 mixed:=by kernel_rfl
 f20:=Tryz.func87.trans (congrArg some (by kernel_rfl))
 t0:=Tryz.underlying0
 a0:=Tryz.isAgg0
 z0:=Tryz.sizeOf0
 v0:=Tryz.zeroValue0
 t3:=Tryz.underlying3
 a3:=Tryz.isAgg3
 z3:=Tryz.sizeOf3
 v3:=Tryz.zeroValue3
 t4:=Tryz.underlying4
 a4:=Tryz.isAgg4
 z4:=Tryz.sizeOf4
 v4:=Tryz.zeroValue4
 t22:=Tryz.underlying71
 a22:=Tryz.isAgg71
 z22:=Tryz.sizeOf71
 v22:=Tryz.zeroValue71
 i3:=by kernel_rfl}
open Go.RowKit Go.Lib Go.Sort in
theorem Tryz.slices_Compact_int(blk off cap:Nat)(zs:List Int)(w:World)(hH:Holds (Value.int .i64) w blk off zs.toArray)(hsz:zs.length≤9223372036854775807)(hcap:zs.length≤cap):
  Calls Tryz.prog 87 #[.slice (some ⟨blk,off,none⟩) zs.length cap] w fun e w'=>e=.returned (.slice (some ⟨blk,off,none⟩) (Lib.compact zs).length cap)∧∃q,w'=putRow (Value.int .i64) (Sort.ahead w q) blk off (Lib.compact zs++List.replicate (zs.length-(Lib.compact zs).length) 0).toArray:=Any.slices_Compact_int Tryz.laysNm220 blk off cap zs w hH hsz hcap
open Go.RowKit Go.Sort in
theorem Tryz.slices_Sort_int_none(p:Option Addr)(cap:Nat)(w:World):
  Calls Tryz.prog 86 #[.slice p 0 cap] w fun e w'=>e=.returned (.tuple #[])∧w'=w:=Any.slices_Sort_int_none Tryz.lays189 p cap w
end Go.Proofs
namespace Go.Proofs.YtaociahafamncaaGreatDoor
section
open Go.RowKit Go.Shelf
theorem z6j:(Tryz.prog.info? 113).map (·.size)=some 2:=by kernel_rfl
theorem zH6:liesAt Tryz.prog Tryz.prog.depth 113 (2/Tryz.prog.cellsOf 113) 0 113 1=true:=by kernel_rfl
theorem z54(b:Nat)(w:World)(h0:w.cell? ⟨b,0,none⟩=some (.pointer (some ⟨b,0,none⟩))):
  Calls Tryz.prog 67 #[.pointer (some ⟨b,0,none⟩)] w fun e w'=>e=.returned (.tuple #[])∧w'=w:=by
 obtain⟨j,hj,_⟩:=Option.map_eq_some_iff.1 z6j;go_enter Tryz.func67,Tryz.ntmps67
 go_wp2
 all_goals
  rw[Lib.run_neq_ptr_same w _ Tryz.underlying111 hj];go_wp2
  go_end0
  exact⟨rfl,rfl⟩
theorem zz0(b:Nat)(w:World)(h0:w.cell? ⟨b,0,none⟩=some (.pointer none))(hsh:w.shape? b=some (113,2))(hfz:w.frozen? ⟨b,0,none⟩=false):
  Calls Tryz.prog 67 #[.pointer (some ⟨b,0,none⟩)] w fun e w'=>e=.returned (.tuple #[])∧w'=w.setCell ⟨b,0,none⟩ (.pointer (some ⟨b,0,none⟩)):=by
 obtain⟨j,hj,hjs⟩:=Option.map_eq_some_iff.1 z6j;go_enter Tryz.func67,Tryz.ntmps67
 go_wp2
 rw[Lib.run_to_unsafe w ⟨b,0,none⟩ Tryz.underlying111 Tryz.underlying156 hj (by rw[hjs];decide) hsh (Nat.zero_lt_succ 1)];simp only[Result.andThen];rw[Oper.upon_value];go_wp2
 rw[run_callFunc_extern Tryz.func80 (by kernel_rfl) (by kernel_rfl) (by kernel_rfl) (e:=Extern.AbiNoEscape.same) (by kernel_rfl)];rw[Lib.run_noEscape];simp only[Result.andThen];rw[Oper.upon_value];go_wp2
 rw[Lib.run_from_unsafe w ⟨b,0,none⟩ Tryz.underlying156 Tryz.underlying111 hj hsh zH6];simp only[Result.andThen];rw[Oper.upon_value];go_wp2
 go_end0
 exact⟨rfl,rfl⟩
def zbi(b:Nat)(w w':World):Prop:=∀k cs t f,k≠b→t≠5→w.heap[k]? =some (.cells cs t f)→w'.heap[k]? =some (.cells cs t f)
theorem zbi.trans{b:Nat}{a c d:World}(h:zbi b a c)(k:zbi b c d):zbi b a d:=fun i cs t f h1 h2 h3=>k i cs t f h1 h2 (h i cs t f h1 h2 h3)
def Sb(w:World)(B b:Nat)(l:List UInt8):Prop:=Lib.IsBuilder 113 5 B b (Lib.byteCells l) w
theorem check_any(B b:Nat)(bs:List Value)(w:World)(h:Lib.IsBuilder 113 5 B b bs w):
  Calls Tryz.prog 67 #[.pointer (some ⟨b,0,none⟩)] w fun e w'=>e=.returned (.tuple #[])∧(Lib.BuilderAt 113 5 B b (.pointer (some ⟨b,0,none⟩)) bs w'∧Below B w w'∧zbi b w w'):=by
 rcases h with h|h
 ·refine(zz0 b w h.cell0 h.shape h.frozen0).mono ?_;rintro e w' ⟨rfl,rfl⟩;exact⟨rfl,h.used _,(Below.refl B w).setCell (p:=⟨b,0,none⟩) h.1 _,fun k cs t f h1 _ h3=>(Below.heap_setCell _ _ _ _ h1).trans h3⟩
 ·refine(z54 b w h.cell0).mono ?_;rintro e w' ⟨rfl,rfl⟩;exact⟨rfl,h,Below.refl B _,fun _ _ _ _ _ _ h3=>h3⟩
theorem zqk(B b:Nat)(bs:List Value)(s:ByteArray)(w:World)(h:Lib.IsBuilder 113 5 B b bs w)(hlen:bs.length+s.size≤140737488355328)(hBw:B≤w.heap.size):
  Calls Tryz.prog 50 #[.pointer (some ⟨b,0,none⟩),.string s] w fun e w'=>e=.returned (.tuple #[.int .i64 s.size,.nilIface])∧(Lib.IsBuilder 113 5 B b (bs++Lib.strCells s) w'∧Below B w w'∧zbi b w w'):=by
 obtain⟨i0,hi,hz0,hz1,hz2⟩:=info_parts (show(Tryz.prog.info? 5).map (fun i=>(i.zero,i.size,i.bytes))=some (some (.int .u8 0),1,1) by kernel_rfl);go_enter Tryz.func50,Tryz.ntmps50
 go_wp2_with fail;refine(check_any B b bs _ h).mono ?_;rintro e w1 ⟨rfl,h1,hb1,ho1⟩;obtain⟨hB,v,hbk,hown,hne⟩:=h1;have c0:w1.cell? ⟨b,0,none⟩=some (.pointer (some ⟨b,0,none⟩)):=by rw[Lib.cell_of_heap hbk];rfl
 have c1:w1.cell? ⟨b,1,none⟩=some v:=by rw[Lib.cell_of_heap hbk];rfl
 go_wp2_with (at_builtin;refine Lib.wpList_append_own_string _ rfl _ _ 108 9 rfl B 5 i0 Tryz.underlying108 Tryz.underlying9 hi hz0 hz1 hz2 _ _ _ rfl hown s rfl ?c3 ?c4 ?c5 ?_)
 case c3=>unfold maxLen;omega
 case c4=>omega
 case c5=>have:=hb1.size;omega
 intro v' w2 hown' hgrow _
 have hlt:b<w1.heap.size:=by
  rcases Nat.lt_or_ge b w1.heap.size with h'|h'
  ·exact h'
  ·simp[Array.getElem?_eq_none h']at hbk
 have hb2:w2.heap[b]? =some (.cells #[.pointer (some ⟨b,0,none⟩),v] 113 (0,0)):=by
  rw[hgrow.block b hlt (fun e=>hne e.symm)];exact hbk
 have d0:w2.cell? ⟨b,0,none⟩=some (.pointer (some ⟨b,0,none⟩)):=by rw[Lib.cell_of_heap hb2];rfl
 have d1:w2.cell? ⟨b,1,none⟩=some v:=by rw[Lib.cell_of_heap hb2];rfl
 have f1:w2.frozen? ⟨b,1,none⟩=false:=Lib.frozen_of_heap hb2 1;obtain⟨ao,n',cap,rfl⟩:∃ao n' cap,v'=.slice ao n' cap:=by
  rcases hown'.2 with⟨hv,_⟩|⟨g,cap,cur,hv,_⟩
  ·exact⟨_,_,_,hv⟩
  ·exact⟨_,_,_,hv⟩
 go_wp2
 go_ret2;refine⟨rfl,.inr ?_,?_,?_⟩
 ·exact Lib.BuilderAt.put (T:=113) (e:=5) hB hb2 (bs':=bs++Lib.strCells s) (by simpa[Lib.strCells_length]using hown') (by decide)
 ·exact(hb1.grown hgrow (by have:=hb1.size;omega) (fun k hk=>(hown.lt k hk).1)).setCell (p:=⟨b,1,none⟩) hB _
 ·refine ho1.trans fun k cs t f h1 h2 h3=>?_
  rw[Below.heap_setCell _ _ _ _ h1,hgrow.block k (Array.getElem?_eq_some_iff.1 h3).1 ?_]
  ·exact h3
  ·intro e
   rcases hown.2 with⟨rfl,_⟩|⟨g,cap',cur,rfl,_,hg,_⟩
   ·cases e
   ·simp only[Value.ownBlock,Option.some.injEq]at e;subst e;rw[hg]at h3;injection h3 with h3
    injection h3 with _ h3 _
    exact h2 h3.symm
end
namespace F
open Go.RowKit
def szN(x:Nat):Nat:=max 1 ((Lib.bitLen x+7)/8)
def beZ:Nat→Nat→List Int
 |0,_=>[]
 |k+1,x=>((x/256^k%256:Nat):Int)::beZ k x
theorem zf9(k x:Nat):(beZ k x).length=k:=by
 induction k with
 |zero=>rfl
 |succ k ih=>rw[beZ,List.length_cons,ih]
theorem bitLen_le8'{x:Nat}(h:x<256):Lib.bitLen x≤8:=Lib.bitLen_le8 ⟨x,h⟩
theorem z68{x:Nat}(h:x<256):szN x=1:=by
 have:=bitLen_le8' h;unfold szN;omega
theorem z69{x:Nat}(h:256≤x)(hx:x<18446744073709551616):szN x=szN (x/256)+1:=by
 have e:=Lib.bitLen_shift8 x h hx;have h1:1≤Lib.bitLen (x/256):=by
  have hx':x/256<18446744073709551616:=by omega
  rw[Lib.bitLen_half (x/256) (by omega) (by omega)];omega
 unfold szN;rw[e];omega
theorem zt3(x:Nat):1≤szN x:=by unfold szN;omega
def places(x:Nat):List Int:=
 if x<256 then[((x%256:Nat):Int)]else places (x/256)++[((x%256:Nat):Int)]
theorem zzc{x:Nat}(hx:x<9223372036854775808):szN x≤8:=by
 have h:∀k x:Nat,x<2^k→k≤64→Lib.bitLen x≤k:=by
  intro k
  induction k with
  |zero=>
       intro x h _;obtain rfl:x=0:=by omega
       decide
  |
   succ k ih=>
   intro x h hk
   by_cases h0:x=0
   ·subst h0;exact Nat.le_trans (by decide:Lib.bitLen 0≤0) (Nat.zero_le _)
   ·have hx64:x<2^64:=Nat.lt_of_lt_of_le h (Nat.pow_le_pow_right (by omega) hk);rw[Lib.bitLen_half x h0 hx64];have:=ih (x/2) (by rw[Nat.pow_succ]at h;omega) (by omega);omega
 have:=h 63 x (by simpa using hx) (by omega);unfold szN;omega
def numZ(n:Nat):List Int:=if n≤111 then[((128+n:Nat):Int)]else((239+szN (n-112):Nat):Int)::beZ (szN (n-112)) (n-112)
theorem zoa{n:Nat}(hn:n<9223372036854775808):1≤(numZ n).length∧(numZ n).length≤9:=by
 unfold numZ;split
 ·simp
 ·have:=zzc (x:=n-112) (by omega);rw[List.length_cons,zf9];omega
end F
namespace F
open Go.RowKit
theorem zqi:Elem Tryz.prog 108 5 1 1:=Elem.mk_ Tryz.underlying108 (z:=.int .u8 0) (by kernel_rfl) rfl (by omega)
def BRow(W:World)(base:Nat)(v:Value)(zs:List Int):Prop:=W.ownsRow base 5 1 v zs.length (zs.map (.int .u8))
theorem zGf{z:Int}(h0:0≤z)(h1:z<256):bits .xor .u8 z 0=z:=by
 have h:∀n:Fin 256,bits .xor .u8 ((n.val:Nat):Int) 0=((n.val:Nat):Int):=by decide+kernel
 have:=h ⟨z.toNat,by omega⟩;rwa[show((z.toNat:Nat):Int)=z by omega]at this
theorem byte_of(x m:Nat):(x:Int)/2^(8*m)%256=((x/256^m%256:Nat):Int):=by
 have e:((2:Int)^(8*m))=((256^m:Nat):Int):=by
  rw[Int.pow_mul];simp
 rw[e];rfl
theorem z3e(W:World)(base:Nat)(hbase:base≤W.heap.size)(v:Value)(zs:List Int)(h:BRow W base v zs)(hz:zs.length≤4294967296)(x k:Nat)(hk:k≤8)(_:x<9223372036854775808):
  Calls Tryz.prog 72 #[v,.int .u64 x,.int .i64 k,.int .u8 0] W fun e w'=>∃v',e=.returned v'∧BRow w' base v' (zs++beZ k x)∧Below base W w':=by
 have HS:=Lib.hid h;have hzl:=Lib.hid hz;clear h hz;go_enter Tryz.func72,Tryz.ntmps72
 go_wp2_with fail;go_loopw [0,9] (fun v i wr=>∃(j:Nat) (ys:List Int),j≤k∧i=.int .i64 ((j:Int)-1)∧Hid (BRow wr base v ys)∧Hid (Below base W wr)∧Hid (ys++beZ j x=zs++beZ k x)) (fun _ i _=>(intOf i+1).toNat)
 case atStart=>exact⟨k,zs,Nat.le_refl _,rfl,HS,Lib.hid (Below.refl _ _),Lib.hid rfl⟩
 case round=>
  obtain⟨j,ys,hj,rfl,HR,HB,HE⟩:=hrel;have hlen:Hid (ys.length+j=zs.length+k):=by
   have:=congrArg List.length HE.out;rw[List.length_append,List.length_append,zf9,zf9]at this;exact this
  by_cases h0:j=0
  ·subst h0;go_wp2_with fail;have he:ys=zs++beZ k x:=by
    have:=HE.out;rw[beZ,List.append_nil]at this;exact this
   subst he;go_ret;exact⟨_,rfl,HR.out,HB.out⟩
  ·obtain⟨m,rfl⟩:∃m,j=m+1:=⟨j-1,by omega⟩;have hd:=byte_of x m;have hd0:0≤((x/256^m%256:Nat):Int):=by omega
   have hd1:((x/256^m%256:Nat):Int)<256:=by omega
   have hxor:=zGf hd0 hd1;have HE2:Hid ((ys++[((x/256^m%256:Nat):Int)])++beZ m x=zs++beZ k x):=by
    have:=HE.out;rw[beZ]at this;show _=_;rw[←this,List.append_assoc];rfl
   have hb2:base≤wr.heap.size:=Nat.le_trans hbase HB.out.size;have hl2:ys.length≤4294967304:=by have:=hlen.out;have:=hzl.out;omega
   have i1:((m+1:Nat):Int)-1=(m:Int):=by omega
   rw[i1];generalize hdd:((x/256^m%256:Nat):Int)=d at*;clear hdd hd0 hd1 HE;have HO:=HR;unfold BRow at HO;go_wp2_with (at_builtin;refine zb8 W _ _ rfl _ _ _ rfl zqi _ _ _ rfl HO.out (m:=1) rfl rfl rfl (by simp[Value.oneCell']) (by unfold maxLen;omega) (by omega) hb2 HB.out ?_;intro v1 w1 hown1 hb1 _ _)
   go_roundw;case rel=>exact⟨m,ys++[d],by omega,by go_num,by show World.ownsRow _ _ _ _ _ _ _;rw[List.length_append,List.map_append];exact hown1,Lib.hid hb1,HE2⟩
   case measure=>simp[intOf]
theorem size_any(W:World)(x:Nat)(hx:x<9223372036854775808):Calls Tryz.prog 71 #[.int .u64 x] W fun e w'=>e=.returned (.int .i64 (szN x))∧w'=W:=by
 have HL:=Lib.hid (Tryz.bits_Len64 (x:Int) W (by omega) (by omega));have hle:Lib.bitLen x≤64:=by
  have:=zzc hx;unfold szN at this;omega
 have e1:((((x:Nat):Int).toNat:Nat))=x:=by omega
 have HE:Hid ((szN x:Int)=max 1 ((((Lib.bitLen x:Nat):Int)+7).tdiv 8)):=by
  show _=_;rw[Int.tdiv_eq_ediv_of_nonneg (by omega)];unfold szN;omega
 rw[e1]at HL;generalize Lib.bitLen x=m at*;rw[HE.out];clear HE e1;go_enter Tryz.func71,Tryz.ntmps71
 go_wp2_with fail;refine HL.out.mono ?_;rintro e w1 ⟨rfl,rfl⟩;go_wp2_with fail;go_ret;exact⟨rfl,rfl⟩
theorem put_any(W:World)(base:Nat)(hbase:base≤W.heap.size)(v:Value)(zs:List Int)(h:BRow W base v zs)(hz:zs.length≤4294967280)(n:Nat)(hn:n<9223372036854775808):
  Calls Tryz.prog 58 #[v,.int .i64 n] W fun e w'=>∃v',e=.returned v'∧BRow w' base v' (zs++numZ n)∧Below base W w':=by
 have HO:=Lib.hid h;unfold BRow at HO;have hzl:=hz;clear h hz;by_cases h1:n≤111
 ·have q1:decide ((n:Int)>111)=false:=by simp;omega
  have q2:decide ((n:Int)< -112)=false:=by simp<;>omega
  have hx:(128+(n:Int))%256=128+(n:Int):=by omega
  have hE:Hid (numZ n=[128+(n:Int)]):=by
   show _=_;unfold numZ;rw[if_pos h1];simp
  go_enter Tryz.func58,Tryz.ntmps58
  go_wp2_with (at_builtin;refine zb8 W _ _ rfl _ _ _ rfl zqi _ _ _ rfl HO.out (m:=1) rfl rfl rfl (by simp[Value.oneCell']) (by unfold maxLen;omega) (by omega) hbase (Below.refl _ _) ?_;intro v1 w1 hown1 hb1 _ _)
  go_ret;exact⟨_,rfl,by rw[hE.out];show World.ownsRow _ _ _ _ _ _ _;rw[List.length_append,List.map_append];exact hown1,hb1⟩
 ·have q1:decide ((n:Int)>111)=true:=by simp;omega
  have hE:Hid (numZ n=((239+szN (n-112):Nat):Int)::beZ (szN (n-112)) (n-112)):=by
   show _=_;unfold numZ;rw[if_neg h1]
  have e1:(n:Int)-112=((n-112:Nat):Int):=by omega
  have hx:n-112<9223372036854775808:=by omega
  have HZ:=Lib.hid (fun W=>size_any W (n-112) hx);have hs:=zzc hx;have hs1:=zt3 (n-112);have HP:=Lib.hid (fun(W':World) (hW:base≤W'.heap.size) (v:Value) (zs':List Int) (h:BRow W' base v zs') (hl:zs'.length≤4294967296)=>z3e W' base hW v zs' h hl (n-112) (szN (n-112)) hs hx);generalize szN (n-112)=k at*;generalize hxx:n-112=x at*;have hb:(239+(k:Int))%256=239+(k:Int):=by omega
  go_enter Tryz.func58,Tryz.ntmps58
  go_wp2_with fail;refine(HZ.out _).mono ?_;rintro e w0 ⟨rfl,hw⟩;subst w0;go_wp2_with (at_builtin;(refine zb8 W _ _ rfl _ _ _ rfl zqi _ _ _ rfl HO.out (m:=1) rfl rfl rfl (by simp[Value.oneCell']) (by unfold maxLen;omega) (by omega) hbase (Below.refl _ _) ?_);intro v1 w1 hown1 hb1 _ _)
  refine(HP.out _ (Nat.le_trans hbase hb1.size) v1 (zs++[239+(k:Int)]) (by show World.ownsRow _ _ _ _ _ _ _;rw[List.length_append,List.map_append];exact hown1) (by simp;omega)).mono ?_;rintro e w2 ⟨v2,rfl,h2,hb2⟩;go_wp2_with fail;go_ret;exact⟨_,rfl,by rw[hE.out];simpa using h2,hb1.trans hb2⟩
theorem zEi(W:World)(base:Nat):BRow W base (.slice none 0 0) []:=⟨rfl,.inl ⟨rfl,rfl⟩⟩
def zq9(ns:List Nat):List Int:=ns.flatMap numZ
theorem z83{ns:List Nat}(h:∀n∈ns,n<9223372036854775808):(zq9 ns).length≤9*ns.length:=by
 induction ns with
 |nil=>simp[zq9]
 |
  cons n r ih=>
  have h1:=(zoa (h n (List.mem_cons_self ..))).2;have h2:=ih fun x hx=>h x (List.mem_cons_of_mem _ hx)
  unfold zq9 at h2⊢;rw[List.flatMap_cons,List.length_append,List.length_cons];omega
theorem zCg(w:World)(A:Option Addr)(m c B:Nat)(ns:List Nat)(hm:m≤1000)(hs:Sl w B 1 A m (ns.map fun n=>.int .i64 (n:Nat)))(hB:B≤w.heap.size)(hn:∀n∈ns,n<9223372036854775808):
  Calls Tryz.prog 37 #[.slice A m c] w fun e w'=>e=.returned (.string (strOfNums (zq9 ns)))∧Below w.heap.size w w':=by
 have hl:ns.length=m:=by have:=hs.1;simpa using this
 have HN:=Lib.hid hn;have HSl:=Lib.hid hs;clear hn hs;go_enter Tryz.func37,Tryz.ntmps37
 go_wp2_with fail;go_loopw [3,8] (fun v i wr=>∃k:Nat,k≤m∧i=.int .i64 k∧Hid (BRow wr w.heap.size v (zq9 (ns.take k)))∧Hid (Below w.heap.size w wr)) (fun _ i _=>m-(intOf i).toNat)
 case atStart=>exact⟨0,Nat.zero_le _,rfl,Lib.hid (zEi _ _),Lib.hid (za0 w)⟩
 case round=>
  obtain⟨k,hk,rfl,HR,HBl⟩:=hrel;by_cases hlt:k<m
  ·obtain⟨b,off,rfl,hbB,hcell⟩:=HSl.out.at_ hlt;obtain⟨z,hz⟩:∃z,ns[k]? =some z:=⟨ns[k],List.getElem?_eq_getElem (by omega)⟩;have hcw:=(HBl.out.cell (p:=⟨b,off+k,none⟩) (by show b<_;omega)).trans (hcell k (.int .i64 z) (by simp[hz]));have hz63:=HN.out z (List.mem_of_getElem? hz);have hlen:=z83 (ns:=ns.take k) (fun x hx=>HN.out x (List.mem_of_mem_take hx));rw[List.length_take]at hlen;have HP:=Lib.hid (put_any wr w.heap.size HBl.out.size _ _ HR.out (by omega) z hz63);have HE:Hid (zq9 (ns.take (k+1))=zq9 (ns.take k)++numZ z):=by
    show _=_;unfold zq9;rw[List.take_add_one,hz,List.flatMap_append];simp
   clear hcell hlen;go_wp2_with fail;refine HP.out.mono ?_;rintro e w1 ⟨v1,rfl,h1,hb1⟩;go_wp2_with fail;go_roundw;case rel=>exact⟨k+1,by omega,by go_num,Lib.hid (by rw[HE.out];exact h1),Lib.hid (HBl.out.trans hb1)⟩
   case measure=>simp[intOf];omega
  ·obtain rfl:k=m:=by omega
   have hall:ns.take k=ns:=List.take_of_length_le (by omega);rw[hall]at HR;have kc:=zjf (P:=Tryz.prog) Tryz.underlying108 Tryz.underlying5 (dst:=9) Tryz.underlying9 HR.out;clear hall;go_wp2_with fail;go_ret;exact⟨rfl,HBl.out⟩
end F
end Go.Proofs.YtaociahafamncaaGreatDoor
