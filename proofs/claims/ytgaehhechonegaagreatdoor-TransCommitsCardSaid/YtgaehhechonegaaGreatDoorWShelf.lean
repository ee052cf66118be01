import Derived.Shelf.Strings.Builder1
import Derived.Shelf.Small.Utf8
import Derived.Shelf.Small.Strs
import Derived.Shelf.Small.Wraps
import Derived.Shelf.Strconv.Itoa0
import Derived.Shelf.LaysM
import Derived.Shelf.Strconv.Itoa3
import Derived.Shelf.LaysC
import Derived.Shelf.Strconv.AtoiAll
import Derived.Shelf.Strings.Search1
import Derived.Shelf.Strings.Search3
import Derived.Shelf.Strings.Cut
import Derived.Shelf.GgClosure.StringsRunes
import Derived.Shelf.Strings.Prefix
import Derived.Shelf.Strings.Split
import Derived.Shelf.Strings.Replace
import Derived.Shelf.Strings.Runes
import Derived.Shelf.Strings.IndexAny
import Derived.Shelf.Strings.IndexAnyAll
import Derived.Test.YtgaehhechonegaaGreatDoorProg
import Derived.Test.YtgaehhechonegaaGreatDoorWAMS
import Derived.Test.YtgaehhechonegaaGreatDoorWMem
import Derived.Laws.RangeAny
import Derived.Laws.Runes
import Derived.Deep.LoopGhost
import Derived.Deep.QuietTactic
import Derived.WalkMore
open Nat (reduceDiv reduceMod reduceSub reduceAdd reduceLeDiff reduceEqDiff)
set_option linter.all false
namespace Go.Proofs.YtgaehhechonegaaGreatDoor
open Go.Shelf
def Tryz.lays169_ren:Go.Shelf.Ren:=⟨fun | 169=>53 | n=>n,fun | 70=>95 | 9=>9 | 0=>0 | 72=>97 | 37=>71 | 127=>130 | 3=>3 | 5=>5 | n=>n,fun | n=>n⟩
theorem Tryz.lays169:Go.Proofs.Lays.n169 Tryz.prog Tryz.lays169_ren:={
 mixed:=by kernel_rfl
 f169:=Tryz.func53.trans (congrArg some (by kernel_rfl))
 t0:=Tryz.underlying0
 a0:=Tryz.isAgg0
 z0:=Tryz.sizeOf0
 v0:=Tryz.zeroValue0
 t3:=Tryz.underlying3
 a3:=Tryz.isAgg3
 z3:=Tryz.sizeOf3
 v3:=Tryz.zeroValue3
 t9:=Tryz.underlying9
 a9:=Tryz.isAgg9
 z9:=Tryz.sizeOf9
 v9:=Tryz.zeroValue9
 t37:=Tryz.underlying71
 a37:=Tryz.isAgg71
 z37:=Tryz.sizeOf71
 v37:=Tryz.zeroValue71
 t70:=Tryz.underlying95
 a70:=Tryz.isAgg95
 z70:=Tryz.sizeOf95
 v70:=Tryz.zeroValue95
 t72:=Tryz.underlying97
 a72:=Tryz.isAgg97
 z72:=Tryz.sizeOf97
 v72:=Tryz.zeroValue97
 t127:=Tryz.underlying130
 a127:=Tryz.isAgg130
 z127:=Tryz.sizeOf130
 v127:=Tryz.zeroValue130 }
theorem Tryz.Builder_Extra_169:Builder.Extra Tryz.prog Tryz.lays169_ren:={
 sizeBuilder:=by kernel_rfl
 liesBuilder:=by kernel_rfl
 t5:=Tryz.underlying5
 a5:=Tryz.isAgg5
 z5:=Tryz.sizeOf5
 v5:=Tryz.zeroValue5
 infoByte:=by kernel_rfl
 cellsByte:=by kernel_rfl
 sizeByte:=by kernel_rfl
 neB5:=by decide }
open Go.RowKit in
theorem Tryz.Builder_String_any (B b:Nat) (l:List UInt8) (w:World) (h:Lib.IsBuilder 97 5 B b (Lib.byteCells l) w) (hBw:B≤w.heap.size) :
  Calls Tryz.prog 53 #[.pointer (some ⟨b,0,none⟩)] w fun e w' => e=.returned (.string ⟨l.toArray⟩)∧Below B w w' := Any.Builder_String_any Tryz.lays169 Tryz.Builder_Extra_169 B b l w h hBw
def Tryz.lays119_ren:Go.Shelf.Ren:=⟨fun | 119=>135 | n=>n,fun | 21=>21 | 4=>4 | n=>n,fun | n=>n⟩
theorem Tryz.lays119:Go.Proofs.Lays.n119 Tryz.prog Tryz.lays119_ren:={
 mixed:=by kernel_rfl
 f119:=Tryz.func135.trans (congrArg some (by kernel_rfl))
 t4:=Tryz.underlying4
 a4:=Tryz.isAgg4
 z4:=Tryz.sizeOf4
 v4:=Tryz.zeroValue4
 t21:=Tryz.underlying21
 a21:=Tryz.isAgg21
 z21:=Tryz.sizeOf21
 v21:=Tryz.zeroValue21 }
theorem Tryz.utf8_ValidRune (r:Int) (w:World) :
  Calls Tryz.prog 135 #[.int .i32 r] w fun e w' => e=.returned (.bool (Lib.validRune r))∧w' = w:=Any.utf8_ValidRune Tryz.lays119 r w
def Tryz.lays137_ren:Go.Shelf.Ren:=⟨fun | 137=>133 | 217=>138 | 266=>148 | n=>n,fun | 9=>9 | 5=>5 | 3=>3 | n=>n,fun | n=>n⟩
theorem Tryz.lays137:Go.Proofs.Lays.n137 Tryz.prog Tryz.lays137_ren:={
 mixed:=by kernel_rfl
 f137:=Tryz.func133.trans (congrArg some (by kernel_rfl))
 f217:=Tryz.func138.trans (congrArg some (by kernel_rfl))
 f266:=Tryz.func148.trans (congrArg some (by kernel_rfl))
 t3:=Tryz.underlying3
 a3:=Tryz.isAgg3
 z3:=Tryz.sizeOf3
 v3:=Tryz.zeroValue3
 t5:=Tryz.underlying5
 a5:=Tryz.isAgg5
 z5:=Tryz.sizeOf5
 v5:=Tryz.zeroValue5
 t9:=Tryz.underlying9
 a9:=Tryz.isAgg9
 z9:=Tryz.sizeOf9
 v9:=Tryz.zeroValue9 }
open Go.RowKit in
theorem Tryz.strings_IndexByte (s:ByteArray) (c:Int) (w:World) :
  Calls Tryz.prog 133 #[.string s,.int .u8 c] w fun e w' => e=.returned (.int .i64 (Lib.indexByte s.data.toList c.toNat.toUInt8))∧w' = w:=Any.strings_IndexByte Tryz.lays137 s c w
def Tryz.lays145_ren:Go.Shelf.Ren:=⟨fun | 145=>82 | 220=>104 | 219=>124 | 217=>138 | 225=>137 | 224=>136 | 267=>139 | 266=>148 | 314=>149 | n=>n,fun | 9=>9 | 4=>4 | 59=>131 | 3=>3 | 5=>5 | 46=>128 | 146=>195 | 51=>194 | n=>n,fun | 1=>0 | n=>n⟩
theorem Tryz.lays145:Go.Proofs.Lays.n145 Tryz.prog Tryz.lays145_ren:={
 mixed:=by kernel_rfl
 f145:=Tryz.func82.trans (congrArg some (by kernel_rfl))
 f217:=Tryz.func138.trans (congrArg some (by kernel_rfl))
 f219:=Tryz.func124.trans (congrArg some (by kernel_rfl))
 f220:=Tryz.func104.trans (congrArg some (by kernel_rfl))
 f224:=Tryz.func136.trans (congrArg some (by kernel_rfl))
 f225:=Tryz.func137.trans (congrArg some (by kernel_rfl))
 f266:=Tryz.func148.trans (congrArg some (by kernel_rfl))
 f267:=Tryz.func139.trans (congrArg some (by kernel_rfl))
 f314:=Tryz.func149.trans (congrArg some (by kernel_rfl))
 t3:=Tryz.underlying3
 a3:=Tryz.isAgg3
 z3:=Tryz.sizeOf3
 v3:=Tryz.zeroValue3
 t4:=Tryz.underlying4
 a4:=Tryz.isAgg4
 z4:=Tryz.sizeOf4
 v4:=Tryz.zeroValue4
 t5:=Tryz.underlying5
 a5:=Tryz.isAgg5
 z5:=Tryz.sizeOf5
 v5:=Tryz.zeroValue5
 t9:=Tryz.underlying9
 a9:=Tryz.isAgg9
 z9:=Tryz.sizeOf9
 v9:=Tryz.zeroValue9
 t46:=Tryz.underlying128
 a46:=Tryz.isAgg128
 z46:=Tryz.sizeOf128
 v46:=Tryz.zeroValue128
 t51:=Tryz.underlying194
 a51:=Tryz.isAgg194
 z51:=Tryz.sizeOf194
 v51:=Tryz.zeroValue194
 t59:=Tryz.underlying131
 a59:=Tryz.isAgg131
 z59:=Tryz.sizeOf131
 v59:=Tryz.zeroValue131
 t146:=Tryz.underlying195
 a146:=Tryz.isAgg195
 z146:=Tryz.sizeOf195
 v146:=Tryz.zeroValue195
 g1:=by kernel_rfl }
open Go.RowKit Go.Lib in
theorem Tryz.strings_Cut (s sep:ByteArray) (m:Int) (w:World) (hs:s.size<4294967281) (hm:w.cell? ⟨0,0,none⟩=some (.int .i64 m)) :
  Calls Tryz.prog 82 #[.string s,.string sep] w fun e w' => e=.returned (.tuple #[.string ⟨(Lib.cut s.data.toList sep.data.toList).1.toArray⟩,.string ⟨(Lib.cut s.data.toList sep.data.toList).2.1.toArray⟩,.bool (Lib.cut s.data.toList sep.data.toList).2.2])∧∃ n,w' = w.drewN n:=Any.strings_Cut Tryz.lays145 s sep m w hs hm
def Tryz.lays99_ren:Go.Shelf.Ren:=⟨fun | 99=>84 | 206=>107 | n=>n,fun | 9=>9 | 4=>4 | 3=>3 | n=>n,fun | n=>n⟩
theorem Tryz.lays99:Go.Proofs.Lays.n99 Tryz.prog Tryz.lays99_ren:={
 mixed:=by kernel_rfl
 f99:=Tryz.func84.trans (congrArg some (by kernel_rfl))
 f206:=Tryz.func107.trans (congrArg some (by kernel_rfl))
 t3:=Tryz.underlying3
 a3:=Tryz.isAgg3
 z3:=Tryz.sizeOf3
 v3:=Tryz.zeroValue3
 t4:=Tryz.underlying4
 a4:=Tryz.isAgg4
 z4:=Tryz.sizeOf4
 v4:=Tryz.zeroValue4
 t9:=Tryz.underlying9
 a9:=Tryz.isAgg9
 z9:=Tryz.sizeOf9
 v9:=Tryz.zeroValue9 }
open Go.RowKit Go.Lib in
theorem Tryz.strings_HasPrefix (s p:ByteArray) (w:World) :
  Calls Tryz.prog 84 #[.string s,.string p] w fun e w' => e=.returned (.bool (Lib.hasPrefix s.data.toList p.data.toList))∧w' = w:=Any.strings_HasPrefix Tryz.lays99 s p w
def Tryz.lays103_ren:Go.Shelf.Ren:=⟨fun | 103=>105 | 210=>126 | 206=>107 | n=>n,fun | 9=>9 | 4=>4 | 24=>152 | 3=>3 | n=>n,fun | n=>n⟩
theorem Tryz.lays103:Go.Proofs.Lays.n103 Tryz.prog Tryz.lays103_ren:={
 mixed:=by kernel_rfl
 f103:=Tryz.func105.trans (congrArg some (by kernel_rfl))
 f206:=Tryz.func107.trans (congrArg some (by kernel_rfl))
 f210:=Tryz.func126.trans (congrArg some (by kernel_rfl))
 t3:=Tryz.underlying3
 a3:=Tryz.isAgg3
 z3:=Tryz.sizeOf3
 v3:=Tryz.zeroValue3
 t4:=Tryz.underlying4
 a4:=Tryz.isAgg4
 z4:=Tryz.sizeOf4
 v4:=Tryz.zeroValue4
 t9:=Tryz.underlying9
 a9:=Tryz.isAgg9
 z9:=Tryz.sizeOf9
 v9:=Tryz.zeroValue9
 t24:=Tryz.underlying152
 a24:=Tryz.isAgg152
 z24:=Tryz.sizeOf152
 v24:=Tryz.zeroValue152 }
open Go.RowKit in
theorem Tryz.strings_CutPrefix (s p:ByteArray) (w:World) :
  Calls Tryz.prog 105 #[.string s,.string p] w fun e w' => e=.returned (.tuple #[.string ⟨(Lib.trimPrefix s.data.toList p.data.toList).toArray⟩,.bool (Lib.hasPrefix s.data.toList p.data.toList)])∧w' = w:=Any.strings_CutPrefix Tryz.lays103 s p w
def Tryz.lays146_ren:Go.Shelf.Ren:=⟨fun | 146=>109 | 221=>130 | 268=>142 | 138=>101 | 143=>102 | 195=>122 | 197=>103 | 218=>123 | 219=>124 | 260=>125 | 217=>138 | 225=>137 | 224=>136 | 267=>139 | 266=>148 | 314=>149 | n=>n,fun | 9=>9 | 31=>38 | 3=>3 | 4=>4 | 0=>0 | 105=>150 | 21=>21 | 5=>5 | 46=>128 | 119=>182 | 139=>185 | 138=>184 | 146=>195 | 51=>194 | n=>n,fun | 1=>0 | 3=>1 | 4=>2 | n=>n⟩
theorem Tryz.lays146:Go.Proofs.Lays.n146 Tryz.prog Tryz.lays146_ren:={
 mixed:=by kernel_rfl
 f138:=Tryz.func101.trans (congrArg some (by kernel_rfl))
 f143:=Tryz.func102.trans (congrArg some (by kernel_rfl))
 f146:=Tryz.func109.trans (congrArg some (by kernel_rfl))
 f195:=Tryz.func122.trans (congrArg some (by kernel_rfl))
 f197:=Tryz.func103.trans (congrArg some (by kernel_rfl))
 f217:=Tryz.func138.trans (congrArg some (by kernel_rfl))
 f218:=Tryz.func123.trans (congrArg some (by kernel_rfl))
 f219:=Tryz.func124.trans (congrArg some (by kernel_rfl))
 f221:=Tryz.func130.trans (congrArg some (by kernel_rfl))
 f224:=Tryz.func136.trans (congrArg some (by kernel_rfl))
 f225:=Tryz.func137.trans (congrArg some (by kernel_rfl))
 f260:=Tryz.func125.trans (congrArg some (by kernel_rfl))
 f266:=Tryz.func148.trans (congrArg some (by kernel_rfl))
 f267:=Tryz.func139.trans (congrArg some (by kernel_rfl))
 f268:=Tryz.func142.trans (congrArg some (by kernel_rfl))
 f314:=Tryz.func149.trans (congrArg some (by kernel_rfl))
 t0:=Tryz.underlying0
 a0:=Tryz.isAgg0
 z0:=Tryz.sizeOf0
 v0:=Tryz.zeroValue0
 t3:=Tryz.underlying3
 a3:=Tryz.isAgg3
 z3:=Tryz.sizeOf3
 v3:=Tryz.zeroValue3
 t4:=Tryz.underlying4
 a4:=Tryz.isAgg4
 z4:=Tryz.sizeOf4
 v4:=Tryz.zeroValue4
 t5:=Tryz.underlying5
 a5:=Tryz.isAgg5
 z5:=Tryz.sizeOf5
 v5:=Tryz.zeroValue5
 t9:=Tryz.underlying9
 a9:=Tryz.isAgg9
 z9:=Tryz.sizeOf9
 v9:=Tryz.zeroValue9
 t21:=Tryz.underlying21
 a21:=Tryz.isAgg21
 z21:=Tryz.sizeOf21
 v21:=Tryz.zeroValue21
 t31:=Tryz.underlying38
 a31:=Tryz.isAgg38
 z31:=Tryz.sizeOf38
 v31:=Tryz.zeroValue38
 t46:=Tryz.underlying128
 a46:=Tryz.isAgg128
 z46:=Tryz.sizeOf128
 v46:=Tryz.zeroValue128
 t51:=Tryz.underlying194
 a51:=Tryz.isAgg194
 z51:=Tryz.sizeOf194
 v51:=Tryz.zeroValue194
 t105:=Tryz.underlying150
 a105:=Tryz.isAgg150
 z105:=Tryz.sizeOf150
 v105:=Tryz.zeroValue150
 t119:=Tryz.underlying182
 a119:=Tryz.isAgg182
 z119:=Tryz.sizeOf182
 t138:=Tryz.underlying184
 a138:=Tryz.isAgg184
 z138:=Tryz.sizeOf184
 v138:=Tryz.zeroValue184
 t139:=Tryz.underlying185
 a139:=Tryz.isAgg185
 z139:=Tryz.sizeOf185
 v139:=Tryz.zeroValue185
 t146:=Tryz.underlying195
 a146:=Tryz.isAgg195
 z146:=Tryz.sizeOf195
 v146:=Tryz.zeroValue195
 g1:=by kernel_rfl
 g3:=by kernel_rfl
 g4:=by kernel_rfl }
open Go.RowKit Go.Lib in
theorem Tryz.strings_Split (s sep:ByteArray) (m:Int) (w:World) (hs:s.size<4294967281) (hm:w.cell? ⟨0,0,none⟩=some (.int .i64 m)) (h1:1≤sep.size) :
  Calls Tryz.prog 109 #[.string s,.string sep] w fun e w' =>
   e=.returned (.slice (some ⟨w.heap.size,0,none⟩) (Lib.countB s sep+1) (Lib.countB s sep+1))∧w' = w.alloc (.cells ((Lib.splitB sep 0 (Lib.countB s sep) s).map Value.string).toArray 9):=Any.strings_Split Tryz.lays146 (by kernel_rfl) s sep m w hs hm h1
def Tryz.lays144_ren:Go.Shelf.Ren:=⟨fun | 144=>89 | 143=>102 | 219=>124 | 217=>138 | 225=>137 | 224=>136 | 267=>139 | 266=>148 | 314=>149 | n=>n,fun | 9=>9 | 4=>4 | 3=>3 | 5=>5 | 46=>128 | 146=>195 | 51=>194 | n=>n,fun | 1=>0 | n=>n⟩
theorem Tryz.lays144:Go.Proofs.Lays.n144 Tryz.prog Tryz.lays144_ren:={
 mixed:=by kernel_rfl
 f143:=Tryz.func102.trans (congrArg some (by kernel_rfl))
 f144:=Tryz.func89.trans (congrArg some (by kernel_rfl))
 f217:=Tryz.func138.trans (congrArg some (by kernel_rfl))
 f219:=Tryz.func124.trans (congrArg some (by kernel_rfl))
 f224:=Tryz.func136.trans (congrArg some (by kernel_rfl))
 f225:=Tryz.func137.trans (congrArg some (by kernel_rfl))
 f266:=Tryz.func148.trans (congrArg some (by kernel_rfl))
 f267:=Tryz.func139.trans (congrArg some (by kernel_rfl))
 f314:=Tryz.func149.trans (congrArg some (by kernel_rfl))
 t3:=Tryz.underlying3
 a3:=Tryz.isAgg3
 z3:=Tryz.sizeOf3
 v3:=Tryz.zeroValue3
 t4:=Tryz.underlying4
 a4:=Tryz.isAgg4
 z4:=Tryz.sizeOf4
 v4:=Tryz.zeroValue4
 t5:=Tryz.underlying5
 a5:=Tryz.isAgg5
 z5:=Tryz.sizeOf5
 v5:=Tryz.zeroValue5
 t9:=Tryz.underlying9
 a9:=Tryz.isAgg9
 z9:=Tryz.sizeOf9
 v9:=Tryz.zeroValue9
 t46:=Tryz.underlying128
 a46:=Tryz.isAgg128
 z46:=Tryz.sizeOf128
 v46:=Tryz.zeroValue128
 t51:=Tryz.underlying194
 a51:=Tryz.isAgg194
 z51:=Tryz.sizeOf194
 v51:=Tryz.zeroValue194
 t146:=Tryz.underlying195
 a146:=Tryz.isAgg195
 z146:=Tryz.sizeOf195
 v146:=Tryz.zeroValue195
 g1:=by kernel_rfl }
open Go.RowKit Go.Lib in
theorem Tryz.strings_Contains (s sub:ByteArray) (m:Int) (w:World) (hs:s.size<4294967281) (hm:w.cell? ⟨0,0,none⟩=some (.int .i64 m)) :
  Calls Tryz.prog 89 #[.string s,.string sub] w fun e w' => e=.returned (.bool (Lib.contains s.data.toList sub.data.toList))∧w' = w:=Any.strings_Contains Tryz.lays144 s sub m w hs hm
def Tryz.laysGw17_ren:Go.Shelf.Ren:=⟨fun | 17=>116 | 15=>134 | 20=>147 | n=>n,fun | 9=>9 | 23=>166 | 4=>4 | 3=>3 | 0=>0 | 21=>21 | n=>n,fun | n=>n⟩
theorem Tryz.laysGw17:Go.Proofs.LaysGw.n17 Tryz.prog Tryz.laysGw17_ren:={
 mixed:=by kernel_rfl
 f15:=Tryz.func134.trans (congrArg some (by kernel_rfl))
 f17:=Tryz.func116.trans (congrArg some (by kernel_rfl))
 f20:=Tryz.func147.trans (congrArg some (by kernel_rfl))
 t0:=Tryz.underlying0
 a0:=Tryz.isAgg0
 z0:=Tryz.sizeOf0
 v0:=Tryz.zeroValue0
 i0:=by kernel_rfl
 t3:=Tryz.underlying3
 a3:=Tryz.isAgg3
 z3:=Tryz.sizeOf3
 v3:=Tryz.zeroValue3
 i3:=by kernel_rfl
 t4:=Tryz.underlying4
 a4:=Tryz.isAgg4
 z4:=Tryz.sizeOf4
 v4:=Tryz.zeroValue4
 i4:=by kernel_rfl
 t9:=Tryz.underlying9
 a9:=Tryz.isAgg9
 z9:=Tryz.sizeOf9
 v9:=Tryz.zeroValue9
 i9:=by kernel_rfl
 t21:=Tryz.underlying21
 a21:=Tryz.isAgg21
 z21:=Tryz.sizeOf21
 v21:=Tryz.zeroValue21
 i21:=by kernel_rfl
 t23:=Tryz.underlying166
 a23:=Tryz.isAgg166
 z23:=Tryz.sizeOf166
 v23:=Tryz.zeroValue166
 i23:=by kernel_rfl }
open Go.RowKit Go.Lib in
theorem Tryz.strings_ContainsFunc_runes (g:Nat) (lb:Array Value) (eg:∀ args w,(callFunc g args).run Tryz.prog w=.ok (.enter g args) w) (p:Nat→Bool) (s:ByteArray) (w:World) (hp:PredAtRunes Tryz.prog g lb p w) :
  Calls Tryz.prog 116 #[.string s,.func (.func g) #[] lb] w fun e w' => e=.returned (.bool (decide (0≤Lib.idxFunc p true s)))∧Below w.heap.size w w' := Any.strings_ContainsFunc_runes Tryz.laysGw17 g lb eg p s w hp
def Tryz.lays155_ren:Go.Shelf.Ren:=⟨fun | 155=>52 | 154=>81 | 138=>101 | 165=>91 | 143=>102 | 166=>50 | 197=>103 | 169=>53 | 195=>122 | 218=>123 | 240=>79 | 241=>112 | 219=>124 | 260=>125 | 276=>100 | 277=>132 | 217=>138 | 225=>137 | 224=>136 | 267=>139 | 266=>148 | 314=>149 | n=>n,fun | 9=>9 | 3=>3 | 4=>4 | 72=>97 | 0=>0 | 76=>100 | 105=>150 | 21=>21 | 5=>5 | 70=>95 | 20=>20 | 37=>71 | 75=>99 | 127=>130 | 164=>148 | 46=>128 | 119=>182 | 139=>185 | 138=>184 | 146=>195 | 51=>194 | 80=>104 | n=>n,fun | 1=>0 | 3=>1 | 4=>2 | n=>n⟩
theorem Tryz.lays155:Go.Proofs.Lays.n155 Tryz.prog Tryz.lays155_ren:={
 mixed:=by kernel_rfl
 f138:=Tryz.func101.trans (congrArg some (by kernel_rfl))
 f143:=Tryz.func102.trans (congrArg some (by kernel_rfl))
 f154:=Tryz.func81.trans (congrArg some (by kernel_rfl))
 f155:=Tryz.func52.trans (congrArg some (by kernel_rfl))
 f165:=Tryz.func91.trans (congrArg some (by kernel_rfl))
 f166:=Tryz.func50.trans (congrArg some (by kernel_rfl))
 f169:=Tryz.func53.trans (congrArg some (by kernel_rfl))
 f195:=Tryz.func122.trans (congrArg some (by kernel_rfl))
 f197:=Tryz.func103.trans (congrArg some (by kernel_rfl))
 f217:=Tryz.func138.trans (congrArg some (by kernel_rfl))
 f218:=Tryz.func123.trans (congrArg some (by kernel_rfl))
 f219:=Tryz.func124.trans (congrArg some (by kernel_rfl))
 f224:=Tryz.func136.trans (congrArg some (by kernel_rfl))
 f225:=Tryz.func137.trans (congrArg some (by kernel_rfl))
 f240:=Tryz.func79.trans (congrArg some (by kernel_rfl))
 f241:=Tryz.func112.trans (congrArg some (by kernel_rfl))
 f260:=Tryz.func125.trans (congrArg some (by kernel_rfl))
 f266:=Tryz.func148.trans (congrArg some (by kernel_rfl))
 f267:=Tryz.func139.trans (congrArg some (by kernel_rfl))
 f276:=Tryz.func100.trans (congrArg some (by kernel_rfl))
 f277:=Tryz.func132.trans (congrArg some (by kernel_rfl))
 f314:=Tryz.func149.trans (congrArg some (by kernel_rfl))
 t0:=Tryz.underlying0
 a0:=Tryz.isAgg0
 z0:=Tryz.sizeOf0
 v0:=Tryz.zeroValue0
 t3:=Tryz.underlying3
 a3:=Tryz.isAgg3
 z3:=Tryz.sizeOf3
 v3:=Tryz.zeroValue3
 t4:=Tryz.underlying4
 a4:=Tryz.isAgg4
 z4:=Tryz.sizeOf4
 v4:=Tryz.zeroValue4
 t5:=Tryz.underlying5
 a5:=Tryz.isAgg5
 z5:=Tryz.sizeOf5
 v5:=Tryz.zeroValue5
 t9:=Tryz.underlying9
 a9:=Tryz.isAgg9
 z9:=Tryz.sizeOf9
 v9:=Tryz.zeroValue9
 t20:=Tryz.underlying20
 a20:=Tryz.isAgg20
 z20:=Tryz.sizeOf20
 v20:=Tryz.zeroValue20
 t21:=Tryz.underlying21
 a21:=Tryz.isAgg21
 z21:=Tryz.sizeOf21
 v21:=Tryz.zeroValue21
 t37:=Tryz.underlying71
 a37:=Tryz.isAgg71
 z37:=Tryz.sizeOf71
 v37:=Tryz.zeroValue71
 t46:=Tryz.underlying128
 a46:=Tryz.isAgg128
 z46:=Tryz.sizeOf128
 v46:=Tryz.zeroValue128
 t51:=Tryz.underlying194
 a51:=Tryz.isAgg194
 z51:=Tryz.sizeOf194
 v51:=Tryz.zeroValue194
 t70:=Tryz.underlying95
 a70:=Tryz.isAgg95
 z70:=Tryz.sizeOf95
 v70:=Tryz.zeroValue95
 t72:=Tryz.underlying97
 a72:=Tryz.isAgg97
 z72:=Tryz.sizeOf97
 v72:=Tryz.zeroValue97
 t75:=Tryz.underlying99
 a75:=Tryz.isAgg99
 z75:=Tryz.sizeOf99
 v75:=Tryz.zeroValue99
 t76:=Tryz.underlying100
 a76:=Tryz.isAgg100
 z76:=Tryz.sizeOf100
 v76:=Tryz.zeroValue100
 t105:=Tryz.underlying150
 a105:=Tryz.isAgg150
 z105:=Tryz.sizeOf150
 v105:=Tryz.zeroValue150
 t119:=Tryz.underlying182
 a119:=Tryz.isAgg182
 z119:=Tryz.sizeOf182
 t127:=Tryz.underlying130
 a127:=Tryz.isAgg130
 z127:=Tryz.sizeOf130
 v127:=Tryz.zeroValue130
 t138:=Tryz.underlying184
 a138:=Tryz.isAgg184
 z138:=Tryz.sizeOf184
 v138:=Tryz.zeroValue184
 t139:=Tryz.underlying185
 a139:=Tryz.isAgg185
 z139:=Tryz.sizeOf185
 v139:=Tryz.zeroValue185
 t146:=Tryz.underlying195
 a146:=Tryz.isAgg195
 z146:=Tryz.sizeOf195
 v146:=Tryz.zeroValue195
 t164:=Tryz.underlying148
 a164:=Tryz.isAgg148
 z164:=Tryz.sizeOf148
 v164:=Tryz.zeroValue148
 g1:=by kernel_rfl
 g3:=by kernel_rfl
 g4:=by kernel_rfl }
theorem Tryz.Builder_Extra_155:Builder.Extra Tryz.prog Tryz.lays155_ren:={
 sizeBuilder:=by kernel_rfl
 liesBuilder:=by kernel_rfl
 t5:=Tryz.underlying5
 a5:=Tryz.isAgg5
 z5:=Tryz.sizeOf5
 v5:=Tryz.zeroValue5
 infoByte:=by kernel_rfl
 cellsByte:=by kernel_rfl
 sizeByte:=by kernel_rfl
 neB5:=by decide }
open Go.RowKit Go.Lib in
theorem Tryz.strings_ReplaceAll (s old new:ByteArray) (m:Int) (w:World) (hs:s.size<4294967281) (hm:w.cell? ⟨0,0,none⟩=some (.int .i64 m)) (h1:1≤old.size) (hlen:s.size+Lib.countB s old * new.size≤140737488355328) :
  Calls Tryz.prog 52 #[.string s,.string old,.string new] w fun e w' =>
   e=.returned (.string ⟨(Lib.replaceAll s.data.toList old.data.toList new.data.toList).toArray⟩)∧Below w.heap.size w w' := Any.strings_ReplaceAll Tryz.lays155 Tryz.Builder_Extra_155 s old new m w hs hm h1 hlen
def Tryz.lays152_ren:Go.Shelf.Ren:=⟨fun | 152=>118 | 137=>133 | 119=>135 | 224=>136 | 225=>137 | 217=>138 | 266=>148 | n=>n,fun | 9=>9 | 21=>21 | 3=>3 | 4=>4 | 5=>5 | 0=>0 | 46=>128 | n=>n,fun | n=>n⟩
theorem Tryz.lays152:Go.Proofs.Lays.n152 Tryz.prog Tryz.lays152_ren:={
 mixed:=by kernel_rfl
 f119:=Tryz.func135.trans (congrArg some (by kernel_rfl))
 f137:=Tryz.func133.trans (congrArg some (by kernel_rfl))
 f152:=Tryz.func118.trans (congrArg some (by kernel_rfl))
 f217:=Tryz.func138.trans (congrArg some (by kernel_rfl))
 f224:=Tryz.func136.trans (congrArg some (by kernel_rfl))
 f225:=Tryz.func137.trans (congrArg some (by kernel_rfl))
 f266:=Tryz.func148.trans (congrArg some (by kernel_rfl))
 t0:=Tryz.underlying0
 a0:=Tryz.isAgg0
 z0:=Tryz.sizeOf0
 v0:=Tryz.zeroValue0
 t3:=Tryz.underlying3
 a3:=Tryz.isAgg3
 z3:=Tryz.sizeOf3
 v3:=Tryz.zeroValue3
 t4:=Tryz.underlying4
 a4:=Tryz.isAgg4
 z4:=Tryz.sizeOf4
 v4:=Tryz.zeroValue4
 t5:=Tryz.underlying5
 a5:=Tryz.isAgg5
 z5:=Tryz.sizeOf5
 v5:=Tryz.zeroValue5
 t9:=Tryz.underlying9
 a9:=Tryz.isAgg9
 z9:=Tryz.sizeOf9
 v9:=Tryz.zeroValue9
 t21:=Tryz.underlying21
 a21:=Tryz.isAgg21
 z21:=Tryz.sizeOf21
 v21:=Tryz.zeroValue21
 t46:=Tryz.underlying128
 a46:=Tryz.isAgg128
 z46:=Tryz.sizeOf128
 v46:=Tryz.zeroValue128 }
open Go.RowKit Go.Lib in
theorem Tryz.strings_IndexRune_ascii (s:ByteArray) (r:Int) (w:World) (h0:0≤r) (h1:r<128) :
  Calls Tryz.prog 118 #[.string s,.int .i32 r] w fun e w' => e=.returned (.int .i64 (Lib.indexByte s.data.toList r.toNat.toUInt8))∧w' = w:=Any.strings_IndexRune_ascii Tryz.lays152 s r w h0 h1
def Tryz.lays226_ren:Go.Shelf.Ren:=⟨fun | 226=>119 | n=>n,fun | 3=>3 | 4=>4 | n=>n,fun | n=>n⟩
theorem Tryz.lays226:Go.Proofs.Lays.n226 Tryz.prog Tryz.lays226_ren:={
 mixed:=by kernel_rfl
 f226:=Tryz.func119.trans (congrArg some (by kernel_rfl))
 t3:=Tryz.underlying3
 a3:=Tryz.isAgg3
 z3:=Tryz.sizeOf3
 v3:=Tryz.zeroValue3
 t4:=Tryz.underlying4
 a4:=Tryz.isAgg4
 z4:=Tryz.sizeOf4
 v4:=Tryz.zeroValue4 }
open Go.RowKit Go.Lib in
theorem Tryz.strings_shouldUseASCIISet (n:Int) (w:World) :
  Calls Tryz.prog 119 #[.int .i64 n] w fun e w' => e=.returned (.bool (decide (8<n)))∧w' = w:=Any.strings_shouldUseASCIISet Tryz.lays226 n w
def Tryz.lays153_ren:Go.Shelf.Ren:=⟨fun | 153=>98 | 152=>118 | 226=>119 | 227=>120 | 228=>121 | 137=>133 | 119=>135 | 224=>136 | 225=>137 | 217=>138 | 266=>148 | n=>n,fun | 9=>9 | 3=>3 | 4=>4 | 5=>5 | 21=>21 | 117=>171 | 116=>170 | 0=>0 | 46=>128 | 124=>181 | n=>n,fun | n=>n⟩
theorem Tryz.lays153:Go.Proofs.Lays.n153 Tryz.prog Tryz.lays153_ren:={
 mixed:=by kernel_rfl
 f119:=Tryz.func135.trans (congrArg some (by kernel_rfl))
 f137:=Tryz.func133.trans (congrArg some (by kernel_rfl))
 f152:=Tryz.func118.trans (congrArg some (by kernel_rfl))
 f153:=Tryz.func98.trans (congrArg some (by kernel_rfl))
 f217:=Tryz.func138.trans (congrArg some (by kernel_rfl))
 f224:=Tryz.func136.trans (congrArg some (by kernel_rfl))
 f225:=Tryz.func137.trans (congrArg some (by kernel_rfl))
 f226:=Tryz.func119.trans (congrArg some (by kernel_rfl))
 f227:=Tryz.func120.trans (congrArg some (by kernel_rfl))
 f228:=Tryz.func121.trans (congrArg some (by kernel_rfl))
 f266:=Tryz.func148.trans (congrArg some (by kernel_rfl))
 t0:=Tryz.underlying0
 a0:=Tryz.isAgg0
 z0:=Tryz.sizeOf0
 v0:=Tryz.zeroValue0
 t3:=Tryz.underlying3
 a3:=Tryz.isAgg3
 z3:=Tryz.sizeOf3
 v3:=Tryz.zeroValue3
 t4:=Tryz.underlying4
 a4:=Tryz.isAgg4
 z4:=Tryz.sizeOf4
 v4:=Tryz.zeroValue4
 t5:=Tryz.underlying5
 a5:=Tryz.isAgg5
 z5:=Tryz.sizeOf5
 v5:=Tryz.zeroValue5
 t9:=Tryz.underlying9
 a9:=Tryz.isAgg9
 z9:=Tryz.sizeOf9
 v9:=Tryz.zeroValue9
 t21:=Tryz.underlying21
 a21:=Tryz.isAgg21
 z21:=Tryz.sizeOf21
 v21:=Tryz.zeroValue21
 t46:=Tryz.underlying128
 a46:=Tryz.isAgg128
 z46:=Tryz.sizeOf128
 v46:=Tryz.zeroValue128
 t116:=Tryz.underlying170
 a116:=Tryz.isAgg170
 z116:=Tryz.sizeOf170
 t117:=Tryz.underlying171
 a117:=Tryz.isAgg171
 z117:=Tryz.sizeOf171
 v117:=Tryz.zeroValue171
 t124:=Tryz.underlying181
 a124:=Tryz.isAgg181
 z124:=Tryz.sizeOf181
 v124:=Tryz.zeroValue181 }
open Go.RowKit Go.Lib in
theorem Tryz.strings_IndexAny_long (hv116:∀ w,(zeroValue 170).run Tryz.prog w=.ok (.agg (Array.replicate 256 (.bool false))) w) (s chars:ByteArray) (w:World) (h2:2≤chars.size) (h8:8<s.size) (hs:s.size<4294967281) (hcs:chars.size<4294967281) (hascii:∀ (j:Nat) b,chars.data.toList[j]?=some b→b.toNat<128) :
  Calls Tryz.prog 98 #[.string s,.string chars] w fun e w' => e=.returned (.int .i64 (Lib.indexAny s.data.toList chars.data.toList))∧w' = ((w.alloc (.cells (Lib.setCells chars.data.toList) 170)).alloc (.cells (Lib.setCells chars.data.toList) 170)):=Any.strings_IndexAny_long Tryz.lays153 hv116 (by kernel_rfl) s chars w h2 h8 hs hcs hascii
def Tryz.laysM171_ren:Go.Shelf.Ren:=⟨fun | 171=>90 | 243=>111 | 246=>131 | 283=>143 | 284=>144 | 285=>145 | 286=>146 | 129=>156 | 317=>155 | 318=>157 | 319=>158 | 320=>159 | 337=>163 | 338=>164 | n=>n,fun | 3=>3 | 9=>9 | 2=>2 | 4=>4 | 171=>188 | 0=>0 | 53=>60 | 37=>71 | 5=>5 | 173=>191 | 212=>204 | 51=>194 | 20=>20 | 213=>205 | 46=>128 | 232=>217 | 233=>218 | n=>n,fun | 17=>3 | 18=>6 | 19=>7 | n=>n⟩
theorem Tryz.laysM171:Go.Proofs.LaysM.n171 Tryz.prog Tryz.laysM171_ren:={
 mixed:=by kernel_rfl
 f129:=Tryz.func156.trans (congrArg some (by kernel_rfl))
 f171:=Tryz.func90.trans (congrArg some (by kernel_rfl))
 f243:=Tryz.func111.trans (congrArg some (by kernel_rfl))
 f246:=Tryz.func131.trans (congrArg some (by kernel_rfl))
 f283:=Tryz.func143.trans (congrArg some (by kernel_rfl))
 f284:=Tryz.func144.trans (congrArg some (by kernel_rfl))
 f285:=Tryz.func145.trans (congrArg some (by kernel_rfl))
 f286:=Tryz.func146.trans (congrArg some (by kernel_rfl))
 f317:=Tryz.func155.trans (congrArg some (by kernel_rfl))
 f318:=Tryz.func157.trans (congrArg some (by kernel_rfl))
 f319:=Tryz.func158.trans (congrArg some (by kernel_rfl))
 f320:=Tryz.func159.trans (congrArg some (by kernel_rfl))
 f337:=Tryz.func163.trans (congrArg some (by kernel_rfl))
 f338:=Tryz.func164.trans (congrArg some (by kernel_rfl))
 t0:=Tryz.underlying0
 a0:=Tryz.isAgg0
 z0:=Tryz.sizeOf0
 v0:=Tryz.zeroValue0
 t2:=Tryz.underlying2
 a2:=Tryz.isAgg2
 z2:=Tryz.sizeOf2
 v2:=Tryz.zeroValue2
 t3:=Tryz.underlying3
 a3:=Tryz.isAgg3
 z3:=Tryz.sizeOf3
 v3:=Tryz.zeroValue3
 t4:=Tryz.underlying4
 a4:=Tryz.isAgg4
 z4:=Tryz.sizeOf4
 v4:=Tryz.zeroValue4
 t5:=Tryz.underlying5
 a5:=Tryz.isAgg5
 z5:=Tryz.sizeOf5
 v5:=Tryz.zeroValue5
 t9:=Tryz.underlying9
 a9:=Tryz.isAgg9
 z9:=Tryz.sizeOf9
 v9:=Tryz.zeroValue9
 t20:=Tryz.underlying20
 a20:=Tryz.isAgg20
 z20:=Tryz.sizeOf20
 v20:=Tryz.zeroValue20
 t37:=Tryz.underlying71
 a37:=Tryz.isAgg71
 z37:=Tryz.sizeOf71
 v37:=Tryz.zeroValue71
 t46:=Tryz.underlying128
 a46:=Tryz.isAgg128
 z46:=Tryz.sizeOf128
 v46:=Tryz.zeroValue128
 t51:=Tryz.underlying194
 a51:=Tryz.isAgg194
 z51:=Tryz.sizeOf194
 v51:=Tryz.zeroValue194
 t53:=Tryz.underlying60
 a53:=Tryz.isAgg60
 z53:=Tryz.sizeOf60
 v53:=Tryz.zeroValue60
 t171:=Tryz.underlying188
 a171:=Tryz.isAgg188
 z171:=Tryz.sizeOf188
 v171:=Tryz.zeroValue188
 t173:=Tryz.underlying191
 a173:=Tryz.isAgg191
 z173:=Tryz.sizeOf191
 v173:=Tryz.zeroValue191
 t212:=Tryz.underlying204
 a212:=Tryz.isAgg204
 z212:=Tryz.sizeOf204
 v212:=Tryz.zeroValue204
 t213:=Tryz.underlying205
 a213:=Tryz.isAgg205
 z213:=Tryz.sizeOf205
 t232:=Tryz.underlying217
 a232:=Tryz.isAgg217
 z232:=Tryz.sizeOf217
 v232:=Tryz.zeroValue217
 t233:=Tryz.underlying218
 a233:=Tryz.isAgg218
 z233:=Tryz.sizeOf218
 v233:=Tryz.zeroValue218
 g17:=by kernel_rfl
 g18:=by kernel_rfl
 g19:=by kernel_rfl
 i0:=by kernel_rfl
 i2:=by kernel_rfl
 i3:=by kernel_rfl
 i4:=by kernel_rfl
 i5:=by kernel_rfl
 i9:=by kernel_rfl
 i20:=by kernel_rfl
 i37:=by kernel_rfl
 i46:=by kernel_rfl
 i51:=by kernel_rfl
 i53:=by kernel_rfl
 i171:=by kernel_rfl
 i173:=by kernel_rfl
 i212:=by kernel_rfl
 i232:=by kernel_rfl
 i233:=by kernel_rfl
 m17:=by kernel_rfl
 m18:=by kernel_rfl
 m19:=by kernel_rfl }
open Go.RowKit Go.Sort Go.Lib in
theorem Tryz.strconv_Itoa (n : Int) (h0 : -9223372036854775808 ≤ n) (h1 : n ≤ 9223372036854775807) (w : World) (htab : Lib.TabIs Tryz.prog w "internal/strconv.uint64pow10" .u64 Lib.pow10Tab) :
  Calls Tryz.prog 90 #[.int .i64 n] w fun e w' => e = .returned (.string ⟨(Lib.itoa n).toArray⟩) ∧ ∃ k os, w' = grow (w.drewN k) os := Any.strconv_Itoa Tryz.laysM171 n h0 h1 w htab
def Tryz.laysC172_ren:Go.Shelf.Ren:=⟨fun | 172=>127 | 244=>140 | 245=>141 | 247=>150 | 279=>151 | 280=>152 | 281=>153 | 282=>154 | 287=>160 | 316=>161 | 171=>90 | 205=>162 | 321=>165 | 322=>166 | 243=>111 | 246=>131 | 283=>143 | 284=>144 | 285=>145 | 286=>146 | 129=>156 | 317=>155 | 318=>157 | 319=>158 | 320=>159 | 337=>163 | 338=>164 | n=>n,fun | 9=>9 | 3=>3 | 75=>99 | 76=>100 | 4=>4 | 5=>5 | 167=>197 | 37=>71 | 0=>0 | 85=>198 | 2=>2 | 168=>200 | 53=>60 | 175=>207 | 46=>128 | 210=>210 | 127=>130 | 145=>216 | 143=>214 | 21=>21 | 171=>188 | 173=>191 | 212=>204 | 51=>194 | 20=>20 | 213=>205 | 232=>217 | 233=>218 | 80=>104 | n=>n,fun | 15=>4 | 16=>5 | 17=>3 | 18=>6 | 19=>7 | n=>n⟩
theorem Tryz.laysC172:Go.Proofs.LaysC.n172 Tryz.prog Tryz.laysC172_ren:={
 mixed:=by kernel_rfl
 f129:=Tryz.func156.trans (congrArg some (by kernel_rfl))
 f171:=Tryz.func90.trans (congrArg some (by kernel_rfl))
 f172:=Tryz.func127.trans (congrArg some (by kernel_rfl))
 f205:=Tryz.func162.trans (congrArg some (by kernel_rfl))
 f243:=Tryz.func111.trans (congrArg some (by kernel_rfl))
 f244:=Tryz.func140.trans (congrArg some (by kernel_rfl))
 f245:=Tryz.func141.trans (congrArg some (by kernel_rfl))
 f246:=Tryz.func131.trans (congrArg some (by kernel_rfl))
 f247:=Tryz.func150.trans (congrArg some (by kernel_rfl))
 f279:=Tryz.func151.trans (congrArg some (by kernel_rfl))
 f280:=Tryz.func152.trans (congrArg some (by kernel_rfl))
 f281:=Tryz.func153.trans (congrArg some (by kernel_rfl))
 f282:=Tryz.func154.trans (congrArg some (by kernel_rfl))
 f283:=Tryz.func143.trans (congrArg some (by kernel_rfl))
 f284:=Tryz.func144.trans (congrArg some (by kernel_rfl))
 f285:=Tryz.func145.trans (congrArg some (by kernel_rfl))
 f286:=Tryz.func146.trans (congrArg some (by kernel_rfl))
 f287:=Tryz.func160.trans (congrArg some (by kernel_rfl))
 f316:=Tryz.func161.trans (congrArg some (by kernel_rfl))
 f317:=Tryz.func155.trans (congrArg some (by kernel_rfl))
 f318:=Tryz.func157.trans (congrArg some (by kernel_rfl))
 f319:=Tryz.func158.trans (congrArg some (by kernel_rfl))
 f320:=Tryz.func159.trans (congrArg some (by kernel_rfl))
 f321:=Tryz.func165.trans (congrArg some (by kernel_rfl))
 f322:=Tryz.func166.trans (congrArg some (by kernel_rfl))
 f337:=Tryz.func163.trans (congrArg some (by kernel_rfl))
 f338:=Tryz.func164.trans (congrArg some (by kernel_rfl))
 t0:=Tryz.underlying0
 a0:=Tryz.isAgg0
 z0:=Tryz.sizeOf0
 v0:=Tryz.zeroValue0
 t2:=Tryz.underlying2
 a2:=Tryz.isAgg2
 z2:=Tryz.sizeOf2
 v2:=Tryz.zeroValue2
 t3:=Tryz.underlying3
 a3:=Tryz.isAgg3
 z3:=Tryz.sizeOf3
 v3:=Tryz.zeroValue3
 t4:=Tryz.underlying4
 a4:=Tryz.isAgg4
 z4:=Tryz.sizeOf4
 v4:=Tryz.zeroValue4
 t5:=Tryz.underlying5
 a5:=Tryz.isAgg5
 z5:=Tryz.sizeOf5
 v5:=Tryz.zeroValue5
 t9:=Tryz.underlying9
 a9:=Tryz.isAgg9
 z9:=Tryz.sizeOf9
 v9:=Tryz.zeroValue9
 t20:=Tryz.underlying20
 a20:=Tryz.isAgg20
 z20:=Tryz.sizeOf20
 v20:=Tryz.zeroValue20
 t21:=Tryz.underlying21
 a21:=Tryz.isAgg21
 z21:=Tryz.sizeOf21
 v21:=Tryz.zeroValue21
 t37:=Tryz.underlying71
 a37:=Tryz.isAgg71
 z37:=Tryz.sizeOf71
 v37:=Tryz.zeroValue71
 t46:=Tryz.underlying128
 a46:=Tryz.isAgg128
 z46:=Tryz.sizeOf128
 v46:=Tryz.zeroValue128
 t51:=Tryz.underlying194
 a51:=Tryz.isAgg194
 z51:=Tryz.sizeOf194
 v51:=Tryz.zeroValue194
 t53:=Tryz.underlying60
 a53:=Tryz.isAgg60
 z53:=Tryz.sizeOf60
 v53:=Tryz.zeroValue60
 t75:=Tryz.underlying99
 a75:=Tryz.isAgg99
 z75:=Tryz.sizeOf99
 v75:=Tryz.zeroValue99
 t76:=Tryz.underlying100
 a76:=Tryz.isAgg100
 z76:=Tryz.sizeOf100
 v76:=Tryz.zeroValue100
 t85:=Tryz.underlying198
 a85:=Tryz.isAgg198
 z85:=Tryz.sizeOf198
 v85:=Tryz.zeroValue198
 t127:=Tryz.underlying130
 a127:=Tryz.isAgg130
 z127:=Tryz.sizeOf130
 v127:=Tryz.zeroValue130
 t143:=Tryz.underlying214
 a143:=Tryz.isAgg214
 z143:=Tryz.sizeOf214
 v143:=Tryz.zeroValue214
 t145:=Tryz.underlying216
 a145:=Tryz.isAgg216
 z145:=Tryz.sizeOf216
 v145:=Tryz.zeroValue216
 t167:=Tryz.underlying197
 a167:=Tryz.isAgg197
 z167:=Tryz.sizeOf197
 v167:=Tryz.zeroValue197
 t168:=Tryz.underlying200
 a168:=Tryz.isAgg200
 z168:=Tryz.sizeOf200
 v168:=Tryz.zeroValue200
 t171:=Tryz.underlying188
 a171:=Tryz.isAgg188
 z171:=Tryz.sizeOf188
 v171:=Tryz.zeroValue188
 t173:=Tryz.underlying191
 a173:=Tryz.isAgg191
 z173:=Tryz.sizeOf191
 v173:=Tryz.zeroValue191
 t175:=Tryz.underlying207
 a175:=Tryz.isAgg207
 z175:=Tryz.sizeOf207
 v175:=Tryz.zeroValue207
 t210:=Tryz.underlying210
 a210:=Tryz.isAgg210
 z210:=Tryz.sizeOf210
 v210:=Tryz.zeroValue210
 t212:=Tryz.underlying204
 a212:=Tryz.isAgg204
 z212:=Tryz.sizeOf204
 v212:=Tryz.zeroValue204
 t213:=Tryz.underlying205
 a213:=Tryz.isAgg205
 z213:=Tryz.sizeOf205
 t232:=Tryz.underlying217
 a232:=Tryz.isAgg217
 z232:=Tryz.sizeOf217
 v232:=Tryz.zeroValue217
 t233:=Tryz.underlying218
 a233:=Tryz.isAgg218
 z233:=Tryz.sizeOf218
 v233:=Tryz.zeroValue218
 g15:=by kernel_rfl
 g16:=by kernel_rfl
 g17:=by kernel_rfl
 g18:=by kernel_rfl
 g19:=by kernel_rfl
 t80:=Tryz.underlying104
 a80:=Tryz.isAgg104
 z80:=Tryz.sizeOf104
 v80:=Tryz.zeroValue104
 i0:=by kernel_rfl
 i2:=by kernel_rfl
 i3:=by kernel_rfl
 i4:=by kernel_rfl
 i5:=by kernel_rfl
 i9:=by kernel_rfl
 i20:=by kernel_rfl
 i21:=by kernel_rfl
 i37:=by kernel_rfl
 i46:=by kernel_rfl
 i51:=by kernel_rfl
 i53:=by kernel_rfl
 i75:=by kernel_rfl
 i76:=by kernel_rfl
 i80:=by kernel_rfl
 i85:=by kernel_rfl
 i127:=by kernel_rfl
 i143:=by kernel_rfl
 i145:=by kernel_rfl
 i167:=by kernel_rfl
 i168:=by kernel_rfl
 i171:=by kernel_rfl
 i173:=by kernel_rfl
 i175:=by kernel_rfl
 i210:=by kernel_rfl
 i212:=by kernel_rfl
 i232:=by kernel_rfl
 i233:=by kernel_rfl
 m15:=by kernel_rfl
 m16:=by kernel_rfl
 m17:=by kernel_rfl
 m18:=by kernel_rfl
 m19:=by kernel_rfl
 c0:=by kernel_rfl
 c2:=by kernel_rfl
 c3:=by kernel_rfl
 c4:=by kernel_rfl
 c5:=by kernel_rfl
 c9:=by kernel_rfl
 c20:=by kernel_rfl
 c21:=by kernel_rfl
 c37:=by kernel_rfl
 c46:=by kernel_rfl
 c51:=by kernel_rfl
 c53:=by kernel_rfl
 c75:=by kernel_rfl
 c76:=by kernel_rfl
 c80:=by kernel_rfl
 c85:=by kernel_rfl
 c127:=by kernel_rfl
 c143:=by kernel_rfl
 c145:=by kernel_rfl
 c167:=by kernel_rfl
 c168:=by kernel_rfl
 c171:=by kernel_rfl
 c173:=by kernel_rfl
 c175:=by kernel_rfl
 c210:=by kernel_rfl
 c212:=by kernel_rfl
 c213:=by kernel_rfl
 c232:=by kernel_rfl
 c233:=by kernel_rfl }
open Go.RowKit in
theorem Tryz.strconv_Atoi_ok (s:ByteArray) (hmax:s.size≤9223372036854775806) (v:Int) (h:Lib.atoiAll s.data.toList=.ok v) (w:World) :
  Calls Tryz.prog 127 #[.string s] w fun e w' => e=.returned (.tuple #[.int .i64 v,.nilIface])∧(w' = w∨∃ t,w' = Lib.bytesWorld w 5 t):=Any.strconv_Atoi_ok Tryz.laysC172 s hmax v h w
open Go.RowKit in
theorem Tryz.strconv_Atoi_syntax (s:ByteArray) (hlim:s.size≤281474976710656) (h:Lib.atoiAll s.data.toList=Lib.atoiAll []) (ev:Value) (w:World) (hv:w.cell? ⟨4,0,none⟩=some ev) (hev:ev=.nilIface∨∃ te pe,ev=.iface te pe) :
  Calls Tryz.prog 127 #[.string s] w fun e w' => ∃ N,e=.returned (.tuple #[.int .i64 (0),.iface 200 (.pointer (some ⟨N,0,none⟩))])∧w.heap.size≤N∧w'.heap[N]?=some (.cells #[.string ⟨#[65,116,111,105]⟩,.string s,ev] 210 (0,0))∧Below w.heap.size w w' := Any.strconv_Atoi_syntax Tryz.laysC172 s hlim (h.trans rfl) ev w hv hev
open Go.RowKit in
theorem Tryz.strconv_Atoi_range (s:ByteArray) (hlim:s.size≤281474976710656) (h:Lib.atoiAll s.data.toList=.range) (ev:Value) (w:World) (hv:w.cell? ⟨5,0,none⟩=some ev) (hev:ev=.nilIface∨∃ te pe,ev=.iface te pe) :
  Calls Tryz.prog 127 #[.string s] w fun e w' => ∃ N,e=.returned (.tuple #[.int .i64 (Lib.atoiSat s.data.toList),.iface 200 (.pointer (some ⟨N,0,none⟩))])∧w.heap.size≤N∧w'.heap[N]?=some (.cells #[.string ⟨#[65,116,111,105]⟩,.string s,ev] 210 (0,0))∧Below w.heap.size w w' := Any.strconv_Atoi_range Tryz.laysC172 s hlim h ev w hv hev
end Go.Proofs.YtgaehhechonegaaGreatDoor
namespace Go.Proofs.YtgaehhechonegaaGreatDoor
open Go.RowKit
open Go.Lib (index hasPrefix trimPrefix cut indexAny)
theorem of_bs (s:ByteArray):(⟨s.data.toList.toArray⟩:ByteArray)=s:=by cases s; rfl
theorem Vl.tup2 {w:World} {S:Nat→Prop} {ρ:Rho} {x y:AV} {u v:Value} (h:Vl1 w S ρ x u) (k:Vl1 w S ρ y v):Vl w S ρ (.tup [x,y]) (.tuple #[u,v]) :=
 ⟨[u,v],rfl,rfl,fun i hi=>by
  match i,hi with
  | 0,_=>exact h
  | 1,_=>exact k⟩
theorem Vl.tup3 {w:World} {S:Nat→Prop} {ρ:Rho} {x y z:AV} {u v t:Value} (h:Vl1 w S ρ x u) (k:Vl1 w S ρ y v) (m:Vl1 w S ρ z t):Vl w S ρ (.tup [x,y,z]) (.tuple #[u,v,t]) :=
 ⟨[u,v,t],rfl,rfl,fun i hi=>by
  match i,hi with
  | 0,_=>exact h
  | 1,_=>exact k
  | 2,_=>exact m⟩
def unS:AV→List UInt8
 | .str l=>l
 | _=>[]
theorem unS_map (ps:List (List UInt8)):(ps.map AV.str).map unS=ps:=by rw [List.map_map]; simp [unS,Function.comp_def]
end Go.Proofs.YtgaehhechonegaaGreatDoor
namespace Go.Proofs.YtgaehhechonegaaGreatDoor
open Go.RowKit
def asciiB (p:List UInt8):Bool:=p.all (fun b=>decide (b.toNat<128)) && decide (2≤p.length) && decide (p.length≤8)
structure AsciiSet (C:ByteArray):Prop where
 low:∀ b∈C.data.toList,b.toNat<128
 two:2≤C.size
 few:C.size≤8
theorem asciiSet_of {p:List UInt8} (h:asciiB p=true):AsciiSet ⟨p.toArray⟩:=by
 simp only [asciiB,Bool.and_eq_true,List.all_eq_true,decide_eq_true_eq] at h
 exact ⟨h.1.1,h.1.2,h.2⟩
section
variable {C : ByteArray} (hA : AsciiSet C)
include hA
theorem set_hi (b:UInt8) (hb:128≤b.toNat):C.data.toList.contains b=false:=by
 rw [Bool.eq_false_iff]
 intro h
 have:=hA.low b (by simpa using h)
 omega
theorem set_get (i:Nat) (h:i<C.size):(C[i]'h).toNat<128:=by
 refine hA.low _ ?_
 have:=Lib.data_getElem? C i h
 exact List.mem_of_getElem? this
theorem ibS (n:Nat) (b:UInt8) (hb:128≤b.toNat):Lib.indexByte (List.take (C.size - (n+1)) (List.drop (n+1) C.data.toList)) b = -1:=by
 have gen:∀ l:List UInt8,(∀ x∈l,x.toNat<128)→Lib.indexByte l b = -1:=by
  intro l
  induction l with
  | nil=>intro _; rfl
  | cons x l ih =>
   intro h
   have hx:=h x (by simp)
   have e:(x == b)=false:=beq_eq_false_iff_ne.2 (by rintro rfl; omega)
   simp [Lib.indexByte,e,ih fun y hy=>h y (by simp [hy])]
 exact gen _ fun x hx=>hA.low x (List.mem_of_mem_drop (List.mem_of_mem_take hx))
end
theorem encode_hi (r:Int) (h:128≤r):∃ l:List UInt8,(Utf8.encode r).data.toList=l∧2≤l.length∧l.length≤4∧128≤(l.getD (l.length - 1) 0).toNat:=by
 refine ⟨_,rfl,?_⟩
 unfold Utf8.encode
 dsimp only
 have hc:128≤(if Utf8.valid r=true then r.toNat else Utf8.runeError):=by
  split
  ·omega
  ·decide
 generalize (if Utf8.valid r=true then r.toNat else Utf8.runeError)=c at *
 by_cases h2:c<2048
 ·simp [show ¬ c<128 by omega,h2]; omega
 ·by_cases h3:c<65536
  ·simp [show ¬ c<128 by omega,h2,h3]; omega
  ·simp [show ¬ c<128 by omega,h2,h3]; omega
set_option maxHeartbeats 2000000 in
set_option maxRecDepth 1000000 in
theorem indexRune_err {C:ByteArray} (hA:AsciiSet C) (w:World) :
  Calls Tryz.prog 118 #[.string C,.int .i32 65533] w fun e w' => e=.returned (.int .i64 (-1))∧Below w.heap.size w w' := by
 have HA:Aside (AsciiSet C):=hA
 clear hA
 go_enter Tryz.func118,Tryz.ntmps118
 go_wp2
 go_loopg [5,6] C.size (fun g _ _ wx=>∃ i:Nat,i+g=C.size∧wx=w.iter C i)
 case atStart=>exact ⟨0,by omega,rfl⟩
 case round =>
  obtain ⟨i,hig,rfl⟩:=hrel
  cases gk with
  | zero =>
   obtain rfl:i=C.size:=by omega
   have hnx:=fun ty=>run_next_end (P:=Tryz.prog) w C C.size ty (by omega)
   go_wp2
   go_ret
   exact ⟨rfl,(Below.refl _ _).alloc (Nat.le_refl _) _⟩
  | succ g =>
   have hlt:i<C.size:=by omega
   have hnx:=fun ty=>run_next_ascii (P:=Tryz.prog) w C i ty hlt (set_get HA.out i hlt)
   obtain ⟨z,hz⟩:∃ z:Int,((C[i]'hlt).toNat:Int)=z:=⟨_,rfl⟩
   have hz2:z<128:=by have:=set_get HA.out i hlt; omega
   rw [hz] at hnx
   clear hz
   have hne:(z == (65533:Int))=false:=beq_eq_false_iff_ne.2 (by omega)
   have hne2:decide (z=(65533:Int))=false:=decide_eq_false (by omega)
   go_wp2
   go_roundg g
   case measure=>omega
   case rel=>exact ⟨i+1,by omega,rfl⟩
set_option maxHeartbeats 2000000 in
set_option maxRecDepth 1000000 in
theorem indexRune_far {C:ByteArray} (hA:AsciiSet C) (r:Int) (w:World) (h0:128≤r) (h1:r≤2147483647) (h2:r≠65533) :
  Calls Tryz.prog 118 #[.string C,.int .i32 r] w fun e w' => e=.returned (.int .i64 (-1))∧Below w.heap.size w w' := by
 obtain ⟨l,hl,l1,l2,l3⟩:=encode_hi r h0
 obtain ⟨E,hE⟩:∃ E,Utf8.encode r=E:=⟨_,rfl⟩
 rw [hE] at hl
 have hsz:E.size=l.length:=by rw [← hl]; exact Lib.size_eq E
 have d0:decide ((0:Int)≤r)=true:=decide_eq_true (by omega)
 have d1:decide (r<(128:Int))=false:=decide_eq_false (by omega)
 have d2:(r == (65533:Int))=false:=beq_eq_false_iff_ne.2 h2
 obtain ⟨b,hb⟩:∃ b:UInt8,l.getD (l.length - 1) 0=b:=⟨_,rfl⟩
 rw [hb] at l3
 have hc0:(l.length:Int) - 1=((l.length - 1:Nat):Int):=by omega
 have hix:∀ w,(Instr.index 9 (.string E) (.int .i64 ((l.length - 1:Nat):Int))).run Tryz.prog w=.ok (.int .u8 (b.toNat:Int)) w:=by
  intro w
  have hlt:l.length - 1<E.size:=by omega
  have hget:E[l.length - 1]=b:=by
   have h:=Lib.data_getElem? E (l.length - 1) hlt
   rw [hl] at h
   rw [← hb,List.getD_eq_getElem?_getD,h]; rfl
  rw [run_index_string w 9 E .i64 _ Tryz.underlying9]
  have hw1:(0:Int)≤((l.length - 1:Nat):Int):=by omega
  simp [hw1,hlt,hget]
 have hsx:l.length - 1<C.size→∃ c:Int,c<128∧∀ w,(Instr.index 9 (.string C) (.int .i64 ((l.length - 1:Nat):Int))).run Tryz.prog w=.ok (.int .u8 c) w:=by
  generalize l.length - 1=n
  intro h
  refine ⟨((C[n]'h).toNat:Int),by have:=set_get hA n h; omega,fun w=>?_⟩
  rw [run_index_string w 9 C .i64 _ Tryz.underlying9]
  have hw1:(0:Int)≤(n:Int):=by omega
  simp [hw1,h]
 have HA:Aside (AsciiSet C):=hA
 clear hA
 have hcv:∀ w,(convert 21 9 (.int .i32 r)).run Tryz.prog w=.ok (.string E) w:=by
  intro w; rw [run_convert_int_string w _ _ .i32 r (by kernel_rfl) Tryz.underlying9,hE]
 cases hv:Lib.validRune r with
 | false =>
  go_enter Tryz.func118,Tryz.ntmps118
  go_wp2_with (at_builtin; refine stopAt ?_)
  refine (Tryz.utf8_ValidRune _ _).mono ?_
  rintro e w' ⟨rfl,rfl⟩
  rw [hv]
  go_wp2
  go_ret
  exact ⟨rfl,Below.refl _ _⟩
 | true =>
  go_enter Tryz.func118,Tryz.ntmps118
  go_wp2_with (at_builtin; refine stopAt ?_)
  refine (Tryz.utf8_ValidRune _ _).mono ?_
  rintro e w' ⟨rfl,rfl⟩
  rw [hv]
  go_wp2
  apply wp_scope_straight
  go_wp2
  obtain ⟨n,hn⟩:∃ n,l.length - 1=n:=⟨_,rfl⟩
  rw [hn] at hix hsx
  rw [hn]
  have hn4:n<4:=by omega
  clear hl hsz hcv hc0 d0 d1 d2 hE hb
  go_loopw [9] (fun i wr=>i=.int .i64 (n:Int)∧wr=w') (fun _ _=>0)
  case atStart=>exact ⟨rfl,rfl⟩
  case round =>
   obtain ⟨rfl,rfl⟩:=hrel
   by_cases h3:n<C.size
   ·have d3:decide ((n:Int)<(C.size:Int))=true:=decide_eq_true (by omega)
    obtain ⟨c,hcl,hcx⟩:=hsx h3
    have hne:(c != (b.toNat:Int))=true:=by simp; omega
    have hib:=ibS HA.out n b l3
    have hw1:IntKind.i64.wrap ((n:Int)+1)=(n:Int)+1:=IntWalk.i64_in _ (by omega)
    have hn0:(0:Int)≤(n:Int)+1:=by omega
    have hn1:((n:Int)+1).toNat=n+1:=by omega
    have hn2:(n:Int)+1≤(C.size:Int):=by omega
    have hsl:∀ w,(Instr.slice 9 (.string C) (some (.int .i64 ((n:Int)+1))) none none).run Tryz.prog w=.ok (.string (C.extract (n+1) C.size)) w:=by
     intro w; rw [run_slice_string_l w _ _ Tryz.underlying9 .i64 _ hn0 hn2,hn1]
    go_wp2
    apply wp_scope_straight
    go_wp2
    go_quiet (fail)
    go_wp2
    go_quiet (exact (Tryz.strings_IndexByte _ _ _).mono fun e w' ⟨h1,h2⟩=>⟨h1,_,h2⟩)
    go_wp2
    repeat (first | rw [Exit.noGoto_ret] | rw [show ∀ (k:Nat) (Q:Exit→Act→World→Prop),Exit.inBlock k Q .ret=Q .ret from fun _ _=>rfl])
    simp +zetaDelta only [Exit.noGoto_ret,Exit.inBlock,Exit.then]
    go_ret
    exact ⟨rfl,belowN (Below.refl _ _) _⟩
   ·have d3:decide ((n:Int)<(C.size:Int))=false:=decide_eq_false (by omega)
    go_wp2
    simp only [Exit.noGoto_ret]
    go_ret
    exact ⟨rfl,Below.refl _ _⟩
theorem indexRune_hi {C:ByteArray} (hA:AsciiSet C) (r:Int) (w:World) (h0:128≤r) (h1:r≤2147483647) :
  Calls Tryz.prog 118 #[.string C,.int .i32 r] w fun e w' => e=.returned (.int .i64 (-1))∧Below w.heap.size w w' := by
 by_cases h2:r=65533
 ·subst h2; exact indexRune_err hA w
 ·exact indexRune_far hA r w h0 h1 h2
theorem decode_span (s:ByteArray) (pos:Nat) (h:pos<s.size) (ha:128≤(s[pos]'h).toNat):∀ k,k<(Utf8.decode s pos).2→pos+k<s.size∧128≤(s.get! (pos+k)).toNat:=by
 have h0:pos+0<s.size∧128≤(s.get! (pos+0)).toNat:=⟨h,by rw [get_at s pos h]; exact ha⟩
 have hc:∀ k,(decide (pos+k<s.size) && (s.get! (pos+k)).toNat / 64 == 2)=true→pos+k<s.size∧128≤(s.get! (pos+k)).toNat:=by
  intro k hk
  simp only [Bool.and_eq_true,decide_eq_true_eq,beq_iff_eq] at hk
  exact ⟨hk.1,by omega⟩
 have hn:¬ (s[pos]'h).toNat<128:=by omega
 have key:∀ n,n=(Utf8.decode s pos).2→∀ k,k<n→pos+k<s.size∧128≤(s.get! (pos+k)).toNat:=by
  intro n
  simp only [Utf8.decode,get_at s pos h,hn,if_false]
  repeat' split
  all_goals (
   rintro rfl k hk
   simp only [Bool.and_eq_true] at *
   match k,hk with
   | 0,_=>exact h0
   | 1,_=>first | omega | exact hc 1 (by simp_all)
   | 2,_=>first | omega | exact hc 2 (by simp_all)
   | 3,_=>first | omega | exact hc 3 (by simp_all)
   | k+4,_=>omega)
 exact key _ rfl
theorem getB (s:ByteArray) (j:Nat) (h:j<s.size):s.data.toList[j]?=some (s.get! j):=by
 rw [Lib.data_getElem? s j h]
 congr 1
 have:=get_at s j h
 rw [Nat.add_zero] at this
 exact this.symm
theorem run_next_at (wx:World) (k:Nat) (s:ByteArray) (pos:Nat) (ty:TypeId) (hk:wx.heap[k]?=some (.stringIter s pos)) (h:pos<s.size) :
  (Instr.next (.pointer (some ⟨k,0,none⟩)) true ty).run Tryz.prog wx =
   .ok (.tuple #[.bool true,.int .i64 pos,.int .i32 (Utf8.decode s pos).1]) { wx with heap:=wx.heap.setIfInBounds k (.stringIter s (pos+(Utf8.decode s pos).2)) }:=by
 simp only [Instr.next,getObj,setObj,Sem.run_bind,Sem.run,hk,Result.andThen,h,if_true]
 simp [goInt]
theorem run_next_stop (wx:World) (k:Nat) (s:ByteArray) (pos:Nat) (ty:TypeId) (hk:wx.heap[k]?=some (.stringIter s pos)) (h:¬ pos<s.size) :
  (Instr.next (.pointer (some ⟨k,0,none⟩)) true ty).run Tryz.prog wx=.ok (.tuple #[.bool false]) wx:=by
 simp [Instr.next,getObj,Sem.run,hk,h]
theorem below_iter {w wx:World} {k:Nat} {o:Obj} (h:Below w.heap.size w wx) (hk:w.heap.size≤k):Below w.heap.size w { wx with heap:=wx.heap.setIfInBounds k o } :=
 ⟨h.os,h.tape,h.output,by simpa using h.size,fun j hj=>by rw [← h.block j hj]; simp [show k≠j by omega]⟩
set_option maxHeartbeats 8000000 in
set_option maxRecDepth 1000000 in
theorem indexAny_short {C:ByteArray} (hA:AsciiSet C) (s:ByteArray) (w:World) (h8:s.size≤8) :
  Calls Tryz.prog 98 #[.string s,.string C] w fun e w' => e=.returned (.int .i64 (Lib.indexAny s.data.toList C.data.toList))∧Below w.heap.size w w' := by
 have htwo:=hA.two
 have hemp:C.toList.isEmpty=false:=by
  rw [Lib.toList_data]
  cases h:C.data.toList with
  | nil=>have:=Lib.size_eq C; rw [h,List.length_nil] at this; omega
  | cons=>rfl
 have hn1:((C.size:Int) == 1)=false:=by
  rw [beq_eq_false_iff_ne]
  intro h
  have h:(C.size:Int)=1:=h
  omega
 have HA:Aside (AsciiSet C):=hA
 clear hA htwo
 have h8z:decide ((8:Int)<(s.size:Int))=false:=decide_eq_false (by omega)
 go_enter Tryz.func98,Tryz.ntmps98
 go_wp2_with (at_builtin; refine stopAt ?_)
 refine (Tryz.strings_shouldUseASCIISet _ _).mono ?_
 rintro e w' ⟨rfl,rfl⟩
 rw [h8z]
 go_wp2
 have hlen:s.data.toList.length=s.size:=(Lib.size_eq s).symm
 go_loopg [9,10] s.size (fun g _ _ wx=>∃ p:Nat,p+g=s.size∧Below w'.heap.size w' wx∧wx.heap[w'.heap.size]?=some (.stringIter s p)∧Lib.NoAny s.data.toList C.data.toList p)
 case atStart=>exact ⟨0,by omega,(Below.refl _ _).alloc (Nat.le_refl _) _,World.iter_heap _ _ _,Lib.NoAny.zero _ _⟩
 case round =>
  obtain ⟨p,hps,hbel,hit,hno⟩:=hrel
  have HN:Aside (Lib.NoAny s.data.toList C.data.toList p):=hno
  have HB:Aside (Below w'.heap.size w' wr):=hbel
  clear hno hbel
  have hlb:w'.heap.size<wr.heap.size:=(Array.getElem?_eq_some_iff.1 hit).1
  by_cases hlt:p<s.size
  ·have hnx:=fun ty=>run_next_at wr w'.heap.size s p ty hit hlt
   obtain ⟨x,hx⟩:∃ x:UInt8,s[p]'hlt=x:=⟨_,rfl⟩
   have hxl:s.data.toList[p]?=some x:=by rw [← hx]; exact Lib.data_getElem? s p hlt
   by_cases hx128:x.toNat<128
   ·have hd:=decode_ascii s p hlt (by rw [hx]; exact hx128)
    rw [hx] at hd
    rw [hd] at hnx
    obtain ⟨wn,hwn⟩:∃ wn:World,{ wr with heap:=wr.heap.setIfInBounds w'.heap.size (.stringIter s (p+1)) }=wn:=⟨_,rfl⟩
    have Hn:Aside (Below w'.heap.size w' wn∧wn.heap[w'.heap.size]?=some (.stringIter s (p+1))):=by
     rw [← hwn]; exact ⟨below_iter HB.out (Nat.le_refl _),by simp [hlb]⟩
    simp only [hwn] at hnx
    have hcon:=Lib.contains_iff_indexByte C.data.toList x
    have hback:((x.toNat:Int)).toNat.toUInt8=x:=by simp
    have Hx:Aside (s.data.toList[p]?=some x):=hxl
    clear hxl hx hd
    cases hin:C.data.toList.contains x with
    | false =>
     rw [hin] at hcon
     have hlt0:decide ((0:Int)≤Lib.indexByte C.data.toList x)=false:=hcon.symm
     clear hcon
     go_wp2_with (at_builtin; refine stopAt ?_)
     refine (Tryz.strings_IndexRune_ascii _ _ _ (by omega) (by omega)).mono ?_
     rintro e w3 ⟨rfl,rfl⟩
     rw [hback]
     go_wp2
     obtain ⟨g,rfl⟩:∃ g,gk=g+1:=⟨gk - 1,by omega⟩
     go_roundg g
     case measure=>omega
     case rel=>exact ⟨p+1,by omega,Hn.out.1,Hn.out.2,HN.out.succ Hx.out hin⟩
    | true =>
     rw [hin] at hcon
     have hlt0:decide ((0:Int)≤Lib.indexByte C.data.toList x)=true:=hcon.symm
     clear hcon
     go_wp2_with (at_builtin; refine stopAt ?_)
     refine (Tryz.strings_IndexRune_ascii _ _ _ (by omega) (by omega)).mono ?_
     rintro e w3 ⟨rfl,rfl⟩
     rw [hback]
     go_wp2
     go_ret
     exact ⟨by rw [Lib.indexAny_hit HN.out Hx.out hin]; rfl,Hn.out.1⟩
   ·have hd:=decode_high s p hlt (by rw [hx]; omega)
    have hsp:=decode_span s p hlt (by rw [hx]; omega)
    have hle:=decode_le s p
    obtain ⟨⟨c,n⟩,hcn⟩:∃ cn,Utf8.decode s p=cn:=⟨_,rfl⟩
    rw [hcn] at hnx hd hsp hle
    simp only at hnx hd hsp hle
    obtain ⟨wn,hwn⟩:∃ wn:World,{ wr with heap:=wr.heap.setIfInBounds w'.heap.size (.stringIter s (p+n)) }=wn:=⟨_,rfl⟩
    have Hn:Aside (Below w'.heap.size w' wn∧wn.heap[w'.heap.size]?=some (.stringIter s (p+n))):=by
     rw [← hwn]; exact ⟨below_iter HB.out (Nat.le_refl _),by simp [hlb]⟩
    simp only [hwn] at hnx
    have HS:Aside (∀ k,k<n→p+k<s.size∧128≤(s.get! (p+k)).toNat):=hsp
    clear hsp hcn hxl hx
    go_wp2_with (at_builtin; refine stopAt ?_)
    refine (indexRune_hi HA.out (c:Int) _ (by omega) (by omega)).mono ?_
    rintro e w3 ⟨rfl,hb3⟩
    have hp:p+n≤s.size:=by have:=(HS.out (n - 1) (by omega)).1; omega
    have Hn3:Aside (Below w'.heap.size w' w3∧w3.heap[w'.heap.size]?=some (.stringIter s (p+n))):=by
     obtain ⟨h1,h2⟩:=Hn.out
     have h3:w'.heap.size<wn.heap.size:=(Array.getElem?_eq_some_iff.1 h2).1
     exact ⟨h1.trans ⟨hb3.os,hb3.tape,hb3.output,hb3.size,fun k hk=>hb3.block k (by omega)⟩,by rw [hb3.block _ h3]; exact h2⟩
    clear hb3
    go_wp2
    obtain ⟨g,hg⟩:∃ g,p+n+g=s.size:=⟨s.size - (p+n),by omega⟩
    go_roundg g
    case measure=>omega
    case rel =>
     refine ⟨p+n,by omega,Hn3.out.1,Hn3.out.2,fun j b hj hb=>?_⟩
     rcases Nat.lt_or_ge j p with h | h
     ·exact HN.out j b h hb
     ·obtain ⟨k,rfl⟩:∃ k,j=p+k:=⟨j - p,by omega⟩
      obtain ⟨k1,k2⟩:=HS.out k (by omega)
      rw [getB s _ k1] at hb
      injection hb with hb
      subst hb
      generalize s.get! (p+k)=b at *
      exact set_hi HA.out b k2
  ·have hnx:=fun ty=>run_next_stop wr w'.heap.size s p ty hit hlt
   obtain rfl:p=s.size:=by omega
   go_wp2
   go_ret
   exact ⟨by rw [Lib.indexAny_none (by rw [← Lib.size_eq]; exact HN.out)]; rfl,HB.out⟩
end Go.Proofs.YtgaehhechonegaaGreatDoor
