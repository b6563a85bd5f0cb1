/-
Contracts of the library's functions at this program, in plain words (the shelf's own theorems, one application each).
-/
import Derived.Shelf.Small.Utf8
import Derived.Shelf.Small.Wraps
import Derived.Shelf.Strings.LastIndex
import Derived.Shelf.Strings.Prefix
import Derived.Shelf.Strings.Search3
import Derived.Shelf.Strings.SlTrimAscii
import Derived.Shelf.Slices.Turned
import Derived.Shelf.Unicode.DecodeAny
import Derived.Shelf.Strings.OnBuilder
import Derived.Shelf.Strings.Replace
import Derived.Shelf.Strings.BuilderK
import Derived.Test.YtdlhiljbhepliaaGreatDoorProg
namespace Go.Proofs
open Go Go.Shelf Go.Lib Go.RowKit
def Tryz.qren:Go.Shelf.Ren:=⟨fun | 99=>117 | 103=>191 | 109=>195 | 110=>164 | 119=>128 | 120=>214 | 137=>118 | 138=>167 | 143=>150 | 144=>115 | 149=>183 | 151=>189 | 152=>213 | 154=>126 | 155=>88 | 156=>61 | 160=>121 | 161=>216 | 165=>93 | 166=>90 | 167=>89 | 169=>92 | 195=>197 | 197=>165 | 206=>151 | 210=>215 | 217=>152 | 218=>198 | 219=>184 | 222=>209 | 224=>211 | 225=>210 | 227=>157 | 228=>188 | 231=>155 | 232=>156 | 233=>158 | 234=>159 | 235=>160 | 236=>161 | 240=>127 | 241=>131 | 260=>196 | 266=>185 | 267=>212 | 271=>190 | 276=>168 | 277=>170 | 314=>230 | n=>n,fun | 0=>0 | 2=>2 | 3=>3 | 4=>4 | 5=>5 | 9=>9 | 20=>20 | 21=>21 | 24=>175 | 31=>32 | 37=>104 | 46=>99 | 51=>216 | 53=>200 | 70=>103 | 72=>106 | 75=>108 | 76=>110 | 80=>100 | 105=>122 | 116=>145 | 117=>146 | 119=>195 | 124=>149 | 127=>136 | 138=>197 | 139=>198 | 146=>217 | 164=>158 | 171=>199 | 173=>203 | 212=>220 | 213=>221 | 232=>238 | 233=>239 | n=>n,fun | 1=>0 | 3=>1 | 4=>2 | 17=>3 | 18=>4 | 19=>5 | n=>n⟩
theorem Tryz.q155:Go.Proofs.Lays.n155 Tryz.prog Tryz.qren:={
 mixed:=by kernel_rfl
 f138:=Tryz.func167.trans (congrArg some (by kernel_rfl))
 f143:=Tryz.func150.trans (congrArg some (by kernel_rfl))
 f154:=Tryz.func126.trans (congrArg some (by kernel_rfl))
 f155:=Tryz.func88.trans (congrArg some (by kernel_rfl))
 f165:=Tryz.func93.trans (congrArg some (by kernel_rfl))
 f166:=Tryz.func90.trans (congrArg some (by kernel_rfl))
 f169:=Tryz.func92.trans (congrArg some (by kernel_rfl))
 f195:=Tryz.func197.trans (congrArg some (by kernel_rfl))
 f197:=Tryz.func165.trans (congrArg some (by kernel_rfl))
 f217:=Tryz.func152.trans (congrArg some (by kernel_rfl))
 f218:=Tryz.func198.trans (congrArg some (by kernel_rfl))
 f219:=Tryz.func184.trans (congrArg some (by kernel_rfl))
 f224:=Tryz.func211.trans (congrArg some (by kernel_rfl))
 f225:=Tryz.func210.trans (congrArg some (by kernel_rfl))
 f240:=Tryz.func127.trans (congrArg some (by kernel_rfl))
 f241:=Tryz.func131.trans (congrArg some (by kernel_rfl))
 f260:=Tryz.func196.trans (congrArg some (by kernel_rfl))
 f266:=Tryz.func185.trans (congrArg some (by kernel_rfl))
 f267:=Tryz.func212.trans (congrArg some (by kernel_rfl))
 f276:=Tryz.func168.trans (congrArg some (by kernel_rfl))
 f277:=Tryz.func170.trans (congrArg some (by kernel_rfl))
 f314:=Tryz.func230.trans (congrArg some (by kernel_rfl))
 t0:=Tryz.underlying0
 a0:=Tryz.isAgg0
 z0:=Tryz.sizeOf0
 v0:=Tryz.zeroValue0
 t3:=Tryz.underlying3
 a3:=Tryz.isAgg3
 z3:=Tryz.sizeOf3
 v3:=Tryz.zeroValue3
 t4:=Tryz.underlying4
 a4:=Tryz.isAgg4
 z4:=Tryz.sizeOf4
 v4:=Tryz.zeroValue4
 t5:=Tryz.underlying5
 a5:=Tryz.isAgg5
 z5:=Tryz.sizeOf5
 v5:=Tryz.zeroValue5
 t9:=Tryz.underlying9
 a9:=Tryz.isAgg9
 z9:=Tryz.sizeOf9
 v9:=Tryz.zeroValue9
 t20:=Tryz.underlying20
 a20:=Tryz.isAgg20
 z20:=Tryz.sizeOf20
 v20:=Tryz.zeroValue20
 t21:=Tryz.underlying21
 a21:=Tryz.isAgg21
 z21:=Tryz.sizeOf21
 v21:=Tryz.zeroValue21
 t37:=Tryz.underlying104
 a37:=Tryz.isAgg104
 z37:=Tryz.sizeOf104
 v37:=Tryz.zeroValue104
 t46:=Tryz.underlying99
 a46:=Tryz.isAgg99
 z46:=Tryz.sizeOf99
 v46:=Tryz.zeroValue99
 t51:=Tryz.underlying216
 a51:=Tryz.isAgg216
 z51:=Tryz.sizeOf216
 v51:=Tryz.zeroValue216
 t70:=Tryz.underlying103
 a70:=Tryz.isAgg103
 z70:=Tryz.sizeOf103
 v70:=Tryz.zeroValue103
 t72:=Tryz.underlying106
 a72:=Tryz.isAgg106
 z72:=Tryz.sizeOf106
 v72:=Tryz.zeroValue106
 t75:=Tryz.underlying108
 a75:=Tryz.isAgg108
 z75:=Tryz.sizeOf108
 v75:=Tryz.zeroValue108
 t76:=Tryz.underlying110
 a76:=Tryz.isAgg110
 z76:=Tryz.sizeOf110
 v76:=Tryz.zeroValue110
 t105:=Tryz.underlying122
 a105:=Tryz.isAgg122
 z105:=Tryz.sizeOf122
 v105:=Tryz.zeroValue122
 t119:=Tryz.underlying195
 a119:=Tryz.isAgg195
 z119:=Tryz.sizeOf195
 t127:=Tryz.underlying136
 a127:=Tryz.isAgg136
 z127:=Tryz.sizeOf136
 v127:=Tryz.zeroValue136
 t138:=Tryz.underlying197
 a138:=Tryz.isAgg197
 z138:=Tryz.sizeOf197
 v138:=Tryz.zeroValue197
 t139:=Tryz.underlying198
 a139:=Tryz.isAgg198
 z139:=Tryz.sizeOf198
 v139:=Tryz.zeroValue198
 t146:=Tryz.underlying217
 a146:=Tryz.isAgg217
 z146:=Tryz.sizeOf217
 v146:=Tryz.zeroValue217
 t164:=Tryz.underlying158
 a164:=Tryz.isAgg158
 z164:=Tryz.sizeOf158
 v164:=Tryz.zeroValue158
 g1:=by kernel_rfl
 g3:=by kernel_rfl
 g4:=by kernel_rfl }
theorem Tryz.q156:Go.Proofs.Lays.n156 Tryz.prog Tryz.qren:={ Tryz.q155 with
 f156:=Tryz.func61.trans (congrArg some (by kernel_rfl))
 t31:=Tryz.underlying32
 a31:=Tryz.isAgg32
 z31:=Tryz.sizeOf32
 v31:=Tryz.zeroValue32 }
theorem Tryz.q99:Go.Proofs.Lays.n99 Tryz.prog Tryz.qren:={ Tryz.q155 with
 f99:=Tryz.func117.trans (congrArg some (by kernel_rfl))
 f206:=Tryz.func151.trans (congrArg some (by kernel_rfl)) }
theorem Tryz.q103:Go.Proofs.Lays.n103 Tryz.prog Tryz.qren:={ Tryz.q99 with
 f103:=Tryz.func191.trans (congrArg some (by kernel_rfl))
 f210:=Tryz.func215.trans (congrArg some (by kernel_rfl))
 t24:=Tryz.underlying175
 a24:=Tryz.isAgg175
 z24:=Tryz.sizeOf175
 v24:=Tryz.zeroValue175 }
theorem Tryz.q137:Go.Proofs.Lays.n137 Tryz.prog Tryz.qren:={ Tryz.q155 with
 f137:=Tryz.func118.trans (congrArg some (by kernel_rfl)) }
theorem Tryz.q149:Go.Proofs.Lays.n149 Tryz.prog Tryz.qren:={ Tryz.q155 with
 f149:=Tryz.func183.trans (congrArg some (by kernel_rfl))
 f222:=Tryz.func209.trans (congrArg some (by kernel_rfl)) }
theorem Tryz.q144:Go.Proofs.Lays.n144 Tryz.prog Tryz.qren:={ Tryz.q155 with
 f144:=Tryz.func115.trans (congrArg some (by kernel_rfl)) }
theorem Tryz.q160:Go.Proofs.Lays.n160 Tryz.prog Tryz.qren:={ Tryz.q155,Tryz.q137 with
 f119:=Tryz.func128.trans (congrArg some (by kernel_rfl))
 f120:=Tryz.func214.trans (congrArg some (by kernel_rfl))
 f151:=Tryz.func189.trans (congrArg some (by kernel_rfl))
 f152:=Tryz.func213.trans (congrArg some (by kernel_rfl))
 f160:=Tryz.func121.trans (congrArg some (by kernel_rfl))
 f227:=Tryz.func157.trans (congrArg some (by kernel_rfl))
 f228:=Tryz.func188.trans (congrArg some (by kernel_rfl))
 f231:=Tryz.func155.trans (congrArg some (by kernel_rfl))
 f232:=Tryz.func156.trans (congrArg some (by kernel_rfl))
 f233:=Tryz.func158.trans (congrArg some (by kernel_rfl))
 f234:=Tryz.func159.trans (congrArg some (by kernel_rfl))
 f235:=Tryz.func160.trans (congrArg some (by kernel_rfl))
 f236:=Tryz.func161.trans (congrArg some (by kernel_rfl))
 f271:=Tryz.func190.trans (congrArg some (by kernel_rfl))
 t116:=Tryz.underlying145
 a116:=Tryz.isAgg145
 z116:=Tryz.sizeOf145
 t117:=Tryz.underlying146
 a117:=Tryz.isAgg146
 z117:=Tryz.sizeOf146
 v117:=Tryz.zeroValue146
 t124:=Tryz.underlying149
 a124:=Tryz.isAgg149
 z124:=Tryz.sizeOf149
 v124:=Tryz.zeroValue149 }
theorem Tryz.q161:Go.Proofs.Lays.n161 Tryz.prog Tryz.qren:={ Tryz.q160 with
 f161:=Tryz.func216.trans (congrArg some (by kernel_rfl)) }
theorem Tryz.q110:Go.Proofs.Lays.n110 Tryz.prog Tryz.qren:={ Tryz.q156 with
 f109:=Tryz.func195.trans (congrArg some (by kernel_rfl))
 f110:=Tryz.func164.trans (congrArg some (by kernel_rfl)) }
theorem Tryz.q166:Go.Proofs.Lays.n166 Tryz.prog Tryz.qren:={ Tryz.q155 with }
theorem Tryz.q167:Go.Proofs.Lays.n167 Tryz.prog Tryz.qren:={ Tryz.q155 with
 f167:=Tryz.func89.trans (congrArg some (by kernel_rfl)) }
theorem Tryz.q169:Go.Proofs.Lays.n169 Tryz.prog Tryz.qren:={ Tryz.q155 with }
theorem Tryz.q119:Go.Proofs.Lays.n119 Tryz.prog Tryz.qren:={ Tryz.q160 with }
theorem Tryz.q197:Go.Proofs.Lays.n197 Tryz.prog Tryz.qren:={ Tryz.q155 with }
theorem Tryz.qX:Builder.Extra Tryz.prog Tryz.qren:={
 sizeBuilder:=by kernel_rfl
 liesBuilder:=by kernel_rfl
 t5:=Tryz.underlying5
 a5:=Tryz.isAgg5
 z5:=Tryz.sizeOf5
 v5:=Tryz.zeroValue5
 infoByte:=by kernel_rfl
 cellsByte:=by kernel_rfl
 sizeByte:=by kernel_rfl
 neB5:=by decide }
theorem Tryz.qHasPrefix (s p:ByteArray) (w:World):Calls Tryz.prog 117 #[.string s,.string p] w fun e w'=>e = .returned (.bool (Lib.hasPrefix s.data.toList p.data.toList))∧w'=w:=Any.strings_HasPrefix Tryz.q99 s p w
theorem Tryz.qCutPrefix (s p:ByteArray) (w:World):Calls Tryz.prog 191 #[.string s,.string p] w fun e w'=>e = .returned (.tuple #[.string ⟨(Lib.trimPrefix s.data.toList p.data.toList).toArray⟩,.bool (Lib.hasPrefix s.data.toList p.data.toList)])∧w'=w:=Any.strings_CutPrefix Tryz.q103 s p w
theorem Tryz.qIndexByte (s:ByteArray) (c:Int) (w:World):Calls Tryz.prog 118 #[.string s,.int .u8 c] w fun e w'=>e = .returned (.int .i64 (Lib.indexByte s.data.toList c.toNat.toUInt8))∧w'=w:=Any.strings_IndexByte Tryz.q137 s c w
theorem Tryz.qLastIndexByte (s:ByteArray) (c:Int) (hs:s.size<4611686018427387904) (w:World):Calls Tryz.prog 183 #[.string s,.int .u8 c] w fun e w'=>e = .returned (.int .i64 (Lib.lastIndexByte s c))∧w'=w:=Any.strings_LastIndexByte Tryz.q149 s c hs w
theorem Tryz.qContains1 (s:ByteArray) (c:UInt8) (w:World):Calls Tryz.prog 115 #[.string s,.string ⟨#[c]⟩] w fun e w'=>e = .returned (.bool (decide (0≤Lib.indexByte s.data.toList c)))∧w'=w:=Any.strings_Contains_one Tryz.q144 s c w
theorem Tryz.qTrim (s cutset:ByteArray) (w:World) (hs:s.size≤9223372036854775807) (hcs:cutset.size<4294967281) (ha:cutset.data.toList.all (fun b=>decide (b.toNat<128))=true):Calls Tryz.prog 121 #[.string s,.string cutset] w fun e w'=>e = .returned (.string ⟨(Lib.trimS s.data.toList cutset.data.toList).toArray⟩)∧Below w.heap.size w w':=Any.strings_Trim_laid Tryz.q160 (by kernel_rfl) s cutset w hs hcs (ascii_of_all ha)
theorem Tryz.qTrimLeft (s cutset:ByteArray) (w:World) (hcs:cutset.size<4294967281) (ha:cutset.data.toList.all (fun b=>decide (b.toNat<128))=true):Calls Tryz.prog 216 #[.string s,.string cutset] w fun e w'=>e = .returned (.string ⟨(Lib.trimLeftS s.data.toList cutset.data.toList).toArray⟩)∧Below w.heap.size w w':=Any.strings_TrimLeft_laid Tryz.q161 (by kernel_rfl) s cutset w hcs (ascii_of_all ha)
theorem Tryz.qValidRune (r:Int) (w:World):Calls Tryz.prog 128 #[.int .i32 r] w fun e w'=>e = .returned (.bool (Lib.validRune r))∧w'=w:=Any.utf8_ValidRune Tryz.q119 r w
theorem Tryz.qDecode (s:ByteArray) (w:World) (hT:Lib.Utf8Tabs 1 2 w):Calls Tryz.prog 165 #[.string s] w fun e w'=>e = .returned (.tuple #[.int .i32 (Lib.decodeGo s).1,.int .i64 ((Lib.decodeGo s).2:Nat)])∧Below w.heap.size w w':=Any.utf8_DecodeRuneInString Tryz.q197 s w hT
theorem Tryz.qReplaceAll (s old new:ByteArray) (m:Int) (w:World) (hs:s.size<4294967281) (hm:w.cell? ⟨0,0,none⟩=some (.int .i64 m)) (h1:1≤old.size) (hlen:s.size+Lib.countB s old*new.size≤140737488355328):Calls Tryz.prog 88 #[.string s,.string old,.string new] w fun e w'=>e = .returned (.string ⟨(Lib.replaceAll s.data.toList old.data.toList new.data.toList).toArray⟩)∧Below w.heap.size w w':=Any.strings_ReplaceAll Tryz.q155 Tryz.qX s old new m w hs hm h1 hlen
theorem Tryz.qWriteByte (B b:Nat) (bs:List Value) (c:Int) (w:World) (h:Lib.IsBuilderF 106 5 B b bs w) (hlen:bs.length+1≤140737488355328) (hBw:B≤w.heap.size):Calls Tryz.prog 89 #[.pointer (some ⟨b,0,none⟩),.int .u8 c] w fun e w'=>e = .returned .nilIface∧Lib.IsBuilderF 106 5 B b (bs++[.int .u8 c]) w'∧Below B w w'∧Lib.OthersKept 5 (some b) w w':=(Any.Builder_WriteByte_k Tryz.q167 Tryz.qX B b bs c w h hlen hBw).mono fun _ _ h=>⟨h.1,.inr h.2.1,h.2.2.1,h.2.2.2⟩
theorem Tryz.qWriteString (B b:Nat) (bs:List Value) (s:ByteArray) (w:World) (h:Lib.IsBuilderF 106 5 B b bs w) (hlen:bs.length+s.size≤140737488355328) (hBw:B≤w.heap.size):Calls Tryz.prog 90 #[.pointer (some ⟨b,0,none⟩),.string s] w fun e w'=>e = .returned (.tuple #[.int .i64 s.size,.nilIface])∧Lib.IsBuilderF 106 5 B b (bs++Lib.strCells s) w'∧Below B w w'∧Lib.OthersKept 5 (some b) w w':=(Any.Builder_WriteString_k Tryz.q166 Tryz.qX B b bs s w h hlen hBw).mono fun _ _ h=>⟨h.1,.inr h.2.1,h.2.2.1,h.2.2.2⟩
theorem Tryz.qString (B b:Nat) (l:List UInt8) (w:World) (h:Lib.IsBuilderF 106 5 B b (Lib.byteCells l) w) (hBw:B≤w.heap.size):Calls Tryz.prog 92 #[.pointer (some ⟨b,0,none⟩)] w fun e w'=>e = .returned (.string ⟨l.toArray⟩)∧Below B w w':=(Any.Builder_String_any_k Tryz.q169 Tryz.qX B b l w h hBw).mono fun _ _ h=>⟨h.1,h.2.2.1⟩
theorem Tryz.qContains (b off n c:Nat) (zs:List ByteArray) (x:ByteArray) (w:World) (hz:n≤zs.length) (hbig:n≤9223372036854775807) (hc:∀ j,j<zs.length→w.cell? ⟨b,off+j,none⟩=some (.string (zs.getD j ByteArray.empty))):Calls Tryz.prog 164 #[.slice (some ⟨b,off,none⟩) n c,.string x] w fun e w'=>e = .returned (.bool (Lib.containsS (zs.take n) x))∧w'=w:=Any.slices_Contains_string Tryz.q110 b off n c zs x w hz hbig hc
end Go.Proofs
