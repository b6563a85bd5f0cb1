/-
Contracts of the library's functions at this program, in plain words (the shelf's own theorems, one application each).
-/
import Derived.Shelf.Small.Utf8
import Derived.Shelf.Small.Wraps
import Derived.Shelf.Strings.LastIndex
import Derived.Shelf.Strings.Prefix
import Derived.Shelf.Strings.Search3
import Derived.Shelf.Strings.SlTrimAscii
import Derived.Shelf.Slices.Turned
import Derived.Shelf.Unicode.DecodeAny
import Derived.Shelf.Strings.OnBuilder
import Derived.Shelf.Strings.Replace
import Derived.Shelf.Strings.BuilderK
import Derived.Test.YtngfdcnglojcaaaGreatDoorProg
namespace Go.Proofs
open Go Go.Shelf Go.Lib Go.RowKit
def Tryz.qren:Go.Shelf.Ren:=⟨fun | 99=>96 | 103=>166 | 109=>170 | 110=>138 | 119=>107 | 120=>191 | 137=>97 | 138=>141 | 143=>124 | 144=>94 | 149=>158 | 151=>164 | 152=>190 | 154=>105 | 155=>73 | 156=>46 | 160=>100 | 161=>193 | 165=>78 | 166=>75 | 167=>74 | 169=>77 | 195=>172 | 197=>139 | 206=>125 | 210=>192 | 217=>126 | 218=>173 | 219=>159 | 222=>186 | 224=>188 | 225=>187 | 227=>131 | 228=>163 | 231=>129 | 232=>130 | 233=>132 | 234=>133 | 235=>134 | 236=>135 | 240=>106 | 241=>110 | 260=>171 | 266=>160 | 267=>189 | 271=>165 | 276=>142 | 277=>144 | 314=>209 | n=>n,fun | 0=>0 | 3=>3 | 4=>4 | 5=>5 | 9=>9 | 20=>20 | 21=>21 | 24=>171 | 31=>31 | 37=>99 | 46=>109 | 51=>213 | 70=>98 | 72=>101 | 75=>103 | 76=>105 | 80=>108 | 105=>150 | 116=>139 | 117=>140 | 119=>191 | 124=>143 | 127=>131 | 138=>193 | 139=>194 | 146=>214 | 164=>153 | n=>n,fun | 1=>0 | 3=>1 | 4=>2 | n=>n⟩
theorem Tryz.q155:Go.Proofs.Lays.n155 Tryz.prog Tryz.qren:={
 mixed:=by kernel_rfl
 f138:=Tryz.func141.trans (congrArg some (by kernel_rfl))
 f143:=Tryz.func124.trans (congrArg some (by kernel_rfl))
 f154:=Tryz.func105.trans (congrArg some (by kernel_rfl))
 f155:=Tryz.func73.trans (congrArg some (by kernel_rfl))
 f165:=Tryz.func78.trans (congrArg some (by kernel_rfl))
 f166:=Tryz.func75.trans (congrArg some (by kernel_rfl))
 f169:=Tryz.func77.trans (congrArg some (by kernel_rfl))
 f195:=Tryz.func172.trans (congrArg some (by kernel_rfl))
 f197:=Tryz.func139.trans (congrArg some (by kernel_rfl))
 f217:=Tryz.func126.trans (congrArg some (by kernel_rfl))
 f218:=Tryz.func173.trans (congrArg some (by kernel_rfl))
 f219:=Tryz.func159.trans (congrArg some (by kernel_rfl))
 f224:=Tryz.func188.trans (congrArg some (by kernel_rfl))
 f225:=Tryz.func187.trans (congrArg some (by kernel_rfl))
 f240:=Tryz.func106.trans (congrArg some (by kernel_rfl))
 f241:=Tryz.func110.trans (congrArg some (by kernel_rfl))
 f260:=Tryz.func171.trans (congrArg some (by kernel_rfl))
 f266:=Tryz.func160.trans (congrArg some (by kernel_rfl))
 f267:=Tryz.func189.trans (congrArg some (by kernel_rfl))
 f276:=Tryz.func142.trans (congrArg some (by kernel_rfl))
 f277:=Tryz.func144.trans (congrArg some (by kernel_rfl))
 f314:=Tryz.func209.trans (congrArg some (by kernel_rfl))
 t0:=Tryz.underlying0
 a0:=Tryz.isAgg0
 z0:=Tryz.sizeOf0
 v0:=Tryz.zeroValue0
 t3:=Tryz.underlying3
 a3:=Tryz.isAgg3
 z3:=Tryz.sizeOf3
 v3:=Tryz.zeroValue3
 t4:=Tryz.underlying4
 a4:=Tryz.isAgg4
 z4:=Tryz.sizeOf4
 v4:=Tryz.zeroValue4
 t5:=Tryz.underlying5
 a5:=Tryz.isAgg5
 z5:=Tryz.sizeOf5
 v5:=Tryz.zeroValue5
 t9:=Tryz.underlying9
 a9:=Tryz.isAgg9
 z9:=Tryz.sizeOf9
 v9:=Tryz.zeroValue9
 t20:=Tryz.underlying20
 a20:=Tryz.isAgg20
 z20:=Tryz.sizeOf20
 v20:=Tryz.zeroValue20
 t21:=Tryz.underlying21
 a21:=Tryz.isAgg21
 z21:=Tryz.sizeOf21
 v21:=Tryz.zeroValue21
 t37:=Tryz.underlying99
 a37:=Tryz.isAgg99
 z37:=Tryz.sizeOf99
 v37:=Tryz.zeroValue99
 t46:=Tryz.underlying109
 a46:=Tryz.isAgg109
 z46:=Tryz.sizeOf109
 v46:=Tryz.zeroValue109
 t51:=Tryz.underlying213
 a51:=Tryz.isAgg213
 z51:=Tryz.sizeOf213
 v51:=Tryz.zeroValue213
 t70:=Tryz.underlying98
 a70:=Tryz.isAgg98
 z70:=Tryz.sizeOf98
 v70:=Tryz.zeroValue98
 t72:=Tryz.underlying101
 a72:=Tryz.isAgg101
 z72:=Tryz.sizeOf101
 v72:=Tryz.zeroValue101
 t75:=Tryz.underlying103
 a75:=Tryz.isAgg103
 z75:=Tryz.sizeOf103
 v75:=Tryz.zeroValue103
 t76:=Tryz.underlying105
 a76:=Tryz.isAgg105
 z76:=Tryz.sizeOf105
 v76:=Tryz.zeroValue105
 t105:=Tryz.underlying150
 a105:=Tryz.isAgg150
 z105:=Tryz.sizeOf150
 v105:=Tryz.zeroValue150
 t119:=Tryz.underlying191
 a119:=Tryz.isAgg191
 z119:=Tryz.sizeOf191
 t127:=Tryz.underlying131
 a127:=Tryz.isAgg131
 z127:=Tryz.sizeOf131
 v127:=Tryz.zeroValue131
 t138:=Tryz.underlying193
 a138:=Tryz.isAgg193
 z138:=Tryz.sizeOf193
 v138:=Tryz.zeroValue193
 t139:=Tryz.underlying194
 a139:=Tryz.isAgg194
 z139:=Tryz.sizeOf194
 v139:=Tryz.zeroValue194
 t146:=Tryz.underlying214
 a146:=Tryz.isAgg214
 z146:=Tryz.sizeOf214
 v146:=Tryz.zeroValue214
 t164:=Tryz.underlying153
 a164:=Tryz.isAgg153
 z164:=Tryz.sizeOf153
 v164:=Tryz.zeroValue153
 g1:=by kernel_rfl
 g3:=by kernel_rfl
 g4:=by kernel_rfl }
theorem Tryz.q156:Go.Proofs.Lays.n156 Tryz.prog Tryz.qren:={ Tryz.q155 with
 f156:=Tryz.func46.trans (congrArg some (by kernel_rfl))
 t31:=Tryz.underlying31
 a31:=Tryz.isAgg31
 z31:=Tryz.sizeOf31
 v31:=Tryz.zeroValue31 }
theorem Tryz.q99:Go.Proofs.Lays.n99 Tryz.prog Tryz.qren:={ Tryz.q155 with
 f99:=Tryz.func96.trans (congrArg some (by kernel_rfl))
 f206:=Tryz.func125.trans (congrArg some (by kernel_rfl)) }
theorem Tryz.q103:Go.Proofs.Lays.n103 Tryz.prog Tryz.qren:={ Tryz.q99 with
 f103:=Tryz.func166.trans (congrArg some (by kernel_rfl))
 f210:=Tryz.func192.trans (congrArg some (by kernel_rfl))
 t24:=Tryz.underlying171
 a24:=Tryz.isAgg171
 z24:=Tryz.sizeOf171
 v24:=Tryz.zeroValue171 }
theorem Tryz.q137:Go.Proofs.Lays.n137 Tryz.prog Tryz.qren:={ Tryz.q155 with
 f137:=Tryz.func97.trans (congrArg some (by kernel_rfl)) }
theorem Tryz.q149:Go.Proofs.Lays.n149 Tryz.prog Tryz.qren:={ Tryz.q155 with
 f149:=Tryz.func158.trans (congrArg some (by kernel_rfl))
 f222:=Tryz.func186.trans (congrArg some (by kernel_rfl)) }
theorem Tryz.q144:Go.Proofs.Lays.n144 Tryz.prog Tryz.qren:={ Tryz.q155 with
 f144:=Tryz.func94.trans (congrArg some (by kernel_rfl)) }
theorem Tryz.q160:Go.Proofs.Lays.n160 Tryz.prog Tryz.qren:={ Tryz.q155,Tryz.q137 with
 f119:=Tryz.func107.trans (congrArg some (by kernel_rfl))
 f120:=Tryz.func191.trans (congrArg some (by kernel_rfl))
 f151:=Tryz.func164.trans (congrArg some (by kernel_rfl))
 f152:=Tryz.func190.trans (congrArg some (by kernel_rfl))
 f160:=Tryz.func100.trans (congrArg some (by kernel_rfl))
 f227:=Tryz.func131.trans (congrArg some (by kernel_rfl))
 f228:=Tryz.func163.trans (congrArg some (by kernel_rfl))
 f231:=Tryz.func129.trans (congrArg some (by kernel_rfl))
 f232:=Tryz.func130.trans (congrArg some (by kernel_rfl))
 f233:=Tryz.func132.trans (congrArg some (by kernel_rfl))
 f234:=Tryz.func133.trans (congrArg some (by kernel_rfl))
 f235:=Tryz.func134.trans (congrArg some (by kernel_rfl))
 f236:=Tryz.func135.trans (congrArg some (by kernel_rfl))
 f271:=Tryz.func165.trans (congrArg some (by kernel_rfl))
 t116:=Tryz.underlying139
 a116:=Tryz.isAgg139
 z116:=Tryz.sizeOf139
 t117:=Tryz.underlying140
 a117:=Tryz.isAgg140
 z117:=Tryz.sizeOf140
 v117:=Tryz.zeroValue140
 t124:=Tryz.underlying143
 a124:=Tryz.isAgg143
 z124:=Tryz.sizeOf143
 v124:=Tryz.zeroValue143 }
theorem Tryz.q161:Go.Proofs.Lays.n161 Tryz.prog Tryz.qren:={ Tryz.q160 with
 f161:=Tryz.func193.trans (congrArg some (by kernel_rfl)) }
theorem Tryz.q110:Go.Proofs.Lays.n110 Tryz.prog Tryz.qren:={ Tryz.q156 with
 f109:=Tryz.func170.trans (congrArg some (by kernel_rfl))
 f110:=Tryz.func138.trans (congrArg some (by kernel_rfl)) }
theorem Tryz.q166:Go.Proofs.Lays.n166 Tryz.prog Tryz.qren:={ Tryz.q155 with }
theorem Tryz.q167:Go.Proofs.Lays.n167 Tryz.prog Tryz.qren:={ Tryz.q155 with
 f167:=Tryz.func74.trans (congrArg some (by kernel_rfl)) }
theorem Tryz.q169:Go.Proofs.Lays.n169 Tryz.prog Tryz.qren:={ Tryz.q155 with }
theorem Tryz.q119:Go.Proofs.Lays.n119 Tryz.prog Tryz.qren:={ Tryz.q160 with }
theorem Tryz.q197:Go.Proofs.Lays.n197 Tryz.prog Tryz.qren:={ Tryz.q155 with }
theorem Tryz.qX:Builder.Extra Tryz.prog Tryz.qren:={
 sizeBuilder:=by kernel_rfl
 liesBuilder:=by kernel_rfl
 t5:=Tryz.underlying5
 a5:=Tryz.isAgg5
 z5:=Tryz.sizeOf5
 v5:=Tryz.zeroValue5
 infoByte:=by kernel_rfl
 cellsByte:=by kernel_rfl
 sizeByte:=by kernel_rfl
 neB5:=by decide }
theorem Tryz.qHasPrefix (s p:ByteArray) (w:World):Calls Tryz.prog 96 #[.string s,.string p] w fun e w'=>e = .returned (.bool (Lib.hasPrefix s.data.toList p.data.toList))∧w'=w:=Any.strings_HasPrefix Tryz.q99 s p w
theorem Tryz.qCutPrefix (s p:ByteArray) (w:World):Calls Tryz.prog 166 #[.string s,.string p] w fun e w'=>e = .returned (.tuple #[.string ⟨(Lib.trimPrefix s.data.toList p.data.toList).toArray⟩,.bool (Lib.hasPrefix s.data.toList p.data.toList)])∧w'=w:=Any.strings_CutPrefix Tryz.q103 s p w
theorem Tryz.qIndexByte (s:ByteArray) (c:Int) (w:World):Calls Tryz.prog 97 #[.string s,.int .u8 c] w fun e w'=>e = .returned (.int .i64 (Lib.indexByte s.data.toList c.toNat.toUInt8))∧w'=w:=Any.strings_IndexByte Tryz.q137 s c w
theorem Tryz.qLastIndexByte (s:ByteArray) (c:Int) (hs:s.size<4611686018427387904) (w:World):Calls Tryz.prog 158 #[.string s,.int .u8 c] w fun e w'=>e = .returned (.int .i64 (Lib.lastIndexByte s c))∧w'=w:=Any.strings_LastIndexByte Tryz.q149 s c hs w
theorem Tryz.qContains1 (s:ByteArray) (c:UInt8) (w:World):Calls Tryz.prog 94 #[.string s,.string ⟨#[c]⟩] w fun e w'=>e = .returned (.bool (decide (0≤Lib.indexByte s.data.toList c)))∧w'=w:=Any.strings_Contains_one Tryz.q144 s c w
theorem Tryz.qTrim (s cutset:ByteArray) (w:World) (hs:s.size≤9223372036854775807) (hcs:cutset.size<4294967281) (ha:cutset.data.toList.all (fun b=>decide (b.toNat<128))=true):Calls Tryz.prog 100 #[.string s,.string cutset] w fun e w'=>e = .returned (.string ⟨(Lib.trimS s.data.toList cutset.data.toList).toArray⟩)∧Below w.heap.size w w':=Any.strings_Trim_laid Tryz.q160 (by kernel_rfl) s cutset w hs hcs (ascii_of_all ha)
theorem Tryz.qTrimLeft (s cutset:ByteArray) (w:World) (hcs:cutset.size<4294967281) (ha:cutset.data.toList.all (fun b=>decide (b.toNat<128))=true):Calls Tryz.prog 193 #[.string s,.string cutset] w fun e w'=>e = .returned (.string ⟨(Lib.trimLeftS s.data.toList cutset.data.toList).toArray⟩)∧Below w.heap.size w w':=Any.strings_TrimLeft_laid Tryz.q161 (by kernel_rfl) s cutset w hcs (ascii_of_all ha)
theorem Tryz.qValidRune (r:Int) (w:World):Calls Tryz.prog 107 #[.int .i32 r] w fun e w'=>e = .returned (.bool (Lib.validRune r))∧w'=w:=Any.utf8_ValidRune Tryz.q119 r w
theorem Tryz.qDecode (s:ByteArray) (w:World) (hT:Lib.Utf8Tabs 1 2 w):Calls Tryz.prog 139 #[.string s] w fun e w'=>e = .returned (.tuple #[.int .i32 (Lib.decodeGo s).1,.int .i64 ((Lib.decodeGo s).2:Nat)])∧Below w.heap.size w w':=Any.utf8_DecodeRuneInString Tryz.q197 s w hT
theorem Tryz.qReplaceAll (s old new:ByteArray) (m:Int) (w:World) (hs:s.size<4294967281) (hm:w.cell? ⟨0,0,none⟩=some (.int .i64 m)) (h1:1≤old.size) (hlen:s.size+Lib.countB s old*new.size≤140737488355328):Calls Tryz.prog 73 #[.string s,.string old,.string new] w fun e w'=>e = .returned (.string ⟨(Lib.replaceAll s.data.toList old.data.toList new.data.toList).toArray⟩)∧Below w.heap.size w w':=Any.strings_ReplaceAll Tryz.q155 Tryz.qX s old new m w hs hm h1 hlen
theorem Tryz.qWriteByte (B b:Nat) (bs:List Value) (c:Int) (w:World) (h:Lib.IsBuilderF 101 5 B b bs w) (hlen:bs.length+1≤140737488355328) (hBw:B≤w.heap.size):Calls Tryz.prog 74 #[.pointer (some ⟨b,0,none⟩),.int .u8 c] w fun e w'=>e = .returned .nilIface∧Lib.IsBuilderF 101 5 B b (bs++[.int .u8 c]) w'∧Below B w w'∧Lib.OthersKept 5 (some b) w w':=(Any.Builder_WriteByte_k Tryz.q167 Tryz.qX B b bs c w h hlen hBw).mono fun _ _ h=>⟨h.1,.inr h.2.1,h.2.2.1,h.2.2.2⟩
theorem Tryz.qWriteString (B b:Nat) (bs:List Value) (s:ByteArray) (w:World) (h:Lib.IsBuilderF 101 5 B b bs w) (hlen:bs.length+s.size≤140737488355328) (hBw:B≤w.heap.size):Calls Tryz.prog 75 #[.pointer (some ⟨b,0,none⟩),.string s] w fun e w'=>e = .returned (.tuple #[.int .i64 s.size,.nilIface])∧Lib.IsBuilderF 101 5 B b (bs++Lib.strCells s) w'∧Below B w w'∧Lib.OthersKept 5 (some b) w w':=(Any.Builder_WriteString_k Tryz.q166 Tryz.qX B b bs s w h hlen hBw).mono fun _ _ h=>⟨h.1,.inr h.2.1,h.2.2.1,h.2.2.2⟩
theorem Tryz.qString (B b:Nat) (l:List UInt8) (w:World) (h:Lib.IsBuilderF 101 5 B b (Lib.byteCells l) w) (hBw:B≤w.heap.size):Calls Tryz.prog 77 #[.pointer (some ⟨b,0,none⟩)] w fun e w'=>e = .returned (.string ⟨l.toArray⟩)∧Below B w w':=(Any.Builder_String_any_k Tryz.q169 Tryz.qX B b l w h hBw).mono fun _ _ h=>⟨h.1,h.2.2.1⟩
theorem Tryz.qContains (b off n c:Nat) (zs:List ByteArray) (x:ByteArray) (w:World) (hz:n≤zs.length) (hbig:n≤9223372036854775807) (hc:∀ j,j<zs.length→w.cell? ⟨b,off+j,none⟩=some (.string (zs.getD j ByteArray.empty))):Calls Tryz.prog 138 #[.slice (some ⟨b,off,none⟩) n c,.string x] w fun e w'=>e = .returned (.bool (Lib.containsS (zs.take n) x))∧w'=w:=Any.slices_Contains_string Tryz.q110 b off n c zs x w hz hbig hc
end Go.Proofs
