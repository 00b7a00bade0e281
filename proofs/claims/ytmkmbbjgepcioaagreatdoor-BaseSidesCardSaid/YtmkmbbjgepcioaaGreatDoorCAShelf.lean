/-
  Contracts of Go's library out of the kit's shelf, at this seat's numbers. No statement of the seat is proved here.
-/
import Derived.Shelf.Small.Utf8
import Derived.Shelf.Small.Bits
import Derived.Shelf.Small.Strs
import Derived.Shelf.Small.Wraps
import Derived.Shelf.Utf8.RuneCount
import Derived.Shelf.Strconv.Itoa0
import Derived.Shelf.Strings.Search1
import Derived.Shelf.Strings.Search2
import Derived.Shelf.Strings.Search3
import Derived.Shelf.Strings.Count
import Derived.Shelf.LaysM
import Derived.Shelf.Strings.Shaped
import Derived.Shelf.Sort.Plain
import Derived.Shelf.Strings.LastIndex
import Derived.Shelf.Strings.Split
import Derived.Shelf.Strings.SplitShaped
import Derived.Shelf.Unicode.Decode
import Derived.Shelf.Strings.Runes
import Derived.Shelf.Strings.RuneCount
import Derived.Shelf.Strings.IndexAny
import Derived.Shelf.Strings.AsciiSet
import Derived.Shelf.Strings.IndexAnyAll
import Derived.Shelf.Unicode.DecodeSlow
import Derived.Shelf.Unicode.DecodeAny
import Derived.Shelf.Slices.Equal
import Derived.Ground.Names2Prog
import Derived.Shelf.Slices.Clone
import Derived.Shelf.Slices.SearchI
import Derived.Shelf.Slices.In.SortNone
import Derived.Shelf.Bytes.SlIndexAt
import Derived.Shelf.Slices.Empties2
import Derived.Shelf.Bytes.SlSearch0
import Derived.Ground.SlgnProg
import Derived.Shelf.SlicesE.Clone
import Derived.Ground.SlgfProg
import Derived.Shelf.SlicesE.IndexFunc
import Derived.Shelf.Bytes.SlEqualAll
import Derived.Shelf.Bytes.Small
import Derived.Shelf.Bytes.IndexByte
import Derived.Test.YtmkmbbjgepcioaaGreatDoorProg
namespace Go.Proofs
open Go.Shelf
def Tryz.lays119_ren:Go.Shelf.Ren:=⟨fun|119=>287|n=>n,fun|21=>21|4=>4|n=>n,fun|n=>n⟩
theorem Tryz.lays119:Go.Proofs.Lays.n119 Tryz.prog Tryz.lays119_ren:={
  mixed:=by kernel_rfl
  f119:=Tryz.func287.trans (congrArg some (by kernel_rfl))
  t4:=Tryz.underlying4
  a4:=Tryz.isAgg4
  z4:=Tryz.sizeOf4
  v4:=Tryz.zeroValue4
  t21:=Tryz.underlying21
  a21:=Tryz.isAgg21
  z21:=Tryz.sizeOf21
  v21:=Tryz.zeroValue21 }
theorem Tryz.utf8_ValidRune (r:Int) (w:World) :Calls Tryz.prog 287 #[.int .i32 r] w fun e w'=>e = .returned (.bool (Lib.validRune r))∧w'=w:=Any.utf8_ValidRune Tryz.lays119 r w
open Go.RowKit in
def Tryz.lays106_ren:Go.Shelf.Ren:=⟨fun|106=>75|213=>121|265=>167|n=>n,fun|9=>9|3=>3|n=>n,fun|n=>n⟩
theorem Tryz.lays106:Go.Proofs.Lays.n106 Tryz.prog Tryz.lays106_ren:={
  mixed:=by kernel_rfl
  f106:=Tryz.func75.trans (congrArg some (by kernel_rfl))
  f213:=Tryz.func121.trans (congrArg some (by kernel_rfl))
  f265:=Tryz.func167.trans (congrArg some (by kernel_rfl))
  t3:=Tryz.underlying3
  a3:=Tryz.isAgg3
  z3:=Tryz.sizeOf3
  v3:=Tryz.zeroValue3
  t9:=Tryz.underlying9
  a9:=Tryz.isAgg9
  z9:=Tryz.sizeOf9
  v9:=Tryz.zeroValue9 }
open Go.RowKit in
theorem Tryz.strings_Compare (a b:ByteArray) (w:World) :Calls Tryz.prog 75 #[.string a,.string b] w fun e w'=>e = .returned (.int .i64 (Lib.compareBytes a.data.toList b.data.toList))∧w'=w:=Any.strings_Compare Tryz.lays106 a b w
def Tryz.lays137_ren:Go.Shelf.Ren:=⟨fun|137=>286|217=>282|266=>295|n=>n,fun|9=>9|5=>5|3=>3|n=>n,fun|n=>n⟩
theorem Tryz.lays137:Go.Proofs.Lays.n137 Tryz.prog Tryz.lays137_ren:={
  mixed:=by kernel_rfl
  f137:=Tryz.func286.trans (congrArg some (by kernel_rfl))
  f217:=Tryz.func282.trans (congrArg some (by kernel_rfl))
  f266:=Tryz.func295.trans (congrArg some (by kernel_rfl))
  t3:=Tryz.underlying3
  a3:=Tryz.isAgg3
  z3:=Tryz.sizeOf3
  v3:=Tryz.zeroValue3
  t5:=Tryz.underlying5
  a5:=Tryz.isAgg5
  z5:=Tryz.sizeOf5
  v5:=Tryz.zeroValue5
  t9:=Tryz.underlying9
  a9:=Tryz.isAgg9
  z9:=Tryz.sizeOf9
  v9:=Tryz.zeroValue9 }
open Go.RowKit in
theorem Tryz.strings_IndexByte (s:ByteArray) (c:Int) (w:World) :Calls Tryz.prog 286 #[.string s,.int .u8 c] w fun e w'=>e = .returned (.int .i64 (Lib.indexByte s.data.toList c.toNat.toUInt8))∧w'=w:=Any.strings_IndexByte Tryz.lays137 s c w
open Go.RowKit in
def Tryz.lays122_ren:Go.Shelf.Ren:=⟨fun|122=>79|215=>123|n=>n,fun|3=>3|4=>4|n=>n,fun|n=>n⟩
theorem Tryz.lays122:Go.Proofs.Lays.n122 Tryz.prog Tryz.lays122_ren:={
  mixed:=by kernel_rfl
  f122:=Tryz.func79.trans (congrArg some (by kernel_rfl))
  f215:=Tryz.func123.trans (congrArg some (by kernel_rfl))
  t3:=Tryz.underlying3
  a3:=Tryz.isAgg3
  z3:=Tryz.sizeOf3
  v3:=Tryz.zeroValue3
  t4:=Tryz.underlying4
  a4:=Tryz.isAgg4
  z4:=Tryz.sizeOf4
  v4:=Tryz.zeroValue4 }
open Go.RowKit in
theorem Tryz.cmp_Compare_int (x y:Int) (w:World) :Calls Tryz.prog 79 #[.int .i64 x,.int .i64 y] w fun e w'=>e = .returned (.int .i64 (Lib.compareInt x y))∧w'=w:=Any.cmp_Compare_int Tryz.lays122 x y w
open Go.RowKit in
open Go.RowKit Go.Lib in
open Go.RowKit Go.Lib in
open Go.RowKit Go.Lib in
open Go.RowKit Go.Lib in
open Go.RowKit Go.Lib in
open Go.RowKit Go.Lib in
open Go.RowKit Go.Lib in
open Go.RowKit Go.Lib in
open Go.RowKit Go.Lib in
open Go.RowKit Go.Lib in
open Go.RowKit Go.Lib in
open Go.RowKit Go.Lib in
open Go.RowKit Go.Lib in
def Tryz.lays190_ren:Go.Shelf.Ren:=⟨fun|190=>155|125=>120|258=>199|128=>165|129=>166|302=>244|303=>245|304=>246|305=>247|306=>248|307=>249|308=>250|309=>251|310=>252|333=>277|329=>201|330=>202|334=>278|335=>279|336=>122|344=>294|n=>n,fun|31=>95|9=>9|3=>3|46=>73|0=>0|51=>286|53=>288|4=>4|183=>280|182=>279|131=>143|5=>5|218=>313|222=>317|228=>355|229=>356|n=>n,fun|n=>n⟩
theorem Tryz.lays190:Go.Proofs.Lays.n190 Tryz.prog Tryz.lays190_ren:={
  mixed:=by kernel_rfl
  f125:=Tryz.func120.trans (congrArg some (by kernel_rfl))
  f128:=Tryz.func165.trans (congrArg some (by kernel_rfl))
  f129:=Tryz.func166.trans (congrArg some (by kernel_rfl))
  f190:=Tryz.func155.trans (congrArg some (by kernel_rfl))
  f258:=Tryz.func199.trans (congrArg some (by kernel_rfl))
  f302:=Tryz.func244.trans (congrArg some (by kernel_rfl))
  f303:=Tryz.func245.trans (congrArg some (by kernel_rfl))
  f304:=Tryz.func246.trans (congrArg some (by kernel_rfl))
  f305:=Tryz.func247.trans (congrArg some (by kernel_rfl))
  f306:=Tryz.func248.trans (congrArg some (by kernel_rfl))
  f307:=Tryz.func249.trans (congrArg some (by kernel_rfl))
  f308:=Tryz.func250.trans (congrArg some (by kernel_rfl))
  f309:=Tryz.func251.trans (congrArg some (by kernel_rfl))
  f310:=Tryz.func252.trans (congrArg some (by kernel_rfl))
  f329:=Tryz.func201.trans (congrArg some (by kernel_rfl))
  f330:=Tryz.func202.trans (congrArg some (by kernel_rfl))
  f333:=Tryz.func277.trans (congrArg some (by kernel_rfl))
  f334:=Tryz.func278.trans (congrArg some (by kernel_rfl))
  f335:=Tryz.func279.trans (congrArg some (by kernel_rfl))
  f336:=Tryz.func122.trans (congrArg some (by kernel_rfl))
  f344:=Tryz.func294.trans (congrArg some (by kernel_rfl))
  t0:=Tryz.underlying0
  a0:=Tryz.isAgg0
  z0:=Tryz.sizeOf0
  v0:=Tryz.zeroValue0
  t3:=Tryz.underlying3
  a3:=Tryz.isAgg3
  z3:=Tryz.sizeOf3
  v3:=Tryz.zeroValue3
  t4:=Tryz.underlying4
  a4:=Tryz.isAgg4
  z4:=Tryz.sizeOf4
  v4:=Tryz.zeroValue4
  t5:=Tryz.underlying5
  a5:=Tryz.isAgg5
  z5:=Tryz.sizeOf5
  v5:=Tryz.zeroValue5
  t9:=Tryz.underlying9
  a9:=Tryz.isAgg9
  z9:=Tryz.sizeOf9
  v9:=Tryz.zeroValue9
  t31:=Tryz.underlying95
  a31:=Tryz.isAgg95
  z31:=Tryz.sizeOf95
  v31:=Tryz.zeroValue95
  t46:=Tryz.underlying73
  a46:=Tryz.isAgg73
  z46:=Tryz.sizeOf73
  v46:=Tryz.zeroValue73
  t51:=Tryz.underlying286
  a51:=Tryz.isAgg286
  z51:=Tryz.sizeOf286
  v51:=Tryz.zeroValue286
  t53:=Tryz.underlying288
  a53:=Tryz.isAgg288
  z53:=Tryz.sizeOf288
  v53:=Tryz.zeroValue288
  t131:=Tryz.underlying143
  a131:=Tryz.isAgg143
  z131:=Tryz.sizeOf143
  v131:=Tryz.zeroValue143
  t182:=Tryz.underlying279
  a182:=Tryz.isAgg279
  z182:=Tryz.sizeOf279
  v182:=Tryz.zeroValue279
  t183:=Tryz.underlying280
  a183:=Tryz.isAgg280
  z183:=Tryz.sizeOf280
  v183:=Tryz.zeroValue280
  t218:=Tryz.underlying313
  a218:=Tryz.isAgg313
  z218:=Tryz.sizeOf313
  v218:=Tryz.zeroValue313
  t222:=Tryz.underlying317
  a222:=Tryz.isAgg317
  z222:=Tryz.sizeOf317
  v222:=Tryz.zeroValue317
  t228:=Tryz.underlying355
  a228:=Tryz.isAgg355
  z228:=Tryz.sizeOf355
  v228:=Tryz.zeroValue355
  t229:=Tryz.underlying356
  a229:=Tryz.isAgg356
  z229:=Tryz.sizeOf356
  v229:=Tryz.zeroValue356 }
open Go.Sort Go.RowKit in
theorem Tryz.slices_Sort_string (blk off cap:Nat) (ss:List (List UInt8)) (w:World) (hH:Holds encStr w blk off ss.toArray) (hblk:blk<w.heap.size) (hsz:ss.length<4611686018427387904) :Calls Tryz.prog 155 #[.slice (some ⟨blk,off,none⟩) ss.length cap] w fun e w' => e = .returned (.tuple #[])∧∃n os,w'=grow (putRow encStr (Sort.ahead w n) blk off (ss.mergeSort fun x y=>decide (x≤y)).toArray) os:=Any.slices_Sort_string Tryz.lays190 blk off cap ss w hH hblk hsz
open Go.RowKit Go.Lib in
def Tryz.lays149_ren:Go.Shelf.Ren:=⟨fun|149=>103|222=>140|n=>n,fun|9=>9|5=>5|3=>3|4=>4|n=>n,fun|n=>n⟩
theorem Tryz.lays149:Go.Proofs.Lays.n149 Tryz.prog Tryz.lays149_ren:={
  mixed:=by kernel_rfl
  f149:=Tryz.func103.trans (congrArg some (by kernel_rfl))
  f222:=Tryz.func140.trans (congrArg some (by kernel_rfl))
  t3:=Tryz.underlying3
  a3:=Tryz.isAgg3
  z3:=Tryz.sizeOf3
  v3:=Tryz.zeroValue3
  t4:=Tryz.underlying4
  a4:=Tryz.isAgg4
  z4:=Tryz.sizeOf4
  v4:=Tryz.zeroValue4
  t5:=Tryz.underlying5
  a5:=Tryz.isAgg5
  z5:=Tryz.sizeOf5
  v5:=Tryz.zeroValue5
  t9:=Tryz.underlying9
  a9:=Tryz.isAgg9
  z9:=Tryz.sizeOf9
  v9:=Tryz.zeroValue9 }
open Go.RowKit Go.Lib in
theorem Tryz.strings_LastIndexByte (s:ByteArray) (c:Int) (hs:s.size<4611686018427387904) (w:World) :Calls Tryz.prog 103 #[.string s,.int .u8 c] w fun e w'=>e = .returned (.int .i64 (Lib.lastIndexByte s c))∧w'=w:=Any.strings_LastIndexByte Tryz.lays149 s c hs w
open Go.RowKit Go.Lib in
open Go.RowKit Go.Lib in
def Tryz.lays146_ren:Go.Shelf.Ren:=⟨fun|146=>136|221=>184|268=>218|138=>219|143=>220|195=>259|197=>260|218=>261|219=>262|260=>281|217=>282|225=>283|224=>284|267=>285|266=>295|314=>296|n=>n,fun|9=>9|31=>95|3=>3|4=>4|0=>0|105=>363|21=>21|5=>5|46=>73|119=>394|139=>397|138=>396|146=>398|51=>286|n=>n,fun|1=>1|3=>2|4=>3|n=>n⟩
theorem Tryz.lays146:Go.Proofs.Lays.n146 Tryz.prog Tryz.lays146_ren:={
  mixed:=by kernel_rfl
  f138:=Tryz.func219.trans (congrArg some (by kernel_rfl))
  f143:=Tryz.func220.trans (congrArg some (by kernel_rfl))
  f146:=Tryz.func136.trans (congrArg some (by kernel_rfl))
  f195:=Tryz.func259.trans (congrArg some (by kernel_rfl))
  f197:=Tryz.func260.trans (congrArg some (by kernel_rfl))
  f217:=Tryz.func282.trans (congrArg some (by kernel_rfl))
  f218:=Tryz.func261.trans (congrArg some (by kernel_rfl))
  f219:=Tryz.func262.trans (congrArg some (by kernel_rfl))
  f221:=Tryz.func184.trans (congrArg some (by kernel_rfl))
  f224:=Tryz.func284.trans (congrArg some (by kernel_rfl))
  f225:=Tryz.func283.trans (congrArg some (by kernel_rfl))
  f260:=Tryz.func281.trans (congrArg some (by kernel_rfl))
  f266:=Tryz.func295.trans (congrArg some (by kernel_rfl))
  f267:=Tryz.func285.trans (congrArg some (by kernel_rfl))
  f268:=Tryz.func218.trans (congrArg some (by kernel_rfl))
  f314:=Tryz.func296.trans (congrArg some (by kernel_rfl))
  t0:=Tryz.underlying0
  a0:=Tryz.isAgg0
  z0:=Tryz.sizeOf0
  v0:=Tryz.zeroValue0
  t3:=Tryz.underlying3
  a3:=Tryz.isAgg3
  z3:=Tryz.sizeOf3
  v3:=Tryz.zeroValue3
  t4:=Tryz.underlying4
  a4:=Tryz.isAgg4
  z4:=Tryz.sizeOf4
  v4:=Tryz.zeroValue4
  t5:=Tryz.underlying5
  a5:=Tryz.isAgg5
  z5:=Tryz.sizeOf5
  v5:=Tryz.zeroValue5
  t9:=Tryz.underlying9
  a9:=Tryz.isAgg9
  z9:=Tryz.sizeOf9
  v9:=Tryz.zeroValue9
  t21:=Tryz.underlying21
  a21:=Tryz.isAgg21
  z21:=Tryz.sizeOf21
  v21:=Tryz.zeroValue21
  t31:=Tryz.underlying95
  a31:=Tryz.isAgg95
  z31:=Tryz.sizeOf95
  v31:=Tryz.zeroValue95
  t46:=Tryz.underlying73
  a46:=Tryz.isAgg73
  z46:=Tryz.sizeOf73
  v46:=Tryz.zeroValue73
  t51:=Tryz.underlying286
  a51:=Tryz.isAgg286
  z51:=Tryz.sizeOf286
  v51:=Tryz.zeroValue286
  t105:=Tryz.underlying363
  a105:=Tryz.isAgg363
  z105:=Tryz.sizeOf363
  v105:=Tryz.zeroValue363
  t119:=Tryz.underlying394
  a119:=Tryz.isAgg394
  z119:=Tryz.sizeOf394
  t138:=Tryz.underlying396
  a138:=Tryz.isAgg396
  z138:=Tryz.sizeOf396
  v138:=Tryz.zeroValue396
  t139:=Tryz.underlying397
  a139:=Tryz.isAgg397
  z139:=Tryz.sizeOf397
  v139:=Tryz.zeroValue397
  t146:=Tryz.underlying398
  a146:=Tryz.isAgg398
  z146:=Tryz.sizeOf398
  v146:=Tryz.zeroValue398
  g1:=by kernel_rfl
  g3:=by kernel_rfl
  g4:=by kernel_rfl }
open Go.RowKit Go.Lib in
theorem Tryz.strings_Split (s sep:ByteArray) (m:Int) (w:World) (hs:s.size<4294967281) (hm:w.cell? ⟨1,0,none⟩=some (.int .i64 m)) (h1:1≤sep.size) :Calls Tryz.prog 136 #[.string s,.string sep] w fun e w' => e = .returned (.slice (some ⟨w.heap.size,0,none⟩) (Lib.countB s sep+1) (Lib.countB s sep+1))∧w'=w.alloc (.cells ((Lib.splitB sep 0 (Lib.countB s sep) s).map Value.string).toArray 9):=Any.strings_Split Tryz.lays146 (by kernel_rfl) s sep m w hs hm h1
open Go.RowKit Go.Lib in
open Go.RowKit Go.Lib in
def Tryz.lays152_ren:Go.Shelf.Ren:=⟨fun|152=>263|137=>286|119=>287|224=>284|225=>283|217=>282|266=>295|n=>n,fun|9=>9|21=>21|3=>3|4=>4|5=>5|0=>0|46=>73|n=>n,fun|n=>n⟩
theorem Tryz.lays152:Go.Proofs.Lays.n152 Tryz.prog Tryz.lays152_ren:={
  mixed:=by kernel_rfl
  f119:=Tryz.func287.trans (congrArg some (by kernel_rfl))
  f137:=Tryz.func286.trans (congrArg some (by kernel_rfl))
  f152:=Tryz.func263.trans (congrArg some (by kernel_rfl))
  f217:=Tryz.func282.trans (congrArg some (by kernel_rfl))
  f224:=Tryz.func284.trans (congrArg some (by kernel_rfl))
  f225:=Tryz.func283.trans (congrArg some (by kernel_rfl))
  f266:=Tryz.func295.trans (congrArg some (by kernel_rfl))
  t0:=Tryz.underlying0
  a0:=Tryz.isAgg0
  z0:=Tryz.sizeOf0
  v0:=Tryz.zeroValue0
  t3:=Tryz.underlying3
  a3:=Tryz.isAgg3
  z3:=Tryz.sizeOf3
  v3:=Tryz.zeroValue3
  t4:=Tryz.underlying4
  a4:=Tryz.isAgg4
  z4:=Tryz.sizeOf4
  v4:=Tryz.zeroValue4
  t5:=Tryz.underlying5
  a5:=Tryz.isAgg5
  z5:=Tryz.sizeOf5
  v5:=Tryz.zeroValue5
  t9:=Tryz.underlying9
  a9:=Tryz.isAgg9
  z9:=Tryz.sizeOf9
  v9:=Tryz.zeroValue9
  t21:=Tryz.underlying21
  a21:=Tryz.isAgg21
  z21:=Tryz.sizeOf21
  v21:=Tryz.zeroValue21
  t46:=Tryz.underlying73
  a46:=Tryz.isAgg73
  z46:=Tryz.sizeOf73
  v46:=Tryz.zeroValue73 }
open Go.RowKit Go.Lib in
theorem Tryz.strings_IndexRune_ascii (s:ByteArray) (r:Int) (w:World) (h0:0≤r) (h1:r<128) :Calls Tryz.prog 263 #[.string s,.int .i32 r] w fun e w'=>e = .returned (.int .i64 (Lib.indexByte s.data.toList r.toNat.toUInt8))∧w'=w:=Any.strings_IndexRune_ascii Tryz.lays152 s r w h0 h1
open Go.RowKit Go.Lib in
def Tryz.lays226_ren:Go.Shelf.Ren:=⟨fun|226=>264|n=>n,fun|3=>3|4=>4|n=>n,fun|n=>n⟩
theorem Tryz.lays226:Go.Proofs.Lays.n226 Tryz.prog Tryz.lays226_ren:={
  mixed:=by kernel_rfl
  f226:=Tryz.func264.trans (congrArg some (by kernel_rfl))
  t3:=Tryz.underlying3
  a3:=Tryz.isAgg3
  z3:=Tryz.sizeOf3
  v3:=Tryz.zeroValue3
  t4:=Tryz.underlying4
  a4:=Tryz.isAgg4
  z4:=Tryz.sizeOf4
  v4:=Tryz.zeroValue4 }
open Go.RowKit Go.Lib in
theorem Tryz.strings_shouldUseASCIISet (n:Int) (w:World) :Calls Tryz.prog 264 #[.int .i64 n] w fun e w'=>e = .returned (.bool (decide (8<n)))∧w'=w:=Any.strings_shouldUseASCIISet Tryz.lays226 n w
def Tryz.lays153_ren:Go.Shelf.Ren:=⟨fun|153=>221|152=>263|226=>264|227=>265|228=>266|137=>286|119=>287|224=>284|225=>283|217=>282|266=>295|n=>n,fun|9=>9|3=>3|4=>4|5=>5|21=>21|117=>368|116=>367|0=>0|46=>73|124=>385|n=>n,fun|n=>n⟩
theorem Tryz.lays153:Go.Proofs.Lays.n153 Tryz.prog Tryz.lays153_ren:={
  mixed:=by kernel_rfl
  f119:=Tryz.func287.trans (congrArg some (by kernel_rfl))
  f137:=Tryz.func286.trans (congrArg some (by kernel_rfl))
  f152:=Tryz.func263.trans (congrArg some (by kernel_rfl))
  f153:=Tryz.func221.trans (congrArg some (by kernel_rfl))
  f217:=Tryz.func282.trans (congrArg some (by kernel_rfl))
  f224:=Tryz.func284.trans (congrArg some (by kernel_rfl))
  f225:=Tryz.func283.trans (congrArg some (by kernel_rfl))
  f226:=Tryz.func264.trans (congrArg some (by kernel_rfl))
  f227:=Tryz.func265.trans (congrArg some (by kernel_rfl))
  f228:=Tryz.func266.trans (congrArg some (by kernel_rfl))
  f266:=Tryz.func295.trans (congrArg some (by kernel_rfl))
  t0:=Tryz.underlying0
  a0:=Tryz.isAgg0
  z0:=Tryz.sizeOf0
  v0:=Tryz.zeroValue0
  t3:=Tryz.underlying3
  a3:=Tryz.isAgg3
  z3:=Tryz.sizeOf3
  v3:=Tryz.zeroValue3
  t4:=Tryz.underlying4
  a4:=Tryz.isAgg4
  z4:=Tryz.sizeOf4
  v4:=Tryz.zeroValue4
  t5:=Tryz.underlying5
  a5:=Tryz.isAgg5
  z5:=Tryz.sizeOf5
  v5:=Tryz.zeroValue5
  t9:=Tryz.underlying9
  a9:=Tryz.isAgg9
  z9:=Tryz.sizeOf9
  v9:=Tryz.zeroValue9
  t21:=Tryz.underlying21
  a21:=Tryz.isAgg21
  z21:=Tryz.sizeOf21
  v21:=Tryz.zeroValue21
  t46:=Tryz.underlying73
  a46:=Tryz.isAgg73
  z46:=Tryz.sizeOf73
  v46:=Tryz.zeroValue73
  t116:=Tryz.underlying367
  a116:=Tryz.isAgg367
  z116:=Tryz.sizeOf367
  t117:=Tryz.underlying368
  a117:=Tryz.isAgg368
  z117:=Tryz.sizeOf368
  v117:=Tryz.zeroValue368
  t124:=Tryz.underlying385
  a124:=Tryz.isAgg385
  z124:=Tryz.sizeOf385
  v124:=Tryz.zeroValue385 }
open Go.RowKit Go.Lib in
open Go.RowKit Go.Lib in
open Go.RowKit Go.Lib in
open Go.RowKit Go.Lib in
open Go.RowKit Go.Lib in
open Go.RowKit Go.Lib in
theorem Tryz.strings_IndexAny_long (hv116:∀w,(zeroValue 367).run Tryz.prog w = .ok (.agg (Array.replicate 256 (.bool false))) w) (s chars:ByteArray) (w:World) (h2:2≤chars.size) (h8:8<s.size) (hs:s.size<4294967281) (hcs:chars.size<4294967281) (hascii:∀(j:Nat) b,chars.data.toList[j]? = some b→b.toNat<128) :Calls Tryz.prog 221 #[.string s,.string chars] w fun e w'=>e = .returned (.int .i64 (Lib.indexAny s.data.toList chars.data.toList))∧w'=((w.alloc (.cells (Lib.setCells chars.data.toList) 367)).alloc (.cells (Lib.setCells chars.data.toList) 367)):=Any.strings_IndexAny_long Tryz.lays153 hv116 (by kernel_rfl) s chars w h2 h8 hs hcs hascii
open Go.RowKit Go.Lib in
open Go.RowKit Go.Lib in
open Go.RowKit Go.Lib in
open Go.RowKit Go.Lib in
open Go.RowKit Go.Lib in
open Go.RowKit Go.Lib in
def Tryz.lays193_ren:Go.Shelf.Ren:=⟨fun|193=>293|n=>n,fun|31=>95|9=>9|4=>4|3=>3|0=>0|n=>n,fun|n=>n⟩
theorem Tryz.lays193:Go.Proofs.Lays.n193 Tryz.prog Tryz.lays193_ren:={
  mixed:=by kernel_rfl
  f193:=Tryz.func293.trans (congrArg some (by kernel_rfl))
  t0:=Tryz.underlying0
  a0:=Tryz.isAgg0
  z0:=Tryz.sizeOf0
  v0:=Tryz.zeroValue0
  t3:=Tryz.underlying3
  a3:=Tryz.isAgg3
  z3:=Tryz.sizeOf3
  v3:=Tryz.zeroValue3
  t4:=Tryz.underlying4
  a4:=Tryz.isAgg4
  z4:=Tryz.sizeOf4
  v4:=Tryz.zeroValue4
  t9:=Tryz.underlying9
  a9:=Tryz.isAgg9
  z9:=Tryz.sizeOf9
  v9:=Tryz.zeroValue9
  t31:=Tryz.underlying95
  a31:=Tryz.isAgg95
  z31:=Tryz.sizeOf95
  v31:=Tryz.zeroValue95 }
open Go.RowKit Go.Lib in
theorem Tryz.slices_Equal_string (b1 o1 n c b2 o2 m d:Nat) (xs ys:List ByteArray) (w:World) (hx:n≤xs.length) (hy:m≤ys.length) (hbig:n≤9223372036854775807) (hbig2:m≤9223372036854775807) (hc1:∀j,j<xs.length→w.cell? ⟨b1,o1+j,none⟩=some (.string (xs.getD j ByteArray.empty))) (hc2:∀j,j<ys.length→w.cell? ⟨b2,o2+j,none⟩=some (.string (ys.getD j ByteArray.empty))) :Calls Tryz.prog 293 #[.slice (some ⟨b1,o1,none⟩) n c,.slice (some ⟨b2,o2,none⟩) m d] w fun e w'=>e = .returned (.bool (decide (xs.take n=ys.take m)))∧∃q,w'=w.drewN q:=Any.slices_Equal_string Tryz.lays193 b1 o1 n c b2 o2 m d xs ys w hx hy hbig hbig2 hc1 hc2
open Go.RowKit Go.Lib in
theorem Tryz.slices_Equal_string_empty (a1 a2:Option Addr) (c m d:Nat) (w:World) (hbig2:m≤9223372036854775807) :Calls Tryz.prog 293 #[.slice a1 0 c,.slice a2 m d] w fun e w'=>e = .returned (.bool (decide (m=0)))∧w'=w:=Any.slices_Equal_string_empty Tryz.lays193 a1 a2 c m d w hbig2
def Tryz.laysNm216_ren:Go.Shelf.Ren:=⟨fun|16=>276|n=>n,fun|24=>95|9=>9|4=>4|n=>n,fun|n=>n⟩
theorem Tryz.laysNm216:Go.Proofs.Lays2.n16 Tryz.prog Tryz.laysNm216_ren:={
  mixed:=by kernel_rfl
  f16:=Tryz.func276.trans (congrArg some (by kernel_rfl))
  t4:=Tryz.underlying4
  a4:=Tryz.isAgg4
  z4:=Tryz.sizeOf4
  v4:=Tryz.zeroValue4
  t9:=Tryz.underlying9
  a9:=Tryz.isAgg9
  z9:=Tryz.sizeOf9
  v9:=Tryz.zeroValue9
  t24:=Tryz.underlying95
  a24:=Tryz.isAgg95
  z24:=Tryz.sizeOf95
  v24:=Tryz.zeroValue95
  i9:=by kernel_rfl }
open Go.RowKit Go.Lib in
theorem Tryz.slices_Clone_string (b off n c:Nat) (zs:List ByteArray) (w:World) (hz:n≤zs.length) (hbig:n*16≤140737488355328) (hc:∀j,j<zs.length→w.cell? ⟨b,off+j,none⟩=some (.string (zs.getD j ByteArray.empty))) :Calls Tryz.prog 276 #[.slice (some ⟨b,off,none⟩) n c] w fun e w'=>∃v',e = .returned v'∧w'.ownsRow w.heap.size 9 1 v' n ((zs.take n).map (Value.string))∧v'≠.slice none 0 0∧Below w.heap.size w w':=Any.slices_Clone_string Tryz.laysNm216 b off n c zs w hz hbig hc
open Go.RowKit Go.Lib in
theorem Tryz.slices_Clone_string_nil (n c:Nat) (w:World) :Calls Tryz.prog 276 #[.slice none n c] w fun e w'=>e = .returned (.slice none 0 0)∧w'=w:=Any.slices_Clone_string_nil Tryz.laysNm216 n c w
open Go.RowKit Go.Lib in
theorem Tryz.slices_Clone_string_zero (a:Addr) (c:Nat) (w:World) :Calls Tryz.prog 276 #[.slice (some a) 0 c] w fun e w'=>∃v',e = .returned v'∧w'.ownsRow w.heap.size 9 1 v' 0 []∧v'≠.slice none 0 0∧Below w.heap.size w w':=Any.slices_Clone_string_zero Tryz.laysNm216 a c w
open Go.RowKit Go.Lib in
open Go.RowKit Go.Sort in
theorem Tryz.slices_Sort_string_none (p:Option Addr) (cap:Nat) (w:World) :Calls Tryz.prog 155 #[.slice p 0 cap] w fun e w'=>e = .returned (.tuple #[])∧w'=w:=Any.slices_Sort_string_none Tryz.lays190 p cap w
def Tryz.lays187_ren:Go.Shelf.Ren:=⟨fun|187=>222|255=>267|n=>n,fun|37=>58|5=>5|3=>3|n=>n,fun|n=>n⟩
theorem Tryz.lays187:Go.Proofs.Lays.n187 Tryz.prog Tryz.lays187_ren:={
  mixed:=by kernel_rfl
  f187:=Tryz.func222.trans (congrArg some (by kernel_rfl))
  f255:=Tryz.func267.trans (congrArg some (by kernel_rfl))
  t3:=Tryz.underlying3
  a3:=Tryz.isAgg3
  z3:=Tryz.sizeOf3
  v3:=Tryz.zeroValue3
  t5:=Tryz.underlying5
  a5:=Tryz.isAgg5
  z5:=Tryz.sizeOf5
  v5:=Tryz.zeroValue5
  t37:=Tryz.underlying58
  a37:=Tryz.isAgg58
  z37:=Tryz.sizeOf58
  v37:=Tryz.zeroValue58 }
open Go.RowKit Go.Lib in
open Go.RowKit Go.Lib in
theorem Tryz.slices_Equal_string_lens (a1 a2:Option Addr) (n c m d:Nat) (w:World) (hnm:n≠m) :Calls Tryz.prog 293 #[.slice a1 n c,.slice a2 m d] w fun e w'=>e = .returned (.bool false)∧w'=w:=Any.slices_Equal_string_lens Tryz.lays193 a1 a2 n c m d w hnm
open Go.Proofs Go.RowKit Go.Lib in
def Tryz.lays115_ren:Go.Shelf.Ren:=⟨fun|115=>150|n=>n,fun|37=>58|4=>4|9=>9|5=>5|n=>n,fun|n=>n⟩
theorem Tryz.lays115:Go.Proofs.Lays.n115 Tryz.prog Tryz.lays115_ren:={
  mixed:=by kernel_rfl
  f115:=Tryz.func150.trans (congrArg some (by kernel_rfl))
  t4:=Tryz.underlying4
  a4:=Tryz.isAgg4
  z4:=Tryz.sizeOf4
  v4:=Tryz.zeroValue4
  t9:=Tryz.underlying9
  a9:=Tryz.isAgg9
  z9:=Tryz.sizeOf9
  v9:=Tryz.zeroValue9
  t37:=Tryz.underlying58
  a37:=Tryz.isAgg58
  z37:=Tryz.sizeOf58
  v37:=Tryz.zeroValue58 }
open Go.Proofs Go.RowKit Go.Lib in
theorem Tryz.bytes_Equal_strs (v1 v2:Value) (t1 t2:ByteArray) (w:World) (h1:(convert 58 9 v1).run Tryz.prog w = .ok (.string t1) w) (h2:(convert 58 9 v2).run Tryz.prog w = .ok (.string t2) w) :Calls Tryz.prog 150 #[v1,v2] w fun e w'=>e = .returned (.bool (t1.toList==t2.toList))∧w'=w:=Any.bytes_Equal_strs Tryz.lays115 v1 v2 t1 t2 w h1 h2
open Go.RowKit Go.Lib in
open Go.RowKit Go.Lib in
open Go.RowKit Go.Lib in
open Go.RowKit Go.Lib in
open Go.RowKit Go.Lib in
open Go.RowKit Go.Lib in
theorem Tryz.bytes_IndexByte (b o n c:Nat) (xs:List Int) (cv:Int) (w:World) (hx:xs.length=n) (hc:∀i,i<n→w.cell? ⟨b,o+i,none⟩=some (.int .u8 (xs.getD i 0))) :Calls Tryz.prog 222 #[.slice (some ⟨b,o,none⟩) n c,.int .u8 cv] w fun e w'=>e = .returned (.int .i64 (Lib.indexByte (Lib.bytesOf xs) cv.toNat.toUInt8))∧w'=w:=Any.bytes_IndexByte Tryz.lays187 b o n c xs cv w hx hc
end Go.Proofs
