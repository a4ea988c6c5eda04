/-
  Parts of the proof, one behind the other. Own work of this seat; some printed by its programs.
-/
import Derived.Test.YtpmgdngjbdkdfaaGreatDoorM1
import Derived.Test.YtpmgdngjbdkdfaaGreatDoorProg
import Derived.Shelf.Strings.Builder1
import Derived.Shelf.Strings.Builder2
import Derived.Shelf.Strings.OnBuilder
import Derived.Shelf.Small.Wraps
import Derived.Shelf.Strings.BuilderF
import Derived.Shelf.Strings.BuilderK
import Derived.Shelf.Strings.Search1
import Derived.Shelf.Strings.Search2
import Derived.Shelf.Strings.Search3
import Derived.Shelf.Strings.Count
import Derived.Shelf.LaysM
import Derived.Shelf.Strings.Shaped
import Derived.Shelf.Strings.LastIndex
import Derived.Shelf.Strings.Prefix
import Derived.Shelf.Strings.Split
import Derived.Shelf.Strings.SplitShaped
import Derived.Shelf.Unicode.Decode
import Derived.Shelf.Strings.RuneCount
import Derived.Shelf.Strings.Explode
import Derived.Shelf.Unicode.DecodeSlow
import Derived.Shelf.Unicode.DecodeAny
import Derived.Ground.Names2Prog
import Derived.Shelf.Slices.Clone
import Derived.Ground.SlgfProg
import Derived.Shelf.SlicesE.IndexFunc
import Derived.Shelf.SlicesE.DeleteFunc
import Derived.WalkKit
import Derived.Lib.OwnBridge
import Derived.Lib.FieldsP
import Derived.Lib.TrimUEq
import Derived.Test.YtpmgdngjbdkdfaaGreatDoorM3
namespace Go.Proofs.YtpmgdngjbdkdfaaGreatDoor
open Go.Abs Go.RowKit
noncomputable def cxD (w:World):Cx:=⟨Tryz.prog,w,fun _=>none⟩
theorem mixed :Tryz.prog.follows .mixedOrders=true:=by kernel_rfl
def HasMax (w:World):Prop:= ∃m,w.cell? ⟨1,0,none⟩=some (.int .i64 m)
structure EnvOK (w:World):Prop where
 max:HasMax w
end Go.Proofs.YtpmgdngjbdkdfaaGreatDoor
namespace Go.Proofs
open Go.Shelf
def Tryz.lays156_ren :Go.Shelf.Ren:=⟨fun|156=>78|165=>98|166=>99|169=>100|240=>114|241=>115|276=>123|277=>124|n=>n,fun|31=>84|9=>9|3=>3|4=>4|0=>0|20=>20|72=>137|76=>141|70=>135|37=>46|75=>140|127=>160|164=>162|5=>5|80=>143|n=>n,fun|n=>n⟩
theorem Tryz.lays156 :Go.Proofs.Lays.n156 Tryz.prog Tryz.lays156_ren:= {
 mixed:=by kernel_rfl
 f156:=Tryz.func78.trans (congrArg some (by kernel_rfl))
 f165:=Tryz.func98.trans (congrArg some (by kernel_rfl))
 f166:=Tryz.func99.trans (congrArg some (by kernel_rfl))
 f169:=Tryz.func100.trans (congrArg some (by kernel_rfl))
 f240:=Tryz.func114.trans (congrArg some (by kernel_rfl))
 f241:=Tryz.func115.trans (congrArg some (by kernel_rfl))
 f276:=Tryz.func123.trans (congrArg some (by kernel_rfl))
 f277:=Tryz.func124.trans (congrArg some (by kernel_rfl))
 t0:=Tryz.underlying0
 a0:=Tryz.isAgg0
 z0:=Tryz.sizeOf0
 v0:=Tryz.zeroValue0
 t3:=Tryz.underlying3
 a3:=Tryz.isAgg3
 z3:=Tryz.sizeOf3
 v3:=Tryz.zeroValue3
 t4:=Tryz.underlying4
 a4:=Tryz.isAgg4
 z4:=Tryz.sizeOf4
 v4:=Tryz.zeroValue4
 t9:=Tryz.underlying9
 a9:=Tryz.isAgg9
 z9:=Tryz.sizeOf9
 v9:=Tryz.zeroValue9
 t20:=Tryz.underlying20
 a20:=Tryz.isAgg20
 z20:=Tryz.sizeOf20
 v20:=Tryz.zeroValue20
 t31:=Tryz.underlying84
 a31:=Tryz.isAgg84
 z31:=Tryz.sizeOf84
 v31:=Tryz.zeroValue84
 t37:=Tryz.underlying46
 a37:=Tryz.isAgg46
 z37:=Tryz.sizeOf46
 v37:=Tryz.zeroValue46
 t70:=Tryz.underlying135
 a70:=Tryz.isAgg135
 z70:=Tryz.sizeOf135
 v70:=Tryz.zeroValue135
 t72:=Tryz.underlying137
 a72:=Tryz.isAgg137
 z72:=Tryz.sizeOf137
 v72:=Tryz.zeroValue137
 t75:=Tryz.underlying140
 a75:=Tryz.isAgg140
 z75:=Tryz.sizeOf140
 v75:=Tryz.zeroValue140
 t76:=Tryz.underlying141
 a76:=Tryz.isAgg141
 z76:=Tryz.sizeOf141
 v76:=Tryz.zeroValue141
 t127:=Tryz.underlying160
 a127:=Tryz.isAgg160
 z127:=Tryz.sizeOf160
 v127:=Tryz.zeroValue160
 t164:=Tryz.underlying162
 a164:=Tryz.isAgg162
 z164:=Tryz.sizeOf162
 v164:=Tryz.zeroValue162}
theorem Tryz.Builder_Extra_156 :Builder.Extra Tryz.prog Tryz.lays156_ren:= {
 sizeBuilder:=by kernel_rfl
 liesBuilder:=by kernel_rfl
 t5:=Tryz.underlying5
 a5:=Tryz.isAgg5
 z5:=Tryz.sizeOf5
 v5:=Tryz.zeroValue5
 infoByte:=by kernel_rfl
 cellsByte:=by kernel_rfl
 sizeByte:=by kernel_rfl
 neB5:=by decide}
open Go.RowKit in
theorem Tryz.strings_Join_none (a:Option Addr)(c:Nat)(sep:ByteArray)(w:World):
  Calls Tryz.prog 78 #[.slice a 0 c, .string sep] w fun e w'=>e= .returned (.string ⟨#[]⟩)/\w'=w:=Any.strings_Join_none Tryz.lays156 Tryz.Builder_Extra_156 a c sep w
open Go.RowKit in
theorem Tryz.strings_Join (bk o c:Nat)(xs:List ByteArray)(sep:ByteArray)(w:World)(hcells:∀(j:Nat) x,xs[j]? =some x->w.cell? ⟨bk,o+j,none⟩=some (.string x))(hbk:bk<w.heap.size)(hN:xs.length<=140737488355328)(hcap:xs.length<=c)(hlen:(Lib.join (xs.map (·.data.toList)) sep.data.toList).length<=140737488355328):
  Calls Tryz.prog 78 #[.slice (some ⟨bk,o,none⟩) xs.length c, .string sep] w fun e w'=>e= .returned (.string ⟨(Lib.join (xs.map (·.data.toList)) sep.data.toList).toArray⟩)/\Below w.heap.size w w':=Any.strings_Join Tryz.lays156 Tryz.Builder_Extra_156 bk o c xs sep w hcells hbk hN hcap hlen
def Tryz.lays103_ren :Go.Shelf.Ren:=⟨fun|103=>60|210=>77|206=>97|n=>n,fun|9=>9|4=>4|24=>72|3=>3|n=>n,fun|n=>n⟩
theorem Tryz.lays103 :Go.Proofs.Lays.n103 Tryz.prog Tryz.lays103_ren:= {
 mixed:=by kernel_rfl
 f103:=Tryz.func60.trans (congrArg some (by kernel_rfl))
 f206:=Tryz.func97.trans (congrArg some (by kernel_rfl))
 f210:=Tryz.func77.trans (congrArg some (by kernel_rfl))
 t3:=Tryz.underlying3
 a3:=Tryz.isAgg3
 z3:=Tryz.sizeOf3
 v3:=Tryz.zeroValue3
 t4:=Tryz.underlying4
 a4:=Tryz.isAgg4
 z4:=Tryz.sizeOf4
 v4:=Tryz.zeroValue4
 t9:=Tryz.underlying9
 a9:=Tryz.isAgg9
 z9:=Tryz.sizeOf9
 v9:=Tryz.zeroValue9
 t24:=Tryz.underlying72
 a24:=Tryz.isAgg72
 z24:=Tryz.sizeOf72
 v24:=Tryz.zeroValue72}
open Go.RowKit in
theorem Tryz.strings_CutPrefix (s p:ByteArray)(w:World):
  Calls Tryz.prog 60 #[.string s, .string p] w fun e w'=>e= .returned (.tuple #[.string ⟨(Lib.trimPrefix s.data.toList p.data.toList).toArray⟩, .bool (Lib.hasPrefix s.data.toList p.data.toList)])/\w'=w:=Any.strings_CutPrefix Tryz.lays103 s p w
def Tryz.lays144_ren :Go.Shelf.Ren:=⟨fun|144=>76|143=>96|219=>113|217=>119|225=>120|224=>121|267=>122|266=>125|314=>126|n=>n,fun|9=>9|4=>4|3=>3|5=>5|46=>61|146=>169|51=>119|n=>n,fun|1=>1|n=>n⟩
theorem Tryz.lays144 :Go.Proofs.Lays.n144 Tryz.prog Tryz.lays144_ren:= {
 mixed:=by kernel_rfl
 f143:=Tryz.func96.trans (congrArg some (by kernel_rfl))
 f144:=Tryz.func76.trans (congrArg some (by kernel_rfl))
 f217:=Tryz.func119.trans (congrArg some (by kernel_rfl))
 f219:=Tryz.func113.trans (congrArg some (by kernel_rfl))
 f224:=Tryz.func121.trans (congrArg some (by kernel_rfl))
 f225:=Tryz.func120.trans (congrArg some (by kernel_rfl))
 f266:=Tryz.func125.trans (congrArg some (by kernel_rfl))
 f267:=Tryz.func122.trans (congrArg some (by kernel_rfl))
 f314:=Tryz.func126.trans (congrArg some (by kernel_rfl))
 t3:=Tryz.underlying3
 a3:=Tryz.isAgg3
 z3:=Tryz.sizeOf3
 v3:=Tryz.zeroValue3
 t4:=Tryz.underlying4
 a4:=Tryz.isAgg4
 z4:=Tryz.sizeOf4
 v4:=Tryz.zeroValue4
 t5:=Tryz.underlying5
 a5:=Tryz.isAgg5
 z5:=Tryz.sizeOf5
 v5:=Tryz.zeroValue5
 t9:=Tryz.underlying9
 a9:=Tryz.isAgg9
 z9:=Tryz.sizeOf9
 v9:=Tryz.zeroValue9
 t46:=Tryz.underlying61
 a46:=Tryz.isAgg61
 z46:=Tryz.sizeOf61
 v46:=Tryz.zeroValue61
 t51:=Tryz.underlying119
 a51:=Tryz.isAgg119
 z51:=Tryz.sizeOf119
 v51:=Tryz.zeroValue119
 t146:=Tryz.underlying169
 a146:=Tryz.isAgg169
 z146:=Tryz.sizeOf169
 v146:=Tryz.zeroValue169
 g1:=by kernel_rfl}
open Go.RowKit Go.Lib in
theorem Tryz.strings_Contains (s sub:ByteArray)(m:Int)(w:World)(hs:s.size<4294967281)(hm:w.cell? ⟨1,0,none⟩=some (.int .i64 m)):
  Calls Tryz.prog 76 #[.string s, .string sub] w fun e w'=>e= .returned (.bool (Lib.contains s.data.toList sub.data.toList))/\w'=w:=Any.strings_Contains Tryz.lays144 s sub m w hs hm
def Tryz.lays149_ren :Go.Shelf.Ren:=⟨fun|149=>103|222=>116|n=>n,fun|9=>9|5=>5|3=>3|4=>4|n=>n,fun|n=>n⟩
theorem Tryz.lays149 :Go.Proofs.Lays.n149 Tryz.prog Tryz.lays149_ren:= {
 mixed:=by kernel_rfl
 f149:=Tryz.func103.trans (congrArg some (by kernel_rfl))
 f222:=Tryz.func116.trans (congrArg some (by kernel_rfl))
 t3:=Tryz.underlying3
 a3:=Tryz.isAgg3
 z3:=Tryz.sizeOf3
 v3:=Tryz.zeroValue3
 t4:=Tryz.underlying4
 a4:=Tryz.isAgg4
 z4:=Tryz.sizeOf4
 v4:=Tryz.zeroValue4
 t5:=Tryz.underlying5
 a5:=Tryz.isAgg5
 z5:=Tryz.sizeOf5
 v5:=Tryz.zeroValue5
 t9:=Tryz.underlying9
 a9:=Tryz.isAgg9
 z9:=Tryz.sizeOf9
 v9:=Tryz.zeroValue9}
open Go.RowKit Go.Lib in
theorem Tryz.strings_LastIndexByte (s:ByteArray)(c:Int)(hs:s.size<4611686018427387904)(w:World):
  Calls Tryz.prog 103 #[.string s, .int .u8 c] w fun e w'=>e= .returned (.int .i64 (Lib.lastIndexByte s c))/\w'=w:=Any.strings_LastIndexByte Tryz.lays149 s c hs w
def Tryz.lays146_ren :Go.Shelf.Ren:=⟨fun|146=>56|221=>74|268=>94|138=>95|143=>96|195=>110|197=>111|218=>112|219=>113|260=>118|217=>119|225=>120|224=>121|267=>122|266=>125|314=>126|n=>n,fun|9=>9|31=>84|3=>3|4=>4|0=>0|105=>158|21=>21|5=>5|46=>61|119=>165|139=>168|138=>167|146=>169|51=>119|n=>n,fun|1=>1|3=>2|4=>3|n=>n⟩
theorem Tryz.lays146 :Go.Proofs.Lays.n146 Tryz.prog Tryz.lays146_ren:= {
 mixed:=by kernel_rfl
 f138:=Tryz.func95.trans (congrArg some (by kernel_rfl))
 f143:=Tryz.func96.trans (congrArg some (by kernel_rfl))
 f146:=Tryz.func56.trans (congrArg some (by kernel_rfl))
 f195:=Tryz.func110.trans (congrArg some (by kernel_rfl))
 f197:=Tryz.func111.trans (congrArg some (by kernel_rfl))
 f217:=Tryz.func119.trans (congrArg some (by kernel_rfl))
 f218:=Tryz.func112.trans (congrArg some (by kernel_rfl))
 f219:=Tryz.func113.trans (congrArg some (by kernel_rfl))
 f221:=Tryz.func74.trans (congrArg some (by kernel_rfl))
 f224:=Tryz.func121.trans (congrArg some (by kernel_rfl))
 f225:=Tryz.func120.trans (congrArg some (by kernel_rfl))
 f260:=Tryz.func118.trans (congrArg some (by kernel_rfl))
 f266:=Tryz.func125.trans (congrArg some (by kernel_rfl))
 f267:=Tryz.func122.trans (congrArg some (by kernel_rfl))
 f268:=Tryz.func94.trans (congrArg some (by kernel_rfl))
 f314:=Tryz.func126.trans (congrArg some (by kernel_rfl))
 t0:=Tryz.underlying0
 a0:=Tryz.isAgg0
 z0:=Tryz.sizeOf0
 v0:=Tryz.zeroValue0
 t3:=Tryz.underlying3
 a3:=Tryz.isAgg3
 z3:=Tryz.sizeOf3
 v3:=Tryz.zeroValue3
 t4:=Tryz.underlying4
 a4:=Tryz.isAgg4
 z4:=Tryz.sizeOf4
 v4:=Tryz.zeroValue4
 t5:=Tryz.underlying5
 a5:=Tryz.isAgg5
 z5:=Tryz.sizeOf5
 v5:=Tryz.zeroValue5
 t9:=Tryz.underlying9
 a9:=Tryz.isAgg9
 z9:=Tryz.sizeOf9
 v9:=Tryz.zeroValue9
 t21:=Tryz.underlying21
 a21:=Tryz.isAgg21
 z21:=Tryz.sizeOf21
 v21:=Tryz.zeroValue21
 t31:=Tryz.underlying84
 a31:=Tryz.isAgg84
 z31:=Tryz.sizeOf84
 v31:=Tryz.zeroValue84
 t46:=Tryz.underlying61
 a46:=Tryz.isAgg61
 z46:=Tryz.sizeOf61
 v46:=Tryz.zeroValue61
 t51:=Tryz.underlying119
 a51:=Tryz.isAgg119
 z51:=Tryz.sizeOf119
 v51:=Tryz.zeroValue119
 t105:=Tryz.underlying158
 a105:=Tryz.isAgg158
 z105:=Tryz.sizeOf158
 v105:=Tryz.zeroValue158
 t119:=Tryz.underlying165
 a119:=Tryz.isAgg165
 z119:=Tryz.sizeOf165
 t138:=Tryz.underlying167
 a138:=Tryz.isAgg167
 z138:=Tryz.sizeOf167
 v138:=Tryz.zeroValue167
 t139:=Tryz.underlying168
 a139:=Tryz.isAgg168
 z139:=Tryz.sizeOf168
 v139:=Tryz.zeroValue168
 t146:=Tryz.underlying169
 a146:=Tryz.isAgg169
 z146:=Tryz.sizeOf169
 v146:=Tryz.zeroValue169
 g1:=by kernel_rfl
 g3:=by kernel_rfl
 g4:=by kernel_rfl}
open Go.RowKit Go.Lib in
theorem Tryz.strings_Split (s sep:ByteArray)(m:Int)(w:World)(hs:s.size<4294967281)(hm:w.cell? ⟨1,0,none⟩=some (.int .i64 m))(h1:1<=sep.size):
  Calls Tryz.prog 56 #[.string s, .string sep] w fun e w'=>
   e= .returned (.slice (some ⟨w.heap.size,0,none⟩) (Lib.countB s sep+1) (Lib.countB s sep+1))/\w'=w.alloc (.cells ((Lib.splitB sep 0 (Lib.countB s sep) s).map Value.string).toArray 9):=Any.strings_Split Tryz.lays146 (by kernel_rfl) s sep m w hs hm h1
def Tryz.laysM146_ren :Go.Shelf.Ren:=⟨fun|146=>56|221=>74|268=>94|138=>95|143=>96|195=>110|197=>111|218=>112|219=>113|260=>118|217=>119|225=>120|224=>121|267=>122|266=>125|314=>126|n=>n,fun|9=>9|31=>84|3=>3|4=>4|0=>0|105=>158|21=>21|5=>5|46=>61|119=>165|139=>168|138=>167|146=>169|51=>119|n=>n,fun|1=>1|3=>2|4=>3|n=>n⟩
theorem Tryz.laysM146 :Go.Proofs.LaysM.n146 Tryz.prog Tryz.laysM146_ren:= {
 mixed:=by kernel_rfl
 f138:=Tryz.func95.trans (congrArg some (by kernel_rfl))
 f143:=Tryz.func96.trans (congrArg some (by kernel_rfl))
 f146:=Tryz.func56.trans (congrArg some (by kernel_rfl))
 f195:=Tryz.func110.trans (congrArg some (by kernel_rfl))
 f197:=Tryz.func111.trans (congrArg some (by kernel_rfl))
 f217:=Tryz.func119.trans (congrArg some (by kernel_rfl))
 f218:=Tryz.func112.trans (congrArg some (by kernel_rfl))
 f219:=Tryz.func113.trans (congrArg some (by kernel_rfl))
 f221:=Tryz.func74.trans (congrArg some (by kernel_rfl))
 f224:=Tryz.func121.trans (congrArg some (by kernel_rfl))
 f225:=Tryz.func120.trans (congrArg some (by kernel_rfl))
 f260:=Tryz.func118.trans (congrArg some (by kernel_rfl))
 f266:=Tryz.func125.trans (congrArg some (by kernel_rfl))
 f267:=Tryz.func122.trans (congrArg some (by kernel_rfl))
 f268:=Tryz.func94.trans (congrArg some (by kernel_rfl))
 f314:=Tryz.func126.trans (congrArg some (by kernel_rfl))
 t0:=Tryz.underlying0
 a0:=Tryz.isAgg0
 z0:=Tryz.sizeOf0
 v0:=Tryz.zeroValue0
 t3:=Tryz.underlying3
 a3:=Tryz.isAgg3
 z3:=Tryz.sizeOf3
 v3:=Tryz.zeroValue3
 t4:=Tryz.underlying4
 a4:=Tryz.isAgg4
 z4:=Tryz.sizeOf4
 v4:=Tryz.zeroValue4
 t5:=Tryz.underlying5
 a5:=Tryz.isAgg5
 z5:=Tryz.sizeOf5
 v5:=Tryz.zeroValue5
 t9:=Tryz.underlying9
 a9:=Tryz.isAgg9
 z9:=Tryz.sizeOf9
 v9:=Tryz.zeroValue9
 t21:=Tryz.underlying21
 a21:=Tryz.isAgg21
 z21:=Tryz.sizeOf21
 v21:=Tryz.zeroValue21
 t31:=Tryz.underlying84
 a31:=Tryz.isAgg84
 z31:=Tryz.sizeOf84
 v31:=Tryz.zeroValue84
 t46:=Tryz.underlying61
 a46:=Tryz.isAgg61
 z46:=Tryz.sizeOf61
 v46:=Tryz.zeroValue61
 t51:=Tryz.underlying119
 a51:=Tryz.isAgg119
 z51:=Tryz.sizeOf119
 v51:=Tryz.zeroValue119
 t105:=Tryz.underlying158
 a105:=Tryz.isAgg158
 z105:=Tryz.sizeOf158
 v105:=Tryz.zeroValue158
 t119:=Tryz.underlying165
 a119:=Tryz.isAgg165
 z119:=Tryz.sizeOf165
 t138:=Tryz.underlying167
 a138:=Tryz.isAgg167
 z138:=Tryz.sizeOf167
 v138:=Tryz.zeroValue167
 t139:=Tryz.underlying168
 a139:=Tryz.isAgg168
 z139:=Tryz.sizeOf168
 v139:=Tryz.zeroValue168
 t146:=Tryz.underlying169
 a146:=Tryz.isAgg169
 z146:=Tryz.sizeOf169
 v146:=Tryz.zeroValue169
 g1:=by kernel_rfl
 g3:=by kernel_rfl
 g4:=by kernel_rfl
 i0:=by kernel_rfl
 i3:=by kernel_rfl
 i4:=by kernel_rfl
 i5:=by kernel_rfl
 i9:=by kernel_rfl
 i21:=by kernel_rfl
 i31:=by kernel_rfl
 i46:=by kernel_rfl
 i51:=by kernel_rfl
 i105:=by kernel_rfl
 i138:=by kernel_rfl
 i139:=by kernel_rfl
 i146:=by kernel_rfl
 m1:=by kernel_rfl
 s1_3:=fun w h=>Go.Proofs.cell_of_shapedOpen_int (zero:= #[.int .i64 0]) (t:=3) h (of_decide_eq_true (by kernel_rfl)) (by kernel_rfl) rfl (by kernel_rfl) (by kernel_rfl) Tryz.underlying3
 m3:=by kernel_rfl
 m4:=by kernel_rfl}
end Go.Proofs
namespace Go.Proofs.YtpmgdngjbdkdfaaGreatDoor
open Go.Abs Go.RowKit
theorem Zgg {P : Program} {f : FuncId} {fn : Func} (hf : P.funcs[f]? = some fn) (h : (fn.name == "runtime.NumGoroutine") = false) (hb : fn.body.isNone = false) : Zf8 P f := ⟨fn, hf, by simpa using h, hb⟩
theorem Zhm {W:World}{G φ}{s:Bytes}{x:Value}(h:Rep W G φ (.str s) x):∃t:ByteArray,x= .string t/\t.data.toList=s:=by
 cases h with
 |str l t h=>exact⟨t,rfl,h⟩
theorem Z0e {W:World}{G φ}{u v:V}{xs:Array Value}(h:RepL W G φ [u,v] xs):∃x y,xs= #[x,y]/\Rep W G φ u x/\Rep W G φ v y:=by
 obtain⟨hl,h⟩:=h
 obtain⟨l⟩:=xs
 match l,hl with
 | [x,y],_=>exact⟨x,y,rfl,h 0 u x rfl rfl,h 1 v y rfl rfl⟩
theorem HasMax.at {w:World}(h:HasMax w){W:World}{G:Nat->Nat}(hW:OKW (cxD w) W G):∃m,W.cell? ⟨1,0,none⟩=some (.int .i64 m):=by
 obtain⟨m,hm⟩:=h
 refine⟨m, ?_⟩
 rw[hW.below.cell (p:=⟨1,0,none⟩) ?_]
 ·exact hm
 ·rcases Xa4 1 (cxD w).w0.heap.size with h0|h0
  ·exact h0
  ·exfalso
   have:w.heap[(1:Nat)]? =none:=Xd0 h0
   simp only[World.cell?,this]at hm
   cases hm
theorem Zwn {args:List V}{a b:Bytes}(h:nfL args=[V.str a,V.str b]):args=[.str a, .str b]:=by
 obtain⟨u,v,rfl,h1,h2⟩:=Zii h
 obtain⟨u',v',rfl,h3,h4⟩:=Zii h2
 obtain rfl:=Zwq h4
 rw[Zei h1,Zei h3]
theorem Zxp (l:List Bytes):nfL (l.map .str)=l.map .str:=by rw[Zce,Xdm];rfl
def Zae (c:UInt8):Bytes->List Bytes
 | []=> [[]]
 |b::r=>if b=c then []::Zae c r else match Zae c r with
  | []=> [[b]]
  |x::xs=>(b::x)::xs
theorem Zkw (c:UInt8):∀s:Bytes,Lib.splitK [c] 0 (s.count c) s=Zae c s
 | []=>rfl
 |b::r=>by
  have ih:=Zkw c r
  simp only[Zae]
  by_cases h:b=c
  ·subst h
   rw[List.count_cons_self,if_pos rfl]
   simp only[Lib.splitK,Lib.index]
   simp[ih]
  ·rw[if_neg h,List.count_cons_of_ne h]
   cases hk:r.count c with
   |zero=>rw[hk]at ih;simp only[Lib.splitK]at ih⊢;rw[<-ih]
   |succ k=>
    rw[hk]at ih
    simp only[Lib.splitK,Lib.index]at ih⊢
    have hp:List.isPrefixOf [c] (b::r)=false:=by simp[List.isPrefixOf,Ne.symm h]
    simp only[hp,Xat,if_false]
    by_cases hi:Lib.index r [c]= -1
    ·simp only[hi,beq_self_eq_true,if_true]at ih⊢
     rw[<-ih]
    ·have hge:=Lib.index_ge r [c]
     have e1:(Lib.index r [c]== -1)=false:=by simpa using hi
     have e2:(Lib.index r [c]+1== -1)=false:=by simp;omega
     simp only[e1,e2,Xat,if_false]at ih⊢
     rw[<-ih]
     have e3:(Lib.index r [c]+1).toNat=(Lib.index r [c]).toNat+1:=by omega
     simp[e3]
def g.strings_Split (s c:Bytes):Option (List Bytes):=if s.length<4294967281/\c.length=1 then some (Zae (c.headD 0) s)else none
def K.strings_Split :FC:=fc 56 (fun _=>true) true (fun(a:Bytes×Bytes)=> [V.str a.1,V.str a.2]) (fun(y:List Bytes)=> .sl false 1 (y.map .str)) (fun a=>g.strings_Split a.1 a.2)
 (fun _=>rfl) (fun y=>Zhi (fun _=>rfl) y) (fun⟨a,b⟩ ⟨c,d⟩ h=>by simp at h;simp[h])
theorem H.strings_Split (w:World)(hw:EnvOK w):K.strings_Split.Holds (cxD w):=by
 rintro args y ⟨⟨s,c⟩,r,ha,hg,rfl⟩
 obtain rfl:=Zwn ha
 simp only[g.strings_Split]at hg
 split at hg
 ·rename_i hc
  cases hg
  refine⟨.sl false 1 ((Zae (c.headD 0) s).map .str),true, ?_,by show V.sl false 1 (nfL _)=_;rw[Zxp],fun _=> .inl rfl⟩
  refine PC.texts (Zgg Tryz.func56 (by kernel_rfl) (by kernel_rfl)) fun W G φ xs hW hxs=> ?_
  obtain⟨x,y,rfl,hx,hy⟩:=Z0e hxs
  obtain⟨t,rfl,rfl⟩:=Zhm hx
  obtain⟨u,rfl,hu⟩:=Zhm hy
  obtain⟨m,hm⟩:=hw.max.at hW
  have hu1:u.size=1:=by rw[Lib.size_eq,hu];exact hc.2
  have hsz:t.size<4294967281:=by rw[Lib.size_eq];exact hc.1
  refine(Tryz.strings_Split t u m W hsz hm (by omega)).mono fun e W' ⟨he,hW'⟩=> ?_
  have hlen:=Lib.splitB_all u (by omega) 0 _ t rfl
  refine⟨Lib.splitB u 0 (Lib.countB t u) t,_, ?_,by rw[he,hlen],hW'⟩
  have hu2:u.data.toList=[c.headD 0]:=by
   rw[hu]
   match c,hc.2 with
   | [b],_=>rfl
  rw[Lib.splitB_data,hu2]
  have:Lib.countB t u=t.data.toList.count (c.headD 0):=by
   unfold Lib.countB
   rw[hu2,Lib.count_one]
  rw[this,Zkw]
 ·cases hg
def g.strings_Contains (s c:Bytes):Option Bool:=if s.length<4294967281/\c.length=1 then some (decide (c.headD 0∈s))else none
def K.strings_Contains :FC:=fc 76 (fun _=>true) false (fun(a:Bytes×Bytes)=> [V.str a.1,V.str a.2]) (fun(y:Bool)=> .bool y) (fun a=>g.strings_Contains a.1 a.2)
 (fun _=>rfl) (fun y=>rfl) (fun⟨a,b⟩ ⟨c,d⟩ h=>by simp at h;simp[h])
theorem Zoc (c:UInt8):∀s:Bytes,(Lib.index s [c]= -1)<->c∉s
 | []=>by simp[Lib.index]
 |b::r=>by
  have ih:=Zoc c r
  have hge:=Lib.index_ge r [c]
  simp only[Lib.index]
  by_cases h:b=c
  ·subst h;simp
  ·have hp:List.isPrefixOf [c] (b::r)=false:=by simp[List.isPrefixOf,Ne.symm h]
   simp only[hp,Xat,if_false]
   by_cases hi:Lib.index r [c]= -1
   ·simp[hi,ih.1 hi,Ne.symm h]
   ·have e1:(Lib.index r [c]== -1)=false:=by simpa using hi
    have hm:c∈r:=Classical.not_not.1 fun hn=>hi (ih.2 hn)
    simp[e1,hm];omega
theorem H.strings_Contains (w:World)(hw:EnvOK w):K.strings_Contains.Holds (cxD w):=by
 rintro args y ⟨⟨s,c⟩,r,ha,hg,rfl⟩
 obtain rfl:=Zwn ha
 simp only[g.strings_Contains]at hg
 split at hg
 ·rename_i hc
  cases hg
  refine⟨.bool (decide (c.headD 0∈s)),false, ?_,rfl,fun h=>nomatch h⟩
  refine PC.pure (Zgg Tryz.func76 (by kernel_rfl) (by kernel_rfl)) fun W G φ xs hW hxs=> ?_
  obtain⟨x,y,rfl,hx,hy⟩:=Z0e hxs
  obtain⟨t,rfl,rfl⟩:=Zhm hx
  obtain⟨u,rfl,hu⟩:=Zhm hy
  obtain⟨m,hm⟩:=hw.max.at hW
  have hsz:t.size<4294967281:=by rw[Lib.size_eq];exact hc.1
  refine(Tryz.strings_Contains t u m W hsz hm).mono fun e W' ⟨he,hW'⟩=> ?_
  subst hW'
  refine⟨_,he, .refl _ _,fun _ _=> ?_⟩
  have hu2:u.data.toList=[c.headD 0]:=by
   rw[hu]
   match c,hc.2 with
   | [b],_=>rfl
  rw[hu2]
  have e:decide (0<=Lib.index t.data.toList [c.headD 0])=decide (c.headD 0∈t.data.toList):=by
   have:=Zoc (c.headD 0) t.data.toList
   have hge:=Lib.index_ge t.data.toList [c.headD 0]
   rw[decide_eq_decide]
   constructor
   ·intro h;exact Classical.not_not.1 fun hn=>by have:=this.2 hn;omega
   ·intro h
    have:Lib.index t.data.toList [c.headD 0]≠ -1:=fun h'=>(this.1 h') h
    omega
  have e2:Lib.contains t.data.toList [c.headD 0]=decide (c.headD 0∈t.data.toList):=e
  rw[e2]
  exact .bool _
 ·cases hg
end Go.Proofs.YtpmgdngjbdkdfaaGreatDoor
namespace Go.Proofs.YtpmgdngjbdkdfaaGreatDoor
open Go.Abs Go.RowKit Go.Shelf Go.Sort
theorem Zuz {W:World}{G φ}{nl:Bool}{l:List Bytes}{x:Value}(h:Rep W G φ (.sl nl 1 (l.map .str)) x):
  (x= .slice none 0 0/\l=[]) \/(∃a,x= .slice (some a) 0 0/\l=[]) \/ ∃(b off cap:Nat) (zs:List ByteArray),x= .slice (some ⟨b,off,none⟩) zs.length cap/\zs.map (·.data.toList)=l/\zs.length<=cap/\
   ∀j,j<zs.length->W.cell? ⟨b,off+j,none⟩=some (.string (zs.getD j ByteArray.empty)):=by
 generalize hv:l.map V.str=ys at h
 cases h with
 |slnil=>exact .inl ⟨rfl,Xe8.1 hv⟩
 |sl0 _ a=>exact .inr (.inl ⟨a,rfl,Xe8.1 hv⟩)
 |sl _ _ b off cap rd hcap hG hx hrd h=>
  subst hv
  right;right
  have hs:∀i s,l[i]? =some s-> ∃t:ByteArray,rd i= .string t/\t.data.toList=s:=by
   intro i s hi
   have:=h i (.str s) 0 (.str s) (by simp[hi]) rfl
   simp only[Xcw,Xc5]at this
   obtain⟨t,h1,h2⟩:=Zhm this
   exact⟨t,h1,h2⟩
  refine⟨b,off,cap,(List.range l.length).map fun i=>match rd i with| .string t=>t|_=>ByteArray.empty,by simp, ?_,by simpa using hcap,fun j hj=> ?_⟩
  ·apply Xel
   intro i
   rcases Xa4 i l.length with hi|hi
   ·obtain⟨t,h1,h2⟩:=hs i _ (Xad hi)
    simp[hi,h1,h2]
   ·simp[Xe2.2 hi,hi]
  ·have hj':j<l.length:=by simpa using hj
   obtain⟨t,h1,h2⟩:=hs j _ (Xad hj')
   rw[hrd j (by simpa using hj'),h1]
   simp[List.getD,hj',h1]
theorem Zvb :∀{xs:List V} {l:List Bytes},nfL xs=l.map V.str->xs=l.map V.str
 | [],[],_=>rfl
 | [],_::_,h=>by simp[nfL]at h
 |_::_,[],h=>by simp[nfL]at h
 |x::xs,y::l,h=>by
  obtain⟨h1,h2⟩:=List.cons.inj (show x.nf::nfL xs=V.str y::l.map V.str from h)
  rw[Zei h1,Zvb h2];rfl
end Go.Proofs.YtpmgdngjbdkdfaaGreatDoor
namespace Go.Proofs.YtpmgdngjbdkdfaaGreatDoor
open Go.Abs Go.RowKit Go.Shelf Go.Sort
def g.strings_Join (l:List Bytes)(s:Bytes):Option Bytes:=
 if l.length<=1000000000/\(Lib.join l s).length<=140737488355328 then some (Lib.join l s)else none
def K.strings_Join :FC:=fc 78 (fun _=>true) false (fun(a:List Bytes×Bytes)=> [V.sl false 1 (a.1.map .str),V.str a.2]) (fun(y:Bytes)=> .str y) (fun a=>g.strings_Join a.1 a.2)
 (fun l=>Zfg (Zhi (fun _=>rfl) l.1) rfl) (fun _=>rfl) (fun⟨a,b⟩ ⟨c,d⟩ h=>by
  obtain⟨h1,h2⟩:=List.cons.inj h
  simp only[V.sl.injEq,true_and]at h1
  have h3:=V.str.inj (List.cons.inj h2).1
  have h4:a=c:=Z1k (fun x y h=>V.str.inj h) h1
  simp only at h3
  rw[h4,h3])
theorem H.strings_Join (w:World)(_hw:EnvOK w):K.strings_Join.Holds (cxD w):=by
 rintro args y ⟨⟨l,s⟩,r,ha,hg,rfl⟩
 obtain⟨u,v,rfl,h1,h2⟩:=Zii ha
 obtain⟨u',v',rfl,h3,h4⟩:=Zii h2
 obtain rfl:=Zwq h4
 obtain rfl:=Zei h3
 simp only[g.strings_Join]at hg
 split at hg
 ·rename_i hc
  cases hg
  obtain⟨nl,rfl⟩:∃nl,u= .sl nl 1 (l.map .str):=by
   obtain⟨nl,xs,rfl,h3,_⟩:=Z96 h1
   exact⟨nl,by rw[Zvb h3]⟩
  refine⟨.str _,false, ?_,rfl,fun h=>nomatch h⟩
  refine PC.pure (Zgg Tryz.func78 (by kernel_rfl) (by kernel_rfl)) fun W G φ xs hW hxs=> ?_
  obtain⟨x,y,rfl,hx,hy⟩:=Z0e hxs
  obtain⟨t,rfl,rfl⟩:=Zhm hy
  have hnone:∀(a:Option Addr),l=[]->Calls Tryz.prog 78 #[.slice a 0 0, .string t] W fun e W'=> ∃y,e= .returned y/\Below W.heap.size W W'/\ ∀(W'':World) (G':Nat->Nat),Rep W'' G' φ (.str (Lib.join l t.data.toList)) y:=by
   rintro a rfl
   refine(Tryz.strings_Join_none a 0 t W).mono fun e W'=> ?_
   rintro⟨rfl,rfl⟩
   exact⟨_,rfl, .refl _ _,fun _ _=> .str _ _ rfl⟩
  rcases Zuz hx with⟨rfl,e⟩|⟨a,rfl,e⟩|⟨b,off,cap,zs,rfl,hz,hcc,hcells⟩
  ·exact hnone none e
  ·exact hnone _ e
  ·have hlz:zs.length=l.length:=by rw[<-hz];simp
   rcases Xdl zs.length with h0|h0
   ·have e:l=[]:=Xbd (by omega)
    have ez:zs=[]:=Xbd h0
    subst e;subst ez
    refine(Tryz.strings_Join_none _ cap t W).mono fun e W'=> ?_
    rintro⟨rfl,rfl⟩
    exact⟨_,rfl, .refl _ _,fun _ _=> .str _ _ rfl⟩
   ·have hb:b<W.heap.size:=by
     have:=hcells 0 h0
     rcases Xa4 b W.heap.size with h|h
     ·exact h
     ·simp[World.cell?,Xd0 h]at this
    refine(Tryz.strings_Join b off cap zs t W (fun j x hj=> ?_) hb (by omega) hcc (by rw[hz];exact hc.2)).mono fun e W'=> ?_
    ·rw[hcells j (Xae.1 hj).1];simp[List.getD,hj]
    ·rintro⟨rfl,hB⟩
     exact⟨_,rfl,hB,fun _ _=> .str _ _ (by rw[hz])⟩
 ·cases hg
end Go.Proofs.YtpmgdngjbdkdfaaGreatDoor
namespace Go.Proofs.YtpmgdngjbdkdfaaGreatDoor
open Go.Abs
def Z81 :List FE:=[
 ⟨8,8,false,3,⟨0,[],[],0⟩,none,[(10,⟨7,[(0, .at (.n 0 false false)),(1, .at (.n 1 false false)),(2, .at (.n 2 false false)),(7, .at (.n 3 false true)),(10, .at (.n 4 false false)),(11, .at (.n 5 false true)),(12, .at (.n 6 false true))],[],0⟩)],false⟩,
 ⟨32,32,false,2,⟨0,[],[],0⟩,none,[(10,⟨3,[(5, .at (.n 0 true false)),(6, .at (.n 1 true false)),(7, .at (.n 2 false true))],[],0⟩)],false⟩,
 ⟨36,36,false,2,⟨0,[],[],0⟩,none,[],false⟩,
 ⟨40,40,false,2,⟨0,[],[],0⟩,none,[],false⟩,
 ⟨52,52,true,1,⟨0,[],[],0⟩,none,[],false⟩,
 ⟨60,60,false,2,⟨0,[],[],0⟩,none,[],false⟩,
 ⟨64,64,false,1,⟨0,[],[],0⟩,none,[(10,⟨5,[(0, .at (.n 0 false false)),(3, .at (.n 1 false true)),(9, .at (.n 2 false false)),(10, .at (.n 3 false true)),(11, .at (.n 4 false true))],[],0⟩),(31,⟨4,[(6, .at (.n 0 true true)),(28, .at (.n 1 false false)),(29, .at (.n 2 false true)),(30, .at (.n 3 false true))],[],0⟩)],false⟩,
 ⟨84,84,false,3,⟨0,[],[],0⟩,none,[(10,⟨6,[(1, .at (.n 0 false false)),(3, .at (.ptr 0 0)),(5, .at (.ptr 1 0)),(6, .at (.ptr 2 0)),(7, .at (.ptr 3 0)),(8, .at (.n 1 false true))],[some [.many none (.n 2 false false)],some [.many none (.n 3 false false)],some [.many (some 8) (.n 4 false false)],some [.many (some 64) (.n 5 false false)]],0⟩),(25,⟨5,[(3, .at (.ptr 0 0)),(5, .at (.ptr 1 0)),(6, .at (.ptr 2 0)),(7, .at (.ptr 3 0)),(9, .at (.n 0 false true))],[some [.many none (.n 1 false false)],some [.many none (.n 2 false false)],some [.many (some 8) (.n 3 false false)],some [.many (some 64) (.n 4 false false)]],0⟩),(48,⟨13,[(3, .at (.ptr 0 0)),(5, .at (.ptr 1 0)),(6, .at (.ptr 2 0)),(7, .at (.ptr 3 0)),(14, .at (.n 0 false false)),(15, .at (.n 1 false false)),(16, .at (.n 2 false false)),(17, .at (.n 3 false false)),(18, .at (.n 4 false false)),(19, .at (.n 5 false false)),(20, .at (.n 6 false false)),(21, .at (.n 7 false false)),(22, .at (.n 8 false true))],[some [.many none (.n 9 false false)],some [.many none (.n 10 false false)],some [.many (some 8) (.n 11 false false)],some [.many (some 64) (.n 12 false false)]],0⟩)],false⟩,
 ⟨104,104,false,1,⟨0,[],[],0⟩,none,[(17,⟨3,[(0, .at (.n 0 false false)),(4, .at (.n 1 false false)),(30, .at (.n 2 false true))],[],0⟩),(30,⟨4,[(6, .at (.n 0 true true)),(7, .at (.n 1 false true)),(36, .at (.n 2 false false)),(37, .at (.n 3 false true))],[],0⟩)],false⟩,
 ⟨108,108,false,2,⟨0,[],[],0⟩,none,[],false⟩,
 ⟨116,116,false,2,⟨0,[],[],0⟩,none,[(8,⟨3,[(0, .at (.n 0 false false)),(1, .at (.n 1 false false)),(5, .at (.n 2 false true))],[],0⟩)],false⟩,
 ⟨5,5,false,2,⟨0,[],[],0⟩,none,[(15,⟨3,[(0, .at (.n 0 false false)),(1, .at (.n 1 false false)),(36, .at (.n 2 false false))],[],0⟩),(31,⟨9,[(0, .at (.n 0 false false)),(1, .at (.n 1 false false)),(5, .at (.ptr 0 0)),(6, .at (.ptr 1 0)),(8, .at (.n 2 false true)),(10, .at (.n 3 true false)),(64, .at (.n 4 false true))],[some [.one (.mpp 2), .one (.mpp 3), .one (.mpp 4)],some [.many (some 32) (.n 5 false false)],some [.one (.mpc 6)],some [.one (.mpc 7)],some [.one (.mpc 8)]],0⟩),(40,⟨10,[(0, .at (.n 0 false false)),(1, .at (.n 1 false false)),(5, .at (.ptr 0 0)),(6, .at (.ptr 1 0)),(10, .at (.n 2 true false)),(65, .at (.n 3 false true)),(66, .at (.n 4 false true)),(67, .at (.n 5 false true))],[some [.one (.mpp 2), .one (.mpp 3), .one (.mpp 4)],some [.many (some 32) (.n 6 false false)],some [.one (.mpc 7)],some [.one (.mpc 8)],some [.one (.mpc 9)]],0⟩)],false⟩,
 ⟨9,9,false,1,⟨0,[],[],0⟩,none,[(16,⟨4,[(0, .at (.n 0 false false)),(14, .at (.n 1 false false)),(15, .at (.n 2 false true)),(16, .at (.n 3 false true))],[],0⟩),(38,⟨9,[(0, .at (.n 0 false false)),(3, .at (.n 1 false true)),(4, .at (.ptr 0 0)),(14, .at (.n 2 false false)),(15, .at (.n 3 false true)),(16, .at (.n 4 false true)),(25, .at (.n 5 false false)),(26, .at (.n 6 false true)),(27, .at (.n 7 false true))],[some [.many (some 2) (.n 8 false false)]],0⟩),(64,⟨3,[(55, .at (.n 0 false false)),(56, .at (.n 1 false true)),(57, .at (.n 2 false true))],[],0⟩)],false⟩,
 ⟨17,17,false,1,⟨0,[],[],0⟩,none,[(10,⟨4,[(3, .at (.n 0 true true)),(6, .at (.n 1 false false)),(7, .at (.n 2 false true)),(8, .at (.n 3 false true))],[],0⟩)],false⟩,
 ⟨29,29,false,1,⟨0,[],[],0⟩,none,[(10,⟨5,[(0, .at (.n 0 false false)),(3, .at (.n 1 true false)),(8, .at (.n 2 false false)),(9, .at (.n 3 false true)),(10, .at (.n 4 false true))],[],0⟩)],false⟩,
 ⟨37,37,false,1,⟨0,[],[],0⟩,none,[],false⟩,
 ⟨41,41,false,1,⟨0,[],[],0⟩,none,[(18,⟨4,[(4, .at (.n 0 true true)),(11, .at (.n 1 false false)),(12, .at (.n 2 false true)),(13, .at (.n 3 false true))],[],0⟩)],false⟩,
 ⟨57,57,false,2,⟨0,[],[],0⟩,none,[],false⟩,
 ⟨61,61,false,1,⟨0,[],[],0⟩,none,[],false⟩,
 ⟨65,65,false,1,⟨0,[],[],0⟩,none,[(12,⟨3,[(3, .at (.n 0 false true)),(4, .at (.n 1 false true)),(5, .at (.n 2 false true))],[],0⟩)],false⟩,
 ⟨69,69,false,1,⟨0,[],[],0⟩,none,[(10,⟨4,[(3, .at (.n 0 false true)),(6, .at (.n 1 false false)),(7, .at (.n 2 false true)),(8, .at (.n 3 false true))],[],0⟩)],false⟩,
 ⟨73,73,false,2,⟨0,[],[],0⟩,none,[],false⟩,
 ⟨77,77,false,2,⟨0,[],[],0⟩,none,[],false⟩,
 ⟨81,81,false,1,⟨0,[],[],0⟩,none,[],false⟩,
 ⟨85,85,false,1,⟨0,[],[],0⟩,none,[],false⟩,
 ⟨93,93,false,1,⟨0,[],[],0⟩,none,[],false⟩,
 ⟨97,97,false,2,⟨0,[],[],0⟩,none,[],false⟩,
 ⟨101,101,false,2,⟨0,[],[],0⟩,none,[],false⟩,
 ⟨105,105,false,1,⟨0,[],[],0⟩,none,[],false⟩,
 ⟨117,117,false,1,⟨0,[],[],0⟩,none,[(18,⟨3,[(0, .at (.n 0 false false)),(4, .at (.n 1 false true)),(9, .at (.n 2 false true))],[],0⟩)],false⟩,
 ⟨10,10,false,1,⟨0,[],[],0⟩,none,[(10,⟨5,[(3, .at (.ptr 0 0)),(8, .at (.n 0 false false)),(9, .at (.n 1 false true)),(10, .at (.n 2 false true))],[some [.one (.n 3 true true), .one (.n 4 true true)]],0⟩)],false⟩,
 ⟨22,22,false,1,⟨0,[],[],0⟩,none,[],false⟩,
 ⟨30,30,false,2,⟨0,[],[],0⟩,none,[],false⟩,
 ⟨38,38,false,2,⟨0,[],[],0⟩,none,[],false⟩,
 ⟨42,42,false,1,⟨0,[],[],0⟩,none,[],false⟩,
 ⟨46,46,false,2,⟨0,[],[],0⟩,none,[],false⟩,
 ⟨50,50,true,1,⟨0,[],[],0⟩,none,[(12,⟨4,[(0, .at (.n 0 false false)),(3, .at (.n 1 true true)),(4, .at (.n 2 false true)),(5, .at (.n 3 false true))],[],0⟩)],false⟩,
 ⟨54,54,false,2,⟨0,[],[],0⟩,none,[(8,⟨5,[(0, .at (.n 0 false false)),(1, .at (.n 1 false false)),(9, .at (.n 2 false false)),(10, .at (.n 3 false true)),(11, .at (.n 4 false true))],[],0⟩)],false⟩,
 ⟨58,58,false,1,⟨0,[],[],0⟩,none,[],false⟩,
 ⟨62,62,false,1,⟨0,[],[],0⟩,none,[(14,⟨5,[(2, .at (.ptr 0 0)),(3, .at (.ptr 1 0)),(4, .at (.n 0 true false)),(5, .at (.ptr 2 0)),(6, .at (.n 1 false true))],[some [.many (some 32) (.n 2 false false)],some [.many (some 8) (.n 3 false false)],some [.many (some 64) (.n 4 false false)]],0⟩),(31,⟨4,[(2, .at (.ptr 0 0)),(7, .at (.ptr 1 0)),(29, .at (.n 0 false false)),(30, .at (.n 1 false true))],[some [.many (some 32) (.n 2 false false)],some [.many (some 32) (.n 3 false false)]],0⟩),(45,⟨7,[(2, .at (.ptr 0 0)),(7, .at (.ptr 1 0)),(8, .at (.n 0 false true)),(9, .at (.n 1 false false)),(10, .at (.n 2 false true)),(29, .at (.n 3 false false)),(30, .at (.n 4 false true))],[some [.many (some 32) (.n 5 false false)],some [.many (some 32) (.n 6 false false)]],0⟩)],false⟩]
def Z7u :List FE:=[
 ⟨70,70,false,1,⟨0,[],[],0⟩,none,[(12,⟨5,[(0, .at (.n 0 false false)),(2, .at (.ptr 0 0)),(3, .at (.ptr 1 0)),(4, .at (.ptr 2 0)),(5, .at (.n 1 false false))],[some [.many (some 32) (.n 2 false false)],some [.many (some 8) (.n 3 false false)],some [.many (some 64) (.n 4 false false)]],0⟩),(39,⟨4,[(0, .at (.n 0 false false)),(2, .at (.ptr 0 0)),(3, .at (.ptr 1 0)),(4, .at (.ptr 2 0))],[some [.many (some 32) (.n 1 false false)],some [.many (some 8) (.n 2 false false)],some [.many (some 64) (.n 3 false false)]],0⟩),(43,⟨5,[(0, .at (.n 0 false false)),(2, .at (.ptr 0 0)),(3, .at (.ptr 1 0)),(4, .at (.ptr 2 0)),(34, .at (.n 1 false true))],[some [.many (some 32) (.n 2 false false)],some [.many (some 8) (.n 3 false false)],some [.many (some 64) (.n 4 false false)]],0⟩),(64,⟨4,[(2, .at (.ptr 0 0)),(3, .at (.ptr 1 0)),(7, .at (.ptr 2 0)),(52, .at (.n 0 false true))],[some [.many (some 32) (.n 1 false false)],some [.many (some 8) (.n 2 false false)],some [.many (some 32) (.n 3 false false)]],0⟩)],false⟩,
 ⟨82,82,true,1,⟨0,[],[],0⟩,none,[(8,⟨2,[(0, .at (.n 0 false false)),(3, .at (.n 1 true true))],[],0⟩),(25,⟨4,[(3, .at (.n 0 true true)),(4, .at (.n 1 false true)),(5, .at (.n 2 true true)),(6, .at (.n 3 false true))],[],0⟩)],false⟩,
 ⟨86,86,false,1,⟨0,[],[],0⟩,none,[(10,⟨3,[(0, .at (.n 0 false false)),(3, .at (.ptr 0 0)),(5, .at (.n 1 false true))],[some [.many (some 8) (.n 2 false false)]],0⟩)],false⟩,
 ⟨102,102,false,4,⟨0,[],[],0⟩,none,[],false⟩,
 ⟨7,7,false,0,⟨0,[],[],0⟩,none,[],false⟩,
 ⟨11,11,true,1,⟨0,[],[],0⟩,none,[(10,⟨4,[(3, .at (.n 0 true true)),(7, .at (.n 1 false false)),(8, .at (.n 2 false true)),(9, .at (.n 3 false true))],[],0⟩),(25,⟨6,[(3, .at (.n 0 true true)),(5, .at (.ptr 0 0)),(6, .at (.n 1 false true)),(7, .at (.n 2 false false)),(8, .at (.n 3 false true)),(9, .at (.n 4 false true))],[some [.many (some 2) (.n 5 false false)]],0⟩)],false⟩,
 ⟨35,35,false,2,⟨0,[],[],0⟩,none,[],false⟩,
 ⟨43,43,false,1,⟨0,[],[],0⟩,none,[(10,⟨4,[(3, .at (.n 0 false false)),(9, .at (.n 1 false false)),(10, .at (.n 2 false true)),(11, .at (.n 3 false true))],[],0⟩)],false⟩,
 ⟨51,51,false,1,⟨0,[],[],0⟩,none,[(8,⟨2,[(0, .at (.n 0 false false)),(3, .at (.n 1 false true))],[],0⟩)],false⟩,
 ⟨55,55,true,1,⟨0,[],[],0⟩,none,[],false⟩,
 ⟨59,59,false,1,⟨0,[],[],0⟩,none,[],false⟩,
 ⟨63,63,false,1,⟨0,[],[],0⟩,none,[(8,⟨4,[(0, .at (.n 0 false false)),(5, .at (.n 1 false false)),(6, .at (.n 2 false true)),(7, .at (.n 3 false true))],[],0⟩)],false⟩,
 ⟨75,75,false,2,⟨0,[],[],0⟩,none,[(8,⟨4,[(0, .at (.n 0 false false)),(1, .at (.n 1 false false)),(7, .at (.n 2 false true)),(8, .at (.n 3 false true))],[],0⟩)],false⟩,
 ⟨83,83,false,0,⟨0,[],[],0⟩,none,[],false⟩,
 ⟨87,87,false,1,⟨0,[],[],0⟩,none,[(9,⟨2,[(4, .at (.n 0 false false)),(21, .at (.n 1 false true))],[],0⟩),(18,⟨2,[(4, .at (.n 0 false false)),(6, .at (.n 1 true true))],[],0⟩)],false⟩,
 ⟨103,103,false,2,⟨0,[],[],0⟩,none,[],false⟩,
 ⟨107,107,false,1,⟨0,[],[],0⟩,none,[],false⟩,
 ⟨10192,12,false,0,⟨0,[],[],0⟩,some [⟨3,[.ptr 0 0],[some [.one (.mpp 1), .one (.mpp 2), .one (.mpp 3)],some [.one (.mpc 0)],some [.one (.mpc 1)],some [.one (.mpc 2)]]⟩],[],false⟩,
 ⟨11280,80,false,1,⟨1,[(0, .at (.n 0 false false))],[],0⟩,some [⟨2,[.osx 0 0 1],[some [.many none (.n 1 false false)]]⟩],[],false⟩,
 ⟨10384,24,false,2,⟨3,[(0, .at (.ptr 0 0)),(1, .at (.n 0 false false))],[some [.one (.n 1 true true), .one (.n 2 true true)]],1⟩,some [⟨4,[.n 0 false false, .n 1 false false],[some [.one (.n 2 true true), .one (.n 3 true true)]]⟩],[],false⟩,
 ⟨10496,31,false,1,⟨2,[(0, .at (.ptr 0 0))],[some [.one (.n 0 true true), .one (.n 1 true true)]],1⟩,some [⟨3,[.n 0 false true],[some [.one (.n 1 true true), .one (.n 2 true true)]]⟩],[(8,⟨5,[(0, .at (.ptr 0 0)),(10, .at (.n 0 false true)),(11, .at (.n 1 false true)),(12, .at (.n 2 false true))],[some [.one (.n 3 true true), .one (.n 4 true true)]],1⟩),(22,⟨9,[(0, .at (.ptr 0 0)),(4, .at (.ptr 1 0)),(10, .at (.n 0 false true)),(11, .at (.n 1 false true)),(12, .at (.n 2 false true)),(22, .at (.n 3 false true)),(23, .at (.n 4 false true)),(24, .at (.n 5 false true))],[some [.one (.n 6 true true), .one (.n 7 true true)],some [.many (some 34) (.n 8 false false)]],1⟩)],false⟩,
 ⟨11456,91,false,2,⟨2,[(0, .at (.ptr 0 0)),(1, .at (.osl 1 0 64 64 1))],[some [.many (some 8) (.n 0 false false)],some [.many (some 64) (.n 1 false false)]],2⟩,some [⟨2,[],[some [.many (some 8) (.n 0 false false)],some [.many (some 64) (.n 1 false false)]]⟩],[(8,⟨4,[(0, .at (.ptr 0 0)),(1, .at (.osl 1 0 64 64 1)),(4, .at (.ptr 2 0)),(26, .at (.n 0 false true))],[some [.many (some 8) (.n 1 false false)],some [.many (some 64) (.n 2 false false)],some [.many (some 64) (.n 3 false false)]],2⟩),(25,⟨4,[(0, .at (.ptr 0 0)),(4, .at (.ptr 2 0)),(6, .at (.n 0 false true))],[some [.many (some 8) (.n 1 false false)],some [.many (some 64) (.n 2 false false)],some [.many (some 64) (.n 3 false false)]],2⟩),(48,⟨12,[(0, .at (.ptr 0 0)),(11, .at (.n 0 false false)),(12, .at (.n 1 false false)),(13, .at (.n 2 false false)),(14, .at (.n 3 false false)),(15, .at (.n 4 false false)),(16, .at (.n 5 false false)),(17, .at (.n 6 false false)),(18, .at (.n 7 false false)),(112, .at (.n 8 false false)),(113, .at (.n 9 false true))],[some [.many (some 8) (.n 10 false false)],some [.many (some 64) (.n 11 false false)]],2⟩),(72,⟨4,[(0, .at (.ptr 0 0)),(185, .at (.n 0 false false)),(186, .at (.n 1 false true))],[some [.many (some 8) (.n 2 false false)],some [.many (some 64) (.n 3 false false)]],2⟩)],false⟩,
 ⟨10768,48,false,3,⟨4,[(0, .at (.ptr 0 0)),(1, .at (.n 0 false false)),(2, .at (.n 1 false false))],[some [.one (.n 2 true true), .one (.n 3 true true)]],1⟩,some [⟨3,[.n 0 false false],[some [.one (.n 1 true true), .one (.n 2 true true)]]⟩],[(12,⟨10,[(0, .at (.ptr 0 0)),(1, .at (.n 0 false false)),(2, .at (.n 1 false false)),(6, .at (.ptr 1 0)),(7, .at (.n 2 true true)),(8, .at (.n 3 false false)),(14, .at (.n 4 false false)),(15, .at (.n 5 false true)),(16, .at (.n 6 false true))],[some [.one (.n 7 true true), .one (.n 8 true true)],some [.many (some 32) (.n 9 false false)]],1⟩),(40,⟨11,[(0, .at (.ptr 0 0)),(1, .at (.n 0 false false)),(2, .at (.n 1 false false)),(6, .at (.ptr 1 0)),(7, .at (.n 2 true true)),(13, .at (.n 3 false false)),(14, .at (.n 4 false false)),(15, .at (.n 5 false true)),(16, .at (.n 6 false true)),(73, .at (.n 7 false true))],[some [.one (.n 8 true true), .one (.n 9 true true)],some [.many (some 32) (.n 10 false false)]],1⟩)],false⟩,
 ⟨10240,15,false,3,⟨4,[(0, .at (.ptr 0 0)),(1, .at (.n 0 false true)),(2, .at (.n 1 false false))],[some [.one (.n 2 true true), .one (.n 3 true true)]],1⟩,some [⟨3,[.n 0 false false],[some [.one (.n 1 true true), .one (.n 2 true true)]]⟩],[(12,⟨9,[(0, .at (.ptr 0 0)),(1, .at (.n 0 false true)),(2, .at (.n 1 false false)),(6, .at (.ptr 1 0)),(7, .at (.ptr 2 0)),(29, .at (.n 2 false true)),(30, .at (.n 3 false true)),(31, .at (.n 4 false true))],[some [.one (.n 5 true true), .one (.n 6 true true)],some [.many (some 32) (.n 7 false false)],some [.many (some 32) (.n 8 false false)]],1⟩)],false⟩,
 ⟨10224,14,false,2,⟨4,[(0, .at (.ptr 0 0)),(1, .at (.n 0 false false))],[some [.one (.mpp 1), .one (.mpp 2), .one (.mpp 3)],some [.one (.mpc 1)],some [.one (.mpc 2)],some [.one (.mpc 3)]],4⟩,some [⟨5,[.n 0 false false, .n 1 false true],[some [.one (.mpp 1), .one (.mpp 2), .one (.mpp 3)],some [.one (.mpc 2)],some [.one (.mpc 3)],some [.one (.mpc 4)]]⟩],[],false⟩,
 ⟨10208,13,false,2,⟨4,[(0, .at (.ptr 0 0)),(1, .at (.n 0 false false))],[some [.one (.mpp 1), .one (.mpp 2), .one (.mpp 3)],some [.one (.mpc 1)],some [.one (.mpc 2)],some [.one (.mpc 3)]],4⟩,some [⟨5,[.n 0 false false, .n 1 false false],[some [.one (.mpp 1), .one (.mpp 2), .one (.mpp 3)],some [.one (.mpc 2)],some [.one (.mpc 3)],some [.one (.mpc 4)]]⟩],[(28,⟨9,[(0, .at (.ptr 0 0)),(4, .at (.ptr 4 0)),(6, .at (.osx 5 0 2)),(24, .at (.osx 5 1 2)),(25, .at (.n 2 false true)),(26, .at (.n 3 false true))],[some [.one (.mpp 1), .one (.mpp 2), .one (.mpp 3)],some [.one (.mpc 4)],some [.one (.mpc 5)],some [.one (.mpc 6)],some [.many (some 32) (.n 7 false false)],some [.many none (.n 8 false false)]],4⟩),(65,⟨9,[(0, .at (.ptr 0 0)),(4, .at (.ptr 4 0)),(6, .at (.osx 5 0 2)),(64, .at (.osx 5 1 2)),(65, .at (.n 2 false true)),(66, .at (.n 3 false true))],[some [.one (.mpp 1), .one (.mpp 2), .one (.mpp 3)],some [.one (.mpc 4)],some [.one (.mpc 5)],some [.one (.mpc 6)],some [.many (some 32) (.n 7 false false)],some [.many none (.n 8 false false)]],4⟩)],false⟩,
 ⟨11264,79,false,2,⟨3,[(0, .at (.osx 0 0 1)),(1, .at (.n 1 false true))],[some [.many none (.n 2 false false)]],1⟩,some [⟨2,[.osx 0 0 1],[some [.many none (.n 1 false false)]]⟩],[(18,⟨5,[(0, .at (.osx 0 0 1)),(1, .at (.n 1 false true)),(5, .at (.n 2 false true)),(6, .at (.n 3 false true))],[some [.many none (.n 4 false false)]],1⟩)],false⟩,
 ⟨10528,33,false,1,⟨1,[(0, .at (.n 0 false false))],[],0⟩,some [⟨2,[.osx 0 0 2],[some [.many none (.n 1 false false)]]⟩],[],false⟩,
 ⟨11200,75,false,2,⟨3,[(0, .at (.osx 0 0 1)),(1, .at (.n 1 false true))],[some [.many none (.n 2 false false)]],1⟩,some [⟨2,[.n 0 false true],[some [.many none (.n 1 false false)]]⟩],[(8,⟨5,[(0, .at (.osx 0 0 1)),(1, .at (.n 1 false true)),(7, .at (.n 2 false true)),(8, .at (.n 3 false true))],[some [.many none (.n 4 false false)]],1⟩)],false⟩,
 ⟨10288,18,false,2,⟨4,[(0, .at (.ptr 0 0)),(1, .at (.n 0 false false))],[some [.one (.mpp 1), .one (.mpp 2), .one (.mpp 3)],some [.one (.mpc 1)],some [.one (.mpc 2)],some [.one (.mpc 3)]],4⟩,some [⟨5,[.n 0 false true, .n 1 false false],[some [.one (.mpp 1), .one (.mpp 2), .one (.mpp 3)],some [.one (.mpc 2)],some [.one (.mpc 3)],some [.one (.mpc 4)]]⟩],[],false⟩,
 ⟨10256,16,false,2,⟨4,[(0, .at (.ptr 0 0)),(1, .at (.n 0 false true))],[some [.one (.mpp 1), .one (.mpp 2), .one (.mpp 3)],some [.one (.mpc 1)],some [.one (.mpc 2)],some [.one (.mpc 3)]],4⟩,some [⟨5,[.n 0 false false, .n 1 false false],[some [.one (.mpp 1), .one (.mpp 2), .one (.mpp 3)],some [.one (.mpc 2)],some [.one (.mpc 3)],some [.one (.mpc 4)]]⟩],[],false⟩,
 ⟨10544,34,false,2,⟨3,[(0, .at (.osx 0 0 2)),(1, .at (.n 1 false true))],[some [.many none (.n 2 false false)]],1⟩,some [⟨1,[],[some [.many none (.n 0 false false)]]⟩],[],false⟩,
 ⟨10704,44,false,4,⟨8,[(0, .at (.ptr 0 0)),(1, .at (.n 0 false false)),(2, .at (.n 1 false false)),(3, .at (.n 2 false true))],[some [.one (.ptr 1 0), .one (.n 3 true true), .one (.n 4 false true)],some [.one (.mpp 2), .one (.mpp 3), .one (.mpp 4)],some [.one (.mpc 5)],some [.one (.mpc 6)],some [.one (.mpc 7)]],5⟩,some [⟨6,[.n 0 false false],[some [.one (.ptr 1 0), .one (.n 1 true true), .one (.n 2 false true)],some [.one (.mpp 2), .one (.mpp 3), .one (.mpp 4)],some [.one (.mpc 3)],some [.one (.mpc 4)],some [.one (.mpc 5)]]⟩],[(26,⟨10,[(0, .at (.ptr 0 0)),(1, .at (.n 0 false false)),(3, .at (.n 1 false true)),(29, .at (.n 2 false false)),(30, .at (.n 3 false true)),(31, .at (.n 4 false true))],[some [.one (.ptr 1 0), .one (.n 5 true true), .one (.n 6 false true)],some [.one (.mpp 2), .one (.mpp 3), .one (.mpp 4)],some [.one (.mpc 7)],some [.one (.mpc 8)],some [.one (.mpc 9)]],5⟩)],false⟩,
 ⟨10849,53,false,3,⟨4,[(0, .at (.osx 0 0 2)),(1, .at (.n 1 false true)),(2, .at (.n 2 false true))],[some [.many none (.n 3 false false)]],1⟩,some [⟨1,[],[some [.many none (.n 0 false false)]]⟩],[(8,⟨7,[(0, .at (.osx 0 0 2)),(1, .at (.n 1 false true)),(2, .at (.n 2 false true)),(6, .at (.n 3 false true)),(7, .at (.n 4 false true)),(8, .at (.n 5 false true))],[some [.many none (.n 6 false false)]],1⟩),(24,⟨5,[(0, .at (.osx 0 0 2)),(1, .at (.n 1 false true)),(2, .at (.n 2 false true)),(6, .at (.n 3 false true))],[some [.many none (.n 4 false false)]],1⟩),(36,⟨7,[(0, .at (.osx 0 0 2)),(1, .at (.n 1 false true)),(2, .at (.n 2 false true)),(6, .at (.n 3 false true)),(7, .at (.n 4 false true)),(8, .at (.n 5 false true))],[some [.many none (.n 6 false false)]],1⟩)],false⟩,
 ⟨11056,66,false,2,⟨4,[(0, .at (.ptr 0 0)),(1, .at (.n 0 false false))],[some [.one (.mpp 1), .one (.mpp 2), .one (.mpp 3)],some [.one (.mpc 1)],some [.one (.mpc 2)],some [.one (.mpc 3)]],4⟩,some [⟨5,[.n 0 false false, .n 1 false false],[some [.one (.mpp 1), .one (.mpp 2), .one (.mpp 3)],some [.one (.mpc 2)],some [.one (.mpc 3)],some [.one (.mpc 4)]]⟩],[],false⟩,
 ⟨11137,71,false,4,⟨5,[(0, .at (.osx 0 0 2)),(1, .at (.n 1 false true)),(2, .at (.n 2 false true)),(3, .at (.n 3 false true))],[some [.many none (.n 4 false false)]],1⟩,some [⟨1,[],[some [.many none (.n 0 false false)]]⟩],[(5,⟨6,[(0, .at (.osx 0 0 2)),(1, .at (.n 1 false true)),(2, .at (.n 2 false true)),(3, .at (.n 3 false true)),(8, .at (.n 4 false true))],[some [.many none (.n 5 false false)]],1⟩),(17,⟨7,[(0, .at (.osx 0 0 2)),(1, .at (.n 1 false true)),(2, .at (.n 2 false true)),(3, .at (.n 3 false true)),(8, .at (.n 4 false true)),(9, .at (.n 5 false true))],[some [.many none (.n 6 false false)]],1⟩)],false⟩,
 ⟨11153,72,false,5,⟨6,[(0, .at (.osx 0 0 2)),(1, .at (.n 1 false true)),(2, .at (.n 2 false true)),(3, .at (.n 3 false true)),(4, .at (.n 4 false true))],[some [.many none (.n 5 false false)]],1⟩,some [⟨1,[],[some [.many none (.n 0 false false)]]⟩],[(12,⟨6,[(0, .at (.osx 0 0 2)),(1, .at (.n 1 false true)),(4, .at (.n 2 false true)),(10, .at (.n 3 false true)),(11, .at (.n 4 false true))],[some [.many none (.n 5 false false)]],1⟩),(31,⟨4,[(0, .at (.osx 0 0 2)),(10, .at (.n 1 false true)),(13, .at (.n 2 false true))],[some [.many none (.n 3 false false)]],1⟩),(54,⟨6,[(0, .at (.osx 0 0 2)),(2, .at (.n 1 false true)),(4, .at (.n 2 false true)),(14, .at (.n 3 false true)),(15, .at (.n 4 false true))],[some [.many none (.n 5 false false)]],1⟩),(73,⟨4,[(0, .at (.osx 0 0 2)),(14, .at (.n 1 false true)),(17, .at (.n 2 false true))],[some [.many none (.n 3 false false)]],1⟩),(102,⟨10,[(0, .at (.osx 0 0 2)),(1, .at (.n 1 false true)),(2, .at (.n 2 false true)),(3, .at (.n 3 false true)),(4, .at (.n 4 false true)),(18, .at (.n 5 false true)),(19, .at (.n 6 false true)),(20, .at (.n 7 false true)),(21, .at (.n 8 false true))],[some [.many none (.n 9 false false)]],1⟩),(106,⟨11,[(0, .at (.osx 0 0 2)),(1, .at (.n 1 false true)),(2, .at (.n 2 false true)),(3, .at (.n 3 false true)),(4, .at (.n 4 false true)),(18, .at (.n 5 false true)),(19, .at (.n 6 false true)),(20, .at (.n 7 false true)),(21, .at (.n 8 false true)),(22, .at (.n 9 false true))],[some [.many none (.n 10 false false)]],1⟩),(129,⟨8,[(0, .at (.osx 0 0 2)),(1, .at (.n 1 false true)),(3, .at (.n 2 false true)),(4, .at (.n 3 false true)),(18, .at (.n 4 false true)),(20, .at (.n 5 false true)),(24, .at (.n 6 false true))],[some [.many none (.n 7 false false)]],1⟩)],false⟩,
 ⟨11473,92,false,5,⟨6,[(0, .at (.osx 0 0 2)),(1, .at (.n 1 false true)),(2, .at (.n 2 false true)),(3, .at (.n 3 false true)),(4, .at (.n 4 false true))],[some [.many none (.n 5 false false)]],1⟩,some [⟨1,[],[some [.many none (.n 0 false false)]]⟩],[(8,⟨6,[(0, .at (.osx 0 0 2)),(2, .at (.n 1 false true)),(4, .at (.n 2 false true)),(10, .at (.n 3 false true)),(11, .at (.n 4 false true))],[some [.many none (.n 5 false false)]],1⟩)],false⟩,
 ⟨11745,109,false,5,⟨6,[(0, .at (.osx 0 0 2)),(1, .at (.n 1 false true)),(2, .at (.n 2 false true)),(3, .at (.n 3 false true)),(4, .at (.n 4 false true))],[some [.many none (.n 5 false false)]],1⟩,some [⟨1,[],[some [.many none (.n 0 false false)]]⟩],[(5,⟨6,[(0, .at (.osx 0 0 2)),(1, .at (.n 1 false true)),(2, .at (.n 2 false true)),(3, .at (.n 3 false true)),(10, .at (.n 4 false true))],[some [.many none (.n 5 false false)]],1⟩)],false⟩,
 ⟨10336,21,false,2,⟨4,[(0, .at (.ptr 0 0)),(1, .at (.n 0 false false))],[some [.one (.mpp 1), .one (.mpp 2), .one (.mpp 3)],some [.one (.mpc 1)],some [.one (.mpc 2)],some [.one (.mpc 3)]],4⟩,some [⟨5,[.n 0 false false, .n 1 false true],[some [.one (.mpp 1), .one (.mpp 2), .one (.mpp 3)],some [.one (.mpc 2)],some [.one (.mpc 3)],some [.one (.mpc 4)]]⟩],[],false⟩]
def Z85 :List FE:=[
 ⟨10448,28,false,1,⟨3,[(0, .at (.ptr 0 0))],[some [.one (.mpp 1), .one (.mpp 2), .one (.mpp 3)],some [.one (.mpc 0)],some [.one (.mpc 1)],some [.one (.mpc 2)]],4⟩,some [⟨4,[.n 0 false true],[some [.one (.mpp 1), .one (.mpp 2), .one (.mpp 3)],some [.one (.mpc 1)],some [.one (.mpc 2)],some [.one (.mpc 3)]]⟩],[],false⟩,
 ⟨10624,39,false,3,⟨7,[(0, .at (.ptr 0 0)),(1, .at (.n 0 false false)),(2, .at (.osv 1 1 2 2))],[some [.one (.mpp 2), .one (.mpp 3), .one (.mpp 4)],some [.many none (.n 3 false false)],some [.one (.mpc 4)],some [.one (.mpc 5)],some [.one (.mpc 6)]],5⟩,some [⟨6,[.n 0 false false, .n 1 false false],[some [.one (.mpp 2), .one (.mpp 3), .one (.mpp 4)],some [.many none (.n 2 false false)],some [.one (.mpc 3)],some [.one (.mpc 4)],some [.one (.mpc 5)]]⟩],[(8,⟨9,[(0, .at (.ptr 0 0)),(1, .at (.n 0 false false)),(2, .at (.osv 1 1 2 2)),(6, .at (.ptr 5 0)),(8, .at (.n 3 true true))],[some [.one (.mpp 2), .one (.mpp 3), .one (.mpp 4)],some [.many none (.n 4 false false)],some [.one (.mpc 5)],some [.one (.mpc 6)],some [.one (.mpc 7)],some [.many (some 32) (.n 8 false false)]],5⟩),(44,⟨12,[(0, .at (.ptr 0 0)),(1, .at (.n 0 false false)),(2, .at (.osv 1 1 2 2)),(6, .at (.ptr 5 0)),(8, .at (.n 3 true true)),(11, .at (.n 4 false false)),(14, .at (.n 5 false false)),(15, .at (.n 6 false true))],[some [.one (.mpp 2), .one (.mpp 3), .one (.mpp 4)],some [.many none (.n 7 false false)],some [.one (.mpc 8)],some [.one (.mpc 9)],some [.one (.mpc 10)],some [.many (some 32) (.n 11 false false)]],5⟩)],false⟩]
def tabs :List FE:=Z81++Z7u++Z85
def extO :Nat->Bool:=fun f=> [56].any (Nat.beq f)
def tb0 :List V:=[.int .u32 1116352408, .int .u32 1899447441, .int .u32 3049323471, .int .u32 3921009573, .int .u32 961987163, .int .u32 1508970993, .int .u32 2453635748, .int .u32 2870763221, .int .u32 3624381080, .int .u32 310598401, .int .u32 607225278, .int .u32 1426881987, .int .u32 1925078388, .int .u32 2162078206, .int .u32 2614888103, .int .u32 3248222580, .int .u32 3835390401, .int .u32 4022224774, .int .u32 264347078, .int .u32 604807628, .int .u32 770255983, .int .u32 1249150122, .int .u32 1555081692, .int .u32 1996064986, .int .u32 2554220882, .int .u32 2821834349, .int .u32 2952996808, .int .u32 3210313671, .int .u32 3336571891, .int .u32 3584528711, .int .u32 113926993, .int .u32 338241895, .int .u32 666307205, .int .u32 773529912, .int .u32 1294757372, .int .u32 1396182291, .int .u32 1695183700, .int .u32 1986661051, .int .u32 2177026350, .int .u32 2456956037, .int .u32 2730485921, .int .u32 2820302411, .int .u32 3259730800, .int .u32 3345764771, .int .u32 3516065817, .int .u32 3600352804, .int .u32 4094571909, .int .u32 275423344, .int .u32 430227734, .int .u32 506948616, .int .u32 659060556, .int .u32 883997877, .int .u32 958139571, .int .u32 1322822218, .int .u32 1537002063, .int .u32 1747873779, .int .u32 1955562222, .int .u32 2024104815, .int .u32 2227730452, .int .u32 2361852424, .int .u32 2428436474, .int .u32 2756734187, .int .u32 3204031479, .int .u32 3329325298]
def gls :Nat->Option (List V):=fun g=>match Nat.beq g 0 with|true=>some tb0|false=>none
def cfg :Cfg:=Z6q tabs extO gls
theorem keys :Zm7 tabs=true:=by kernel_rfl
noncomputable abbrev vl (e:Nat->List V->Option V):Gam:=val Tryz.prog tabs e cfg
abbrev Ev :=Nat->List V->Option V
noncomputable abbrev stp (e:Ev)(Γ:Gam):=Go.Abs.step Tryz.prog tabs e cfg Γ
end Go.Proofs.YtpmgdngjbdkdfaaGreatDoor
namespace Go.Proofs.YtpmgdngjbdkdfaaGreatDoor
open Go.Abs
noncomputable def y.zq60 (Γ:Gam)(v0 v1 v2:V):Option V:=
 pr (.len false) [v0] fun v3=>Γ 8 10 [v0,v1,v2, .int .i64 0,v0,v3, .int .i64 0]
theorem s.zq60 (e:Ev)(Γ:Gam)(v0 v1 v2:V):stp e Γ 8 0 [v0,v1,v2]=y.zq60 Γ v0 v1 v2:=by kernel_rfl
theorem w.zq60 (e:Ev)(v0 v1 v2:V):vl e 8 0 [v0,v1,v2]=y.zq60 (vl e) v0 v1 v2:=Zab (s.zq60 e _ v0 v1 v2)
noncomputable def y.zq60_10 (Γ:Gam)(v0 v1 v2 v3 v4 v5 v6:V):Option V:=
 pr (.bin .lss .no) [v6,v5] fun v7=>vif v7 (pr (.elem 2) [v4,v6] fun v8=>pr (.ld (some 2) 0) [v8] fun v9=>pr (.cat [some 2]) [v9] fun v10=>pr (.ld none 0) [v10] fun v11=>pr (.len true) [v11] fun v12=>pr (.ld none 1) [v10] fun v13=>pr (.len true) [v13] fun v14=>pr (.bin .add .no) [v12,v14] fun v15=>pr (.bin .add .no) [v3,v15] fun v16=>pr (.bin .gtr .no) [v16,v2] fun v17=>vif v17 (some (.bool true)) (pr (.bin .add .no) [v6, .int .i64 1] fun v18=>Γ 8 10 [v0,v1,v2,v16,v4,v5,v18])) (pr (.len false) [v0] fun v8=>pr (.bin .gtr .no) [v8,v1] fun v9=>some v9)
theorem s.zq60_10 (e:Ev)(Γ:Gam)(v0 v1 v2 v3 v4 v5 v6:V):stp e Γ 8 10 [v0,v1,v2,v3,v4,v5,v6]=y.zq60_10 Γ v0 v1 v2 v3 v4 v5 v6:=by kernel_rfl
theorem w.zq60_10 (e:Ev)(v0 v1 v2 v3 v4 v5 v6:V):vl e 8 10 [v0,v1,v2,v3,v4,v5,v6]=y.zq60_10 (vl e) v0 v1 v2 v3 v4 v5 v6:=Zab (s.zq60_10 e _ v0 v1 v2 v3 v4 v5 v6)
noncomputable def y.zq50 (Γ:Gam)(v0 v1:V):Option V:=
 ca Γ 52 [v0] fun v2=>ca Γ 52 [v1] fun v3=>Γ 32 10 [v2,v3, .int .i64 0]
theorem s.zq50 (e:Ev)(Γ:Gam)(v0 v1:V):stp e Γ 32 0 [v0,v1]=y.zq50 Γ v0 v1:=by kernel_rfl
theorem w.zq50 (e:Ev)(v0 v1:V):vl e 32 0 [v0,v1]=y.zq50 (vl e) v0 v1:=Zab (s.zq50 e _ v0 v1)
noncomputable def y.zq50_10 (Γ:Gam)(v0 v1 v2:V):Option V:=
 pr (.len false) [v0] fun v3=>pr (.bin .lss .no) [v2,v3] fun v4=>vif v4 (pr (.len false) [v1] fun v5=>pr (.bin .lss .no) [v2,v5] fun v6=>vif v6 (pr (.elem 1) [v0,v2] fun v7=>pr (.ld none 0) [v7] fun v8=>pr (.elem 1) [v1,v2] fun v9=>pr (.ld none 0) [v9] fun v10=>pr (.bin .lss .no) [v8,v10] fun v11=>vif v11 (some (.int .i64 (-1))) (pr (.elem 1) [v0,v2] fun v12=>pr (.ld none 0) [v12] fun v13=>pr (.elem 1) [v1,v2] fun v14=>pr (.ld none 0) [v14] fun v15=>pr (.bin .gtr .no) [v13,v15] fun v16=>vif v16 (some (.int .i64 1)) (pr (.bin .add .no) [v2, .int .i64 1] fun v17=>Γ 32 10 [v0,v1,v17]))) (pr (.len false) [v0] fun v7=>pr (.len false) [v1] fun v8=>pr (.bin .lss .no) [v7,v8] fun v9=>vif v9 (some (.int .i64 (-1))) (pr (.len false) [v0] fun v10=>pr (.len false) [v1] fun v11=>pr (.bin .gtr .no) [v10,v11] fun v12=>vif v12 (some (.int .i64 1)) (some (.int .i64 0))))) (pr (.len false) [v0] fun v5=>pr (.len false) [v1] fun v6=>pr (.bin .lss .no) [v5,v6] fun v7=>vif v7 (some (.int .i64 (-1))) (pr (.len false) [v0] fun v8=>pr (.len false) [v1] fun v9=>pr (.bin .gtr .no) [v8,v9] fun v10=>vif v10 (some (.int .i64 1)) (some (.int .i64 0))))
theorem s.zq50_10 (e:Ev)(Γ:Gam)(v0 v1 v2:V):stp e Γ 32 10 [v0,v1,v2]=y.zq50_10 Γ v0 v1 v2:=by kernel_rfl
theorem w.zq50_10 (e:Ev)(v0 v1 v2:V):vl e 32 10 [v0,v1,v2]=y.zq50_10 (vl e) v0 v1 v2:=Zab (s.zq50_10 e _ v0 v1 v2)
noncomputable def y.zq16 (Γ:Gam)(v0 v1:V):Option V:=
 ca Γ 55 [v0] fun v2=>ca Γ 55 [v1] fun v3=>ca Γ 54 [v2,v3] fun v4=>some v4
theorem s.zq16 (e:Ev)(Γ:Gam)(v0 v1:V):stp e Γ 36 0 [v0,v1]=y.zq16 Γ v0 v1:=by kernel_rfl
theorem w.zq16 (e:Ev)(v0 v1:V):vl e 36 0 [v0,v1]=y.zq16 (vl e) v0 v1:=Zab (s.zq16 e _ v0 v1)
noncomputable def y.zq57 (Γ:Gam)(v0 v1:V):Option V:=
 pr (.bsl 1) [v0,v1] fun v2=>ca Γ 43 [v2] fun v3=>pr .s2b [v3] fun v4=>ca Γ 62 [v4] fun v5=>pr (.cat [some 32]) [v5] fun v6=>some v6
theorem s.zq57 (e:Ev)(Γ:Gam)(v0 v1:V):stp e Γ 40 0 [v0,v1]=y.zq57 Γ v0 v1:=by kernel_rfl
theorem w.zq57 (e:Ev)(v0 v1:V):vl e 40 0 [v0,v1]=y.zq57 (vl e) v0 v1:=Zab (s.zq57 e _ v0 v1)
noncomputable def y.zq55 (Γ:Gam)(v0:V):Option V:=
 pr (.bin .eql .no) [v0, .str []] fun v1=>vif v1 (some (.sl false 1 [])) (ca Γ 50 [v0] fun v2=>some v2)
theorem s.zq55 (e:Ev)(Γ:Gam)(v0:V):stp e Γ 52 0 [v0]=y.zq55 Γ v0:=by kernel_rfl
theorem w.zq55 (e:Ev)(v0:V):vl e 52 0 [v0]=y.zq55 (vl e) v0:=Zab (s.zq55 e _ v0)
noncomputable def y.zq79 (Γ:Gam)(v0 v1:V):Option V:=
 ca Γ 77 [v0,v1] fun v2=>pr (.ext 0) [v2] fun v3=>pr (.ext 1) [v2] fun v4=>some (.tup [v3,v4])
theorem s.zq79 (e:Ev)(Γ:Gam)(v0 v1:V):stp e Γ 60 0 [v0,v1]=y.zq79 Γ v0 v1:=by kernel_rfl
theorem w.zq79 (e:Ev)(v0 v1:V):vl e 60 0 [v0,v1]=y.zq79 (vl e) v0 v1:=Zab (s.zq79 e _ v0 v1)
noncomputable def y.zq2 (Γ:Gam)(v0:V):Option V:=
 pr (.len false) [v0] fun v1=>Γ 64 10 [v0, .int .i64 8,v0,v1, .int .i64 0]
theorem s.zq2 (e:Ev)(Γ:Gam)(v0:V):stp e Γ 64 0 [v0]=y.zq2 Γ v0:=by kernel_rfl
theorem w.zq2 (e:Ev)(v0:V):vl e 64 0 [v0]=y.zq2 (vl e) v0:=Zab (s.zq2 e _ v0)
noncomputable def y.zq2_10 (Γ:Gam)(v0 v1 v2 v3 v4:V):Option V:=
 pr (.bin .lss .no) [v4,v3] fun v5=>vif v5 (pr (.elem 1) [v2,v4] fun v6=>pr (.ld none 0) [v6] fun v7=>pr (.len true) [v7] fun v8=>pr (.bin .add .no) [.int .i64 8,v8] fun v9=>pr (.bin .add .no) [v1,v9] fun v10=>pr (.bin .add .no) [v4, .int .i64 1] fun v11=>Γ 64 10 [v0,v10,v2,v3,v11]) (pr (.mks 1) [.int .i64 0,v1] fun v6=>pr (.len false) [v0] fun v7=>ca Γ 86 [v7] fun v8=>pr (.app 1) [v6,v8] fun v9=>pr (.len false) [v0] fun v10=>Γ 64 31 [v9,v0,v10, .int .i64 0])
theorem s.zq2_10 (e:Ev)(Γ:Gam)(v0 v1 v2 v3 v4:V):stp e Γ 64 10 [v0,v1,v2,v3,v4]=y.zq2_10 Γ v0 v1 v2 v3 v4:=by kernel_rfl
theorem w.zq2_10 (e:Ev)(v0 v1 v2 v3 v4:V):vl e 64 10 [v0,v1,v2,v3,v4]=y.zq2_10 (vl e) v0 v1 v2 v3 v4:=Zab (s.zq2_10 e _ v0 v1 v2 v3 v4)
noncomputable def y.zq2_31 (Γ:Gam)(v0 v1 v2 v3:V):Option V:=
 pr (.bin .lss .no) [v3,v2] fun v4=>vif v4 (pr (.elem 1) [v1,v3] fun v5=>pr (.ld none 0) [v5] fun v6=>pr (.len true) [v6] fun v7=>ca Γ 86 [v7] fun v8=>pr (.app 1) [v0,v8] fun v9=>pr (.app 1) [v9,v6] fun v10=>pr (.bin .add .no) [v3, .int .i64 1] fun v11=>Γ 64 31 [v10,v1,v2,v11]) (pr .b2s [v0] fun v5=>some v5)
theorem s.zq2_31 (e:Ev)(Γ:Gam)(v0 v1 v2 v3:V):stp e Γ 64 31 [v0,v1,v2,v3]=y.zq2_31 Γ v0 v1 v2 v3:=by kernel_rfl
theorem w.zq2_31 (e:Ev)(v0 v1 v2 v3:V):vl e 64 31 [v0,v1,v2,v3]=y.zq2_31 (vl e) v0 v1 v2 v3:=Zab (s.zq2_31 e _ v0 v1 v2 v3)
noncomputable def y.zq44 (Γ:Gam)(v0 v1 v2:V):Option V:=
 pr .scs [v0] fun v3=>pr .scs [v2] fun v4=>Γ 84 10 [v1, .int .i64 0,v3,v4, .agg [.int .u32 0, .int .u32 0, .int .u32 0, .int .u32 0, .int .u32 0, .int .u32 0, .int .u32 0, .int .u32 0],(.agg (repl 64 (.int .u32 0)))]
theorem s.zq44 (e:Ev)(Γ:Gam)(v0 v1 v2:V):stp e Γ 84 0 [v0,v1,v2]=y.zq44 Γ v0 v1 v2:=by kernel_rfl
theorem w.zq44 (e:Ev)(v0 v1 v2:V):vl e 84 0 [v0,v1,v2]=y.zq44 (vl e) v0 v1 v2:=Zab (s.zq44 e _ v0 v1 v2)
noncomputable def y.zq44_10 (Γ:Gam)(v0 v1 v2 v3 v4 v5:V):Option V:=
 pr (.bin .lss .no) [v1, .int .i64 16] fun v6=>vif v6 (pr (.bin .mul .no) [.int .i64 4,v1] fun v7=>pr (.elem 1) [v0,v7] fun v8=>pr (.ld none 0) [v8] fun v9=>pr (.i2i .u32) [v9] fun v10=>pr (.bin .shl .no) [v10, .int .u64 24] fun v11=>pr (.bin .mul .no) [.int .i64 4,v1] fun v12=>pr (.bin .add .no) [v12, .int .i64 1] fun v13=>pr (.elem 1) [v0,v13] fun v14=>pr (.ld none 0) [v14] fun v15=>pr (.i2i .u32) [v15] fun v16=>pr (.bin .shl .no) [v16, .int .u64 16] fun v17=>pr (.bin .add .no) [v11,v17] fun v18=>pr (.bin .mul .no) [.int .i64 4,v1] fun v19=>pr (.bin .add .no) [v19, .int .i64 2] fun v20=>pr (.elem 1) [v0,v20] fun v21=>pr (.ld none 0) [v21] fun v22=>pr (.i2i .u32) [v22] fun v23=>pr (.bin .shl .no) [v23, .int .u64 8] fun v24=>pr (.bin .add .no) [v18,v24] fun v25=>pr (.bin .mul .no) [.int .i64 4,v1] fun v26=>pr (.bin .add .no) [v26, .int .i64 3] fun v27=>pr (.elem 1) [v0,v27] fun v28=>pr (.ld none 0) [v28] fun v29=>pr (.i2i .u32) [v29] fun v30=>pr (.bin .add .no) [v25,v30] fun v31=>pr (.chk 64) [v1] fun v32=>pr (.std 1 0 1) [v5,v32,v31] fun v33=>pr (.bin .add .no) [v1, .int .i64 1] fun v34=>Γ 84 10 [v0,v34,v2,v3,v4,v33]) (Γ 84 25 [.int .i64 16,v2,v3,v4,v5])
theorem s.zq44_10 (e:Ev)(Γ:Gam)(v0 v1 v2 v3 v4 v5:V):stp e Γ 84 10 [v0,v1,v2,v3,v4,v5]=y.zq44_10 Γ v0 v1 v2 v3 v4 v5:=by kernel_rfl
theorem w.zq44_10 (e:Ev)(v0 v1 v2 v3 v4 v5:V):vl e 84 10 [v0,v1,v2,v3,v4,v5]=y.zq44_10 (vl e) v0 v1 v2 v3 v4 v5:=Zab (s.zq44_10 e _ v0 v1 v2 v3 v4 v5)
noncomputable def y.zq44_25 (Γ:Gam)(v0 v1 v2 v3 v4:V):Option V:=
 pr (.bin .lss .no) [v0, .int .i64 64] fun v5=>vif v5 (pr (.bin .sub .no) [v0, .int .i64 15] fun v6=>pr (.chk 64) [v6] fun v7=>pr (.ldd none 0 1) [v4,v7] fun v8=>pr (.bin .sub .no) [v0, .int .i64 2] fun v9=>pr (.chk 64) [v9] fun v10=>pr (.ldd none 0 1) [v4,v10] fun v11=>ca Γ 101 [v8, .int .u64 7] fun v12=>ca Γ 101 [v8, .int .u64 18] fun v13=>pr (.bin .xor .no) [v12,v13] fun v14=>pr (.bin .shr .no) [v8, .int .u64 3] fun v15=>pr (.bin .xor .no) [v14,v15] fun v16=>ca Γ 101 [v11, .int .u64 17] fun v17=>ca Γ 101 [v11, .int .u64 19] fun v18=>pr (.bin .xor .no) [v17,v18] fun v19=>pr (.bin .shr .no) [v11, .int .u64 10] fun v20=>pr (.bin .xor .no) [v19,v20] fun v21=>pr (.bin .sub .no) [v0, .int .i64 16] fun v22=>pr (.chk 64) [v22] fun v23=>pr (.ldd none 0 1) [v4,v23] fun v24=>pr (.bin .add .no) [v24,v16] fun v25=>pr (.bin .sub .no) [v0, .int .i64 7] fun v26=>pr (.chk 64) [v26] fun v27=>pr (.ldd none 0 1) [v4,v27] fun v28=>pr (.bin .add .no) [v25,v28] fun v29=>pr (.bin .add .no) [v29,v21] fun v30=>pr (.chk 64) [v0] fun v31=>pr (.std 1 0 1) [v4,v31,v30] fun v32=>pr (.bin .add .no) [v0, .int .i64 1] fun v33=>Γ 84 25 [v33,v1,v2,v3,v32]) (pr (.ld none 0) [v1] fun v6=>pr (.ld none 1) [v1] fun v7=>pr (.ld none 2) [v1] fun v8=>pr (.ld none 3) [v1] fun v9=>pr (.ld none 4) [v1] fun v10=>pr (.ld none 5) [v1] fun v11=>pr (.ld none 6) [v1] fun v12=>pr (.ld none 7) [v1] fun v13=>Γ 84 48 [v6,v7,v8,v9,v10,v11,v12,v13, .int .i64 0,v1,v2,v3,v4])
theorem s.zq44_25 (e:Ev)(Γ:Gam)(v0 v1 v2 v3 v4:V):stp e Γ 84 25 [v0,v1,v2,v3,v4]=y.zq44_25 Γ v0 v1 v2 v3 v4:=by kernel_rfl
theorem w.zq44_25 (e:Ev)(v0 v1 v2 v3 v4:V):vl e 84 25 [v0,v1,v2,v3,v4]=y.zq44_25 (vl e) v0 v1 v2 v3 v4:=Zab (s.zq44_25 e _ v0 v1 v2 v3 v4)
noncomputable def y.zq44_48 (Γ:Gam)(v0 v1 v2 v3 v4 v5 v6 v7 v8 v9 v10 v11 v12:V):Option V:=
 pr (.bin .lss .no) [v8, .int .i64 64] fun v13=>vif v13 (ca Γ 102 [v4, .int .u64 6, .int .u64 11, .int .u64 25] fun v14=>pr (.bin .add .no) [v7,v14] fun v15=>pr (.bin .and .no) [v4,v5] fun v16=>pr (.un .xor) [v4] fun v17=>pr (.bin .and .no) [v17,v6] fun v18=>pr (.bin .xor .no) [v16,v18] fun v19=>pr (.bin .add .no) [v15,v19] fun v20=>pr (.chk 64) [v8] fun v21=>pr (.ldd none 0 1) [v10,v21] fun v22=>pr (.bin .add .no) [v20,v22] fun v23=>pr (.chk 64) [v8] fun v24=>pr (.ldd none 0 1) [v12,v24] fun v25=>pr (.bin .add .no) [v23,v25] fun v26=>ca Γ 102 [v0, .int .u64 2, .int .u64 13, .int .u64 22] fun v27=>pr (.bin .and .no) [v0,v1] fun v28=>pr (.bin .and .no) [v0,v2] fun v29=>pr (.bin .xor .no) [v28,v29] fun v30=>pr (.bin .and .no) [v1,v2] fun v31=>pr (.bin .xor .no) [v30,v31] fun v32=>pr (.bin .add .no) [v27,v32] fun v33=>pr (.bin .add .no) [v3,v26] fun v34=>pr (.bin .add .no) [v26,v33] fun v35=>pr (.bin .add .no) [v8, .int .i64 1] fun v36=>Γ 84 48 [v35,v0,v1,v2,v34,v4,v5,v6,v36,v9,v10,v11,v12]) (pr (.ld none 0) [v9] fun v14=>pr (.bin .add .no) [v14,v0] fun v15=>pr (.ld none 1) [v9] fun v16=>pr (.bin .add .no) [v16,v1] fun v17=>pr (.ld none 2) [v9] fun v18=>pr (.bin .add .no) [v18,v2] fun v19=>pr (.ld none 3) [v9] fun v20=>pr (.bin .add .no) [v20,v3] fun v21=>pr (.ld none 4) [v9] fun v22=>pr (.bin .add .no) [v22,v4] fun v23=>pr (.ld none 5) [v9] fun v24=>pr (.bin .add .no) [v24,v5] fun v25=>pr (.ld none 6) [v9] fun v26=>pr (.bin .add .no) [v26,v6] fun v27=>pr (.ld none 7) [v9] fun v28=>pr (.bin .add .no) [v28,v7] fun v29=>pr (.cat [none,none,none,none,none,none,none,none]) [v15,v17,v19,v21,v23,v25,v27,v29] fun v30=>some v30)
theorem s.zq44_48 (e:Ev)(Γ:Gam)(v0 v1 v2 v3 v4 v5 v6 v7 v8 v9 v10 v11 v12:V):stp e Γ 84 48 [v0,v1,v2,v3,v4,v5,v6,v7,v8,v9,v10,v11,v12]=y.zq44_48 Γ v0 v1 v2 v3 v4 v5 v6 v7 v8 v9 v10 v11 v12:=by kernel_rfl
theorem w.zq44_48 (e:Ev)(v0 v1 v2 v3 v4 v5 v6 v7 v8 v9 v10 v11 v12:V):vl e 84 48 [v0,v1,v2,v3,v4,v5,v6,v7,v8,v9,v10,v11,v12]=y.zq44_48 (vl e) v0 v1 v2 v3 v4 v5 v6 v7 v8 v9 v10 v11 v12:=Zab (s.zq44_48 e _ v0 v1 v2 v3 v4 v5 v6 v7 v8 v9 v10 v11 v12)
noncomputable def y.zq5 (Γ:Gam)(v0:V):Option V:=
 pr (.len true) [v0] fun v1=>pr (.bin .gtr .no) [v1, .int .i64 1048576] fun v2=>vif v2 (some (.tup [.sl false 1 [], .int .i64 3])) (ca Γ 117 [v0] fun v3=>pr (.ext 0) [v3] fun v4=>pr (.ext 1) [v3] fun v5=>pr (.un .not) [v5] fun v6=>vif v6 (Γ 104 17 [v0,v4, .bool true]) (pr (.bin .lss .no) [v4, .int .i64 0] fun v7=>vif v7 (Γ 104 17 [v0,v4, .bool true]) (pr (.len true) [v0] fun v8=>pr (.bin .quo .no) [v8, .int .i64 8] fun v9=>pr (.bin .gtr .no) [v4,v9] fun v10=>Γ 104 17 [v0,v4,v10])))
theorem s.zq5 (e:Ev)(Γ:Gam)(v0:V):stp e Γ 104 0 [v0]=y.zq5 Γ v0:=by kernel_rfl
theorem w.zq5 (e:Ev)(v0:V):vl e 104 0 [v0]=y.zq5 (vl e) v0:=Zab (s.zq5 e _ v0)
noncomputable def y.zq5_17 (Γ:Gam)(v0 v1 v2:V):Option V:=
 vif v2 (some (.tup [.sl false 1 [], .int .i64 4])) (pr (.mnx false) [v1, .int .i64 4096] fun v3=>pr (.mks 1) [.int .i64 0,v3] fun v4=>pr (.sls true false) [v0, .int .i64 8] fun v5=>Γ 104 30 [v4,v5,v1, .int .i64 0])
theorem s.zq5_17 (e:Ev)(Γ:Gam)(v0 v1 v2:V):stp e Γ 104 17 [v0,v1,v2]=y.zq5_17 Γ v0 v1 v2:=by kernel_rfl
theorem w.zq5_17 (e:Ev)(v0 v1 v2:V):vl e 104 17 [v0,v1,v2]=y.zq5_17 (vl e) v0 v1 v2:=Zab (s.zq5_17 e _ v0 v1 v2)
noncomputable def y.zq5_30 (Γ:Gam)(v0 v1 v2 v3:V):Option V:=
 pr (.bin .lss .no) [v3,v2] fun v4=>vif v4 (ca Γ 117 [v1] fun v5=>pr (.ext 0) [v5] fun v6=>pr (.ext 1) [v5] fun v7=>pr (.un .not) [v7] fun v8=>vif v8 (some (.tup [.sl false 1 [], .int .i64 4])) (pr (.bin .lss .no) [v6, .int .i64 0] fun v9=>vif v9 (some (.tup [.sl false 1 [], .int .i64 4])) (pr (.len true) [v1] fun v10=>pr (.bin .sub .no) [v10, .int .i64 8] fun v11=>pr (.bin .gtr .no) [v6,v11] fun v12=>vif v12 (some (.tup [.sl false 1 [], .int .i64 4])) (pr (.bin .add .no) [.int .i64 8,v6] fun v13=>pr (.sls true true) [v1, .int .i64 8,v13] fun v14=>pr (.bsl 1) [v14] fun v15=>pr (.app 1) [v0,v15] fun v16=>pr (.bin .add .no) [.int .i64 8,v6] fun v17=>pr (.sls true false) [v1,v17] fun v18=>pr (.bin .add .no) [v3, .int .i64 1] fun v19=>Γ 104 30 [v16,v18,v2,v19])))) (pr (.bin .neq .no) [v1, .str []] fun v5=>vif v5 (some (.tup [.sl false 1 [], .int .i64 4])) (some (.tup [v0, .int .i64 0])))
theorem s.zq5_30 (e:Ev)(Γ:Gam)(v0 v1 v2 v3:V):stp e Γ 104 30 [v0,v1,v2,v3]=y.zq5_30 Γ v0 v1 v2 v3:=by kernel_rfl
theorem w.zq5_30 (e:Ev)(v0 v1 v2 v3:V):vl e 104 30 [v0,v1,v2,v3]=y.zq5_30 (vl e) v0 v1 v2 v3:=Zab (s.zq5_30 e _ v0 v1 v2 v3)
noncomputable def y.zq9 (Γ:Gam)(v0 v1:V):Option V:=
 pr (.i2i .u64) [v1] fun v2=>pr (.bin .and .no) [v2, .int .u64 31] fun v3=>pr (.bin .shl .no) [v0,v3] fun v4=>pr (.bin .sub .no) [.int .u64 32,v3] fun v5=>pr (.bin .shr .no) [v0,v5] fun v6=>pr (.bin .or .no) [v4,v6] fun v7=>some v7
theorem s.zq9 (e:Ev)(Γ:Gam)(v0 v1:V):stp e Γ 108 0 [v0,v1]=y.zq9 Γ v0 v1:=by kernel_rfl
theorem w.zq9 (e:Ev)(v0 v1:V):vl e 108 0 [v0,v1]=y.zq9 (vl e) v0 v1:=Zab (s.zq9 e _ v0 v1)
noncomputable def y.zq6 (Γ:Gam)(v0 v1:V):Option V:=
 pr (.len true) [v0] fun v2=>pr (.bin .sub .no) [v2, .int .i64 1] fun v3=>Γ 116 8 [v0,v1,v3]
theorem s.zq6 (e:Ev)(Γ:Gam)(v0 v1:V):stp e Γ 116 0 [v0,v1]=y.zq6 Γ v0 v1:=by kernel_rfl
theorem w.zq6 (e:Ev)(v0 v1:V):vl e 116 0 [v0,v1]=y.zq6 (vl e) v0 v1:=Zab (s.zq6 e _ v0 v1)
noncomputable def y.zq6_8 (Γ:Gam)(v0 v1 v2:V):Option V:=
 pr (.bin .geq .no) [v2, .int .i64 0] fun v3=>vif v3 (pr .idx [v0,v2] fun v4=>pr (.bin .eql .no) [v4,v1] fun v5=>vif v5 (some v2) (pr (.bin .sub .no) [v2, .int .i64 1] fun v6=>Γ 116 8 [v0,v1,v6])) (some (.int .i64 (-1)))
theorem s.zq6_8 (e:Ev)(Γ:Gam)(v0 v1 v2:V):stp e Γ 116 8 [v0,v1,v2]=y.zq6_8 Γ v0 v1 v2:=by kernel_rfl
theorem w.zq6_8 (e:Ev)(v0 v1 v2:V):vl e 116 8 [v0,v1,v2]=y.zq6_8 (vl e) v0 v1 v2:=Zab (s.zq6_8 e _ v0 v1 v2)
noncomputable def y.zq40 (Γ:Gam)(v0 v1:V):Option V:=
 ca Γ 7 [] fun v2=>pr (.un .not) [v2] fun v3=>vif v3 (some (.bool false)) (ca Γ 8 [v0, .int .i64 40, .int .i64 4096] fun v4=>vif v4 (Γ 5 15 [v0,v1, .bool true]) (ca Γ 9 [v0] fun v5=>pr (.bin .neq .no) [v5, .int .i64 0] fun v6=>vif v6 (Γ 5 15 [v0,v1, .bool true]) (pr (.len false) [v0] fun v7=>pr (.bin .eql .no) [v7, .int .i64 0] fun v8=>vif v8 (Γ 5 15 [v0,v1, .bool true]) (pr (.bsl 1) [v0] fun v9=>ca Γ 10 [v9] fun v10=>Γ 5 15 [v0,v1,v10]))))
theorem s.zq40 (e:Ev)(Γ:Gam)(v0 v1:V):stp e Γ 5 0 [v0,v1]=y.zq40 Γ v0 v1:=by kernel_rfl
theorem w.zq40 (e:Ev)(v0 v1:V):vl e 5 0 [v0,v1]=y.zq40 (vl e) v0 v1:=Zab (s.zq40 e _ v0 v1)
noncomputable def y.zq40_15 (Γ:Gam)(v0 v1 v2:V):Option V:=
 vif v2 (some (.bool true)) (ch Γ 10192 [] fun v3=>pr (.ext 0) [v3] fun v4=>pr (.ext 1) [v3] fun v5=>pr (.ext 2) [v3] fun v6=>ch Γ 10208 [v0,v4,v5,v6] fun v7=>pr (.ext 0) [v7] fun v8=>pr (.ext 1) [v7] fun v9=>pr (.ext 2) [v7] fun v10=>pr (.ext 3) [v7] fun v11=>pr (.ext 4) [v7] fun v12=>pr (.cat [some 32]) [v8] fun v13=>ch Γ 10288 [v13,v10,v11,v12] fun v14=>pr (.ext 0) [v14] fun v15=>pr (.ext 1) [v14] fun v16=>pr (.ext 2) [v14] fun v17=>pr (.ext 3) [v14] fun v18=>pr (.ext 4) [v14] fun v19=>ca Γ 11 [v0] fun v20=>pr (.bin .neq .no) [v9, .int .i64 0] fun v21=>vif v21 (Γ 5 31 [v0,v1,v15,v20, .bool true,v13,v17,v18,v19]) (pr (.bin .neq .no) [v16, .int .i64 0] fun v22=>vif v22 (Γ 5 31 [v0,v1,v15,v20, .bool true,v13,v17,v18,v19]) (pr (.len false) [v15] fun v23=>pr (.len false) [v20] fun v24=>pr (.bin .neq .no) [v23,v24] fun v25=>Γ 5 31 [v0,v1,v15,v20,v25,v13,v17,v18,v19])))
theorem s.zq40_15 (e:Ev)(Γ:Gam)(v0 v1 v2:V):stp e Γ 5 15 [v0,v1,v2]=y.zq40_15 Γ v0 v1 v2:=by kernel_rfl
theorem w.zq40_15 (e:Ev)(v0 v1 v2:V):vl e 5 15 [v0,v1,v2]=y.zq40_15 (vl e) v0 v1 v2:=Zab (s.zq40_15 e _ v0 v1 v2)
noncomputable def y.zq40_31 (Γ:Gam)(v0 v1 v2 v3 v4 v5 v6 v7 v8:V):Option V:=
 vif v4 (some (.bool false)) (pr (.len false) [v2] fun v9=>Γ 5 40 [v0,v1,v3,v2,v9, .int .i64 0,v5,v6,v7,v8])
theorem s.zq40_31 (e:Ev)(Γ:Gam)(v0 v1 v2 v3 v4 v5 v6 v7 v8:V):stp e Γ 5 31 [v0,v1,v2,v3,v4,v5,v6,v7,v8]=y.zq40_31 Γ v0 v1 v2 v3 v4 v5 v6 v7 v8:=by kernel_rfl
theorem w.zq40_31 (e:Ev)(v0 v1 v2 v3 v4 v5 v6 v7 v8:V):vl e 5 31 [v0,v1,v2,v3,v4,v5,v6,v7,v8]=y.zq40_31 (vl e) v0 v1 v2 v3 v4 v5 v6 v7 v8:=Zab (s.zq40_31 e _ v0 v1 v2 v3 v4 v5 v6 v7 v8)
noncomputable def y.zq40_40 (Γ:Gam)(v0 v1 v2 v3 v4 v5 v6 v7 v8 v9:V):Option V:=
 pr (.bin .lss .no) [v5,v4] fun v10=>vif v10 (pr (.elem 33) [v3,v5] fun v11=>pr (.ld (some 33) 0) [v11] fun v12=>pr (.cat [some 33]) [v12] fun v13=>pr (.ld (some 32) 1) [v13] fun v14=>ch Γ 10336 [v14,v7,v8,v9] fun v15=>pr (.ext 0) [v15] fun v16=>pr (.ext 1) [v15] fun v17=>pr (.ext 2) [v15] fun v18=>pr (.ext 3) [v15] fun v19=>pr (.ext 4) [v15] fun v20=>pr (.bin .neq .no) [v17, .int .i64 0] fun v21=>vif v21 (some (.bool false)) (pr (.ld none 0) [v13] fun v22=>pr (.elem 2) [v2,v5] fun v23=>pr (.ld none 0) [v23] fun v24=>pr (.bin .neq .no) [v22,v24] fun v25=>vif v25 (some (.bool false)) (pr (.elem 2) [v2,v5] fun v26=>pr (.ld none 1) [v26] fun v27=>pr (.bin .neq .no) [v16,v27] fun v28=>vif v28 (some (.bool false)) (pr (.ld (some 32) 1) [v13] fun v29=>ca Γ 22 [v16] fun v30=>pr (.bin .neq (.flat [(some .u8,true),(some .u8,true),(some .u8,true),(some .u8,true),(some .u8,true),(some .u8,true),(some .u8,true),(some .u8,true),(some .u8,true),(some .u8,true),(some .u8,true),(some .u8,true),(some .u8,true),(some .u8,true),(some .u8,true),(some .u8,true),(some .u8,true),(some .u8,true),(some .u8,true),(some .u8,true),(some .u8,true),(some .u8,true),(some .u8,true),(some .u8,true),(some .u8,true),(some .u8,true),(some .u8,true),(some .u8,true),(some .u8,true),(some .u8,true),(some .u8,true),(some .u8,true)])) [v29,v30] fun v31=>vif v31 (some (.bool false)) (pr (.bin .add .no) [v5, .int .i64 1] fun v32=>Γ 5 40 [v0,v1,v2,v3,v4,v32,v6,v18,v19,v20]))))) (pr (.i2i .u64) [v1] fun v11=>pr (.len false) [v0] fun v12=>pr (.i2i .u64) [v12] fun v13=>pr (.bin .rem .no) [v11,v13] fun v14=>pr (.i2i .i64) [v14] fun v15=>ch Γ 10192 [] fun v16=>pr (.ext 0) [v16] fun v17=>pr (.ext 1) [v16] fun v18=>pr (.ext 2) [v16] fun v19=>pr (.bsl 2) [] fun v20=>pr (.slc 2 true false false) [v0,v15] fun v21=>pr (.app 2) [v20,v21] fun v22=>pr (.slc 2 false true false) [v0,v15] fun v23=>pr (.app 2) [v22,v23] fun v24=>ch Γ 10208 [v24,v17,v18,v19] fun v25=>pr (.ext 0) [v25] fun v26=>pr (.ext 1) [v25] fun v27=>pr (.ext 2) [v25] fun v28=>pr (.ext 3) [v25] fun v29=>pr (.ext 4) [v25] fun v30=>pr (.cat [some 32]) [v26] fun v31=>pr (.bin .eql .no) [v27, .int .i64 0] fun v32=>vif v32 (pr (.bin .eql (.flat [(some .u8,true),(some .u8,true),(some .u8,true),(some .u8,true),(some .u8,true),(some .u8,true),(some .u8,true),(some .u8,true),(some .u8,true),(some .u8,true),(some .u8,true),(some .u8,true),(some .u8,true),(some .u8,true),(some .u8,true),(some .u8,true),(some .u8,true),(some .u8,true),(some .u8,true),(some .u8,true),(some .u8,true),(some .u8,true),(some .u8,true),(some .u8,true),(some .u8,true),(some .u8,true),(some .u8,true),(some .u8,true),(some .u8,true),(some .u8,true),(some .u8,true),(some .u8,true)])) [v6,v31] fun v33=>some v33) (some (.bool false)))
theorem s.zq40_40 (e:Ev)(Γ:Gam)(v0 v1 v2 v3 v4 v5 v6 v7 v8 v9:V):stp e Γ 5 40 [v0,v1,v2,v3,v4,v5,v6,v7,v8,v9]=y.zq40_40 Γ v0 v1 v2 v3 v4 v5 v6 v7 v8 v9:=by kernel_rfl
theorem w.zq40_40 (e:Ev)(v0 v1 v2 v3 v4 v5 v6 v7 v8 v9:V):vl e 5 40 [v0,v1,v2,v3,v4,v5,v6,v7,v8,v9]=y.zq40_40 (vl e) v0 v1 v2 v3 v4 v5 v6 v7 v8 v9:=Zab (s.zq40_40 e _ v0 v1 v2 v3 v4 v5 v6 v7 v8 v9)
noncomputable def y.zq62 (Γ:Gam)(v0:V):Option V:=
 pr (.len false) [v0] fun v1=>pr (.bin .gtr .no) [v1, .int .i64 512] fun v2=>vif v2 (some (.int .i64 3)) (pr (.len false) [v0] fun v3=>Γ 9 16 [v0,v0,v3, .int .i64 0])
theorem s.zq62 (e:Ev)(Γ:Gam)(v0:V):stp e Γ 9 0 [v0]=y.zq62 Γ v0:=by kernel_rfl
theorem w.zq62 (e:Ev)(v0:V):vl e 9 0 [v0]=y.zq62 (vl e) v0:=Zab (s.zq62 e _ v0)
noncomputable def y.zq62_16 (Γ:Gam)(v0 v1 v2 v3:V):Option V:=
 pr (.bin .lss .no) [v3,v2] fun v4=>vif v4 (pr (.elem 2) [v1,v3] fun v5=>pr (.ld (some 2) 0) [v5] fun v6=>pr (.cat [some 2]) [v6] fun v7=>pr (.ld none 0) [v7] fun v8=>ca Γ 29 [v8] fun v9=>pr (.un .not) [v9] fun v10=>vif v10 (some (.int .i64 1)) (pr (.len false) [v0] fun v11=>Γ 9 38 [v0,v3,v1,v2,v3,v0,v11, .int .i64 0,v7])) (pr (.len false) [v0] fun v5=>Γ 9 64 [v0,v5, .int .i64 0])
theorem s.zq62_16 (e:Ev)(Γ:Gam)(v0 v1 v2 v3:V):stp e Γ 9 16 [v0,v1,v2,v3]=y.zq62_16 Γ v0 v1 v2 v3:=by kernel_rfl
theorem w.zq62_16 (e:Ev)(v0 v1 v2 v3:V):vl e 9 16 [v0,v1,v2,v3]=y.zq62_16 (vl e) v0 v1 v2 v3:=Zab (s.zq62_16 e _ v0 v1 v2 v3)
noncomputable def y.zq62_38 (Γ:Gam)(v0 v1 v2 v3 v4 v5 v6 v7 v8:V):Option V:=
 pr (.bin .lss .no) [v7,v6] fun v9=>vif v9 (pr (.elem 2) [v5,v7] fun v10=>pr (.ld (some 2) 0) [v10] fun v11=>pr (.cat [some 2]) [v11] fun v12=>pr (.ld none 0) [v12] fun v13=>pr (.ld none 0) [v8] fun v14=>ca Γ 30 [v13,v14] fun v15=>pr (.ext 0) [v15] fun v16=>pr (.ext 1) [v15] fun v17=>pr (.bin .neq .no) [v7,v1] fun v18=>vif v18 (vif v17 (some (.int .i64 1)) (pr (.ld none 0) [v12] fun v19=>pr (.ld none 0) [v8] fun v20=>pr (.bin .eql .no) [v19,v20] fun v21=>vif v21 (some (.int .i64 1)) (pr (.bin .add .no) [v7, .int .i64 1] fun v22=>Γ 9 38 [v0,v1,v2,v3,v4,v5,v6,v22,v8]))) (pr (.bin .add .no) [v7, .int .i64 1] fun v19=>Γ 9 38 [v0,v1,v2,v3,v4,v5,v6,v19,v8])) (pr (.bin .add .no) [v4, .int .i64 1] fun v10=>Γ 9 16 [v0,v2,v3,v10])
theorem s.zq62_38 (e:Ev)(Γ:Gam)(v0 v1 v2 v3 v4 v5 v6 v7 v8:V):stp e Γ 9 38 [v0,v1,v2,v3,v4,v5,v6,v7,v8]=y.zq62_38 Γ v0 v1 v2 v3 v4 v5 v6 v7 v8:=by kernel_rfl
theorem w.zq62_38 (e:Ev)(v0 v1 v2 v3 v4 v5 v6 v7 v8:V):vl e 9 38 [v0,v1,v2,v3,v4,v5,v6,v7,v8]=y.zq62_38 (vl e) v0 v1 v2 v3 v4 v5 v6 v7 v8:=Zab (s.zq62_38 e _ v0 v1 v2 v3 v4 v5 v6 v7 v8)
noncomputable def y.zq62_64 (Γ:Gam)(v0 v1 v2:V):Option V:=
 pr (.bin .lss .no) [v2,v1] fun v3=>vif v3 (pr (.elem 2) [v0,v2] fun v4=>pr (.ld (some 2) 0) [v4] fun v5=>pr (.cat [some 2]) [v5] fun v6=>pr (.ld none 1) [v6] fun v7=>pr (.len true) [v7] fun v8=>pr (.bin .gtr .no) [v8, .int .i64 32768] fun v9=>vif v9 (some (.int .i64 3)) (pr (.bin .add .no) [v2, .int .i64 1] fun v10=>Γ 9 64 [v0,v1,v10])) (some (.int .i64 0))
theorem s.zq62_64 (e:Ev)(Γ:Gam)(v0 v1 v2:V):stp e Γ 9 64 [v0,v1,v2]=y.zq62_64 Γ v0 v1 v2:=by kernel_rfl
theorem w.zq62_64 (e:Ev)(v0 v1 v2:V):vl e 9 64 [v0,v1,v2]=y.zq62_64 (vl e) v0 v1 v2:=Zab (s.zq62_64 e _ v0 v1 v2)
noncomputable def y.zq58 (Γ:Gam)(v0:V):Option V:=
 pr (.len false) [v0] fun v1=>Γ 17 10 [.sl false 1 [],v0,v1, .int .i64 0]
theorem s.zq58 (e:Ev)(Γ:Gam)(v0:V):stp e Γ 17 0 [v0]=y.zq58 Γ v0:=by kernel_rfl
theorem w.zq58 (e:Ev)(v0:V):vl e 17 0 [v0]=y.zq58 (vl e) v0:=Zab (s.zq58 e _ v0)
noncomputable def y.zq58_10 (Γ:Gam)(v0 v1 v2 v3:V):Option V:=
 pr (.bin .lss .no) [v3,v2] fun v4=>vif v4 (pr (.elem 34) [v1,v3] fun v5=>pr (.ld (some 34) 0) [v5] fun v6=>pr (.cat [some 34]) [v6] fun v7=>pr (.ld none 1) [v7] fun v8=>vif v8 (pr (.bsl 1) [.str [116,114,101,101]] fun v9=>pr (.app 1) [v0,v9] fun v10=>pr (.ld none 0) [v7] fun v11=>pr (.b2so 2 32) [v7] fun v12=>pr (.bsl 1) [v11,v12] fun v13=>pr (.app 1) [v10,v13] fun v14=>pr (.bin .add .no) [v3, .int .i64 1] fun v15=>Γ 17 10 [v14,v1,v2,v15]) (pr (.bsl 1) [.str [98,108,111,98]] fun v9=>pr (.app 1) [v0,v9] fun v10=>pr (.ld none 0) [v7] fun v11=>pr (.b2so 2 32) [v7] fun v12=>pr (.bsl 1) [v11,v12] fun v13=>pr (.app 1) [v10,v13] fun v14=>pr (.bin .add .no) [v3, .int .i64 1] fun v15=>Γ 17 10 [v14,v1,v2,v15])) (ca Γ 43 [v0] fun v5=>some v5)
theorem s.zq58_10 (e:Ev)(Γ:Gam)(v0 v1 v2 v3:V):stp e Γ 17 10 [v0,v1,v2,v3]=y.zq58_10 Γ v0 v1 v2 v3:=by kernel_rfl
theorem w.zq58_10 (e:Ev)(v0 v1 v2 v3:V):vl e 17 10 [v0,v1,v2,v3]=y.zq58_10 (vl e) v0 v1 v2 v3:=Zab (s.zq58_10 e _ v0 v1 v2 v3)
noncomputable def y.zq51 (Γ:Gam)(v0:V):Option V:=
 ca Γ 50 [v0] fun v1=>pr (.len false) [v1] fun v2=>Γ 29 10 [v0,v1,v1,v2, .int .i64 0]
theorem s.zq51 (e:Ev)(Γ:Gam)(v0:V):stp e Γ 29 0 [v0]=y.zq51 Γ v0:=by kernel_rfl
theorem w.zq51 (e:Ev)(v0:V):vl e 29 0 [v0]=y.zq51 (vl e) v0:=Zab (s.zq51 e _ v0)
noncomputable def y.zq51_10 (Γ:Gam)(v0 v1 v2 v3 v4:V):Option V:=
 pr (.bin .lss .no) [v4,v3] fun v5=>vif v5 (pr (.elem 1) [v2,v4] fun v6=>pr (.ld none 0) [v6] fun v7=>ca Γ 51 [v7] fun v8=>pr (.un .not) [v8] fun v9=>vif v9 (some (.bool false)) (pr (.bin .add .no) [v4, .int .i64 1] fun v10=>Γ 29 10 [v0,v1,v2,v3,v10])) (pr (.len true) [v0] fun v6=>pr (.bin .leq .no) [v6, .int .i64 128] fun v7=>vif v7 (pr (.len false) [v1] fun v8=>pr (.bin .leq .no) [v8, .int .i64 16] fun v9=>some v9) (some (.bool false)))
theorem s.zq51_10 (e:Ev)(Γ:Gam)(v0 v1 v2 v3 v4:V):stp e Γ 29 10 [v0,v1,v2,v3,v4]=y.zq51_10 Γ v0 v1 v2 v3 v4:=by kernel_rfl
theorem w.zq51_10 (e:Ev)(v0 v1 v2 v3 v4:V):vl e 29 10 [v0,v1,v2,v3,v4]=y.zq51_10 (vl e) v0 v1 v2 v3 v4:=Zab (s.zq51_10 e _ v0 v1 v2 v3 v4)
noncomputable def y.zq18 (Γ:Gam)(v0:V):Option V:=
 pr (.len true) [v0] fun v1=>pr (.bin .gtr .no) [v1, .int .i64 128] fun v2=>vif v2 (some (.bool false)) (ca Γ 56 [v0, .str [47]] fun v3=>pr (.len false) [v3] fun v4=>pr (.bin .leq .no) [v4, .int .i64 16] fun v5=>vif v5 (ca Γ 57 [v3, .fn 58 []] fun v6=>pr (.un .not) [v6] fun v7=>some v7) (some (.bool false)))
theorem s.zq18 (e:Ev)(Γ:Gam)(v0:V):stp e Γ 37 0 [v0]=y.zq18 Γ v0:=by kernel_rfl
theorem w.zq18 (e:Ev)(v0:V):vl e 37 0 [v0]=y.zq18 (vl e) v0:=Zab (s.zq18 e _ v0)
noncomputable def y.zq13 (Γ:Gam)(v0:V):Option V:=
 ca Γ 63 [v0] fun v1=>pr (.un .not) [v1] fun v2=>vif v2 (some (.tup [.str [], .int .i64 1])) (pr (.len false) [v0] fun v3=>Γ 41 18 [.sl false 1 [],v0,v3, .int .i64 0])
theorem s.zq13 (e:Ev)(Γ:Gam)(v0:V):stp e Γ 41 0 [v0]=y.zq13 Γ v0:=by kernel_rfl
theorem w.zq13 (e:Ev)(v0:V):vl e 41 0 [v0]=y.zq13 (vl e) v0:=Zab (s.zq13 e _ v0)
noncomputable def y.zq13_18 (Γ:Gam)(v0 v1 v2 v3:V):Option V:=
 pr (.bin .lss .no) [v3,v2] fun v4=>vif v4 (pr (.elem 34) [v1,v3] fun v5=>pr (.ld (some 34) 0) [v5] fun v6=>pr (.cat [some 34]) [v6] fun v7=>pr (.ld none 1) [v7] fun v8=>vif v8 (pr (.ld none 0) [v7] fun v9=>pr (.b2so 2 32) [v7] fun v10=>pr (.bsl 1) [.str [116,114,101,101],v9,v10] fun v11=>pr (.app 1) [v0,v11] fun v12=>pr (.bin .add .no) [v3, .int .i64 1] fun v13=>Γ 41 18 [v12,v1,v2,v13]) (pr (.ld none 0) [v7] fun v9=>pr (.b2so 2 32) [v7] fun v10=>pr (.bsl 1) [.str [98,108,111,98],v9,v10] fun v11=>pr (.app 1) [v0,v11] fun v12=>pr (.bin .add .no) [v3, .int .i64 1] fun v13=>Γ 41 18 [v12,v1,v2,v13])) (ca Γ 64 [v0] fun v5=>some (.tup [v5, .int .i64 0]))
theorem s.zq13_18 (e:Ev)(Γ:Gam)(v0 v1 v2 v3:V):stp e Γ 41 18 [v0,v1,v2,v3]=y.zq13_18 Γ v0 v1 v2 v3:=by kernel_rfl
theorem w.zq13_18 (e:Ev)(v0 v1 v2 v3:V):vl e 41 18 [v0,v1,v2,v3]=y.zq13_18 (vl e) v0 v1 v2 v3:=Zab (s.zq13_18 e _ v0 v1 v2 v3)
end Go.Proofs.YtpmgdngjbdkdfaaGreatDoor
namespace Go.Proofs.YtpmgdngjbdkdfaaGreatDoor
open Go.Abs
noncomputable def y.zq69 (Γ:Gam)(v0 v1:V):Option V:=
 ca Γ 75 [v0,v1] fun v2=>pr (.bin .geq .no) [v2, .int .i64 0] fun v3=>some v3
theorem s.zq69 (e:Ev)(Γ:Gam)(v0 v1:V):stp e Γ 57 0 [v0,v1]=y.zq69 Γ v0 v1:=by kernel_rfl
theorem w.zq69 (e:Ev)(v0 v1:V):vl e 57 0 [v0,v1]=y.zq69 (vl e) v0 v1:=Zab (s.zq69 e _ v0 v1)
noncomputable def y.zq20 (Γ:Gam)(v0:V):Option V:=
 ch Γ 11280 [v0] fun v1=>pr (.ext 0) [v1] fun v2=>pr (.ext 1) [v1] fun v3=>ch Γ 11264 [v2, .fn 81 [],v3] fun v4=>pr (.ext 0) [v4] fun v5=>pr (.ext 1) [v4] fun v6=>pr .snapx [v6,v5] fun v7=>ca Γ 78 [v7, .str [47]] fun v8=>pr .flr [v8] fun v9=>some v9
theorem s.zq20 (e:Ev)(Γ:Gam)(v0:V):stp e Γ 61 0 [v0]=y.zq20 Γ v0:=by kernel_rfl
theorem w.zq20 (e:Ev)(v0:V):vl e 61 0 [v0]=y.zq20 (vl e) v0:=Zab (s.zq20 e _ v0)
noncomputable def y.zq43 (Γ:Gam)(v0:V):Option V:=
 pr (.i2i .u64) [v0] fun v1=>Γ 65 12 [v1, .str [], .int .i64 0]
theorem s.zq43 (e:Ev)(Γ:Gam)(v0:V):stp e Γ 65 0 [v0]=y.zq43 Γ v0:=by kernel_rfl
theorem w.zq43 (e:Ev)(v0:V):vl e 65 0 [v0]=y.zq43 (vl e) v0:=Zab (s.zq43 e _ v0)
noncomputable def y.zq43_12 (Γ:Gam)(v0 v1 v2:V):Option V:=
 pr (.bin .lss .no) [v2, .int .i64 8] fun v3=>vif v3 (pr (.bin .rem .no) [v0, .int .u64 256] fun v4=>pr (.i2i .u8) [v4] fun v5=>pr (.bsl 1) [v5] fun v6=>pr .b2s [v6] fun v7=>pr (.bin .add .no) [v7,v1] fun v8=>pr (.bin .quo .no) [v0, .int .u64 256] fun v9=>pr (.bin .add .no) [v2, .int .i64 1] fun v10=>Γ 65 12 [v9,v8,v10]) (some v1)
theorem s.zq43_12 (e:Ev)(Γ:Gam)(v0 v1 v2:V):stp e Γ 65 12 [v0,v1,v2]=y.zq43_12 Γ v0 v1 v2:=by kernel_rfl
theorem w.zq43_12 (e:Ev)(v0 v1 v2:V):vl e 65 12 [v0,v1,v2]=y.zq43_12 (vl e) v0 v1 v2:=Zab (s.zq43_12 e _ v0 v1 v2)
noncomputable def y.zq52 (Γ:Gam)(v0:V):Option V:=
 pr (.len false) [v0] fun v1=>Γ 69 10 [.str [],v0,v1, .int .i64 0]
theorem s.zq52 (e:Ev)(Γ:Gam)(v0:V):stp e Γ 69 0 [v0]=y.zq52 Γ v0:=by kernel_rfl
theorem w.zq52 (e:Ev)(v0:V):vl e 69 0 [v0]=y.zq52 (vl e) v0:=Zab (s.zq52 e _ v0)
noncomputable def y.zq52_10 (Γ:Gam)(v0 v1 v2 v3:V):Option V:=
 pr (.bin .lss .no) [v3,v2] fun v4=>vif v4 (pr (.elem 1) [v1,v3] fun v5=>pr (.ld none 0) [v5] fun v6=>pr (.bin .neq .no) [v6, .str []] fun v7=>vif v7 (pr (.bin .neq .no) [v0, .str []] fun v8=>vif v8 (pr (.bin .add .no) [v0, .str [47]] fun v9=>pr (.bin .add .no) [v9,v6] fun v10=>pr (.bin .add .no) [v3, .int .i64 1] fun v11=>Γ 69 10 [v10,v1,v2,v11]) (pr (.bin .add .no) [v0,v6] fun v9=>pr (.bin .add .no) [v3, .int .i64 1] fun v10=>Γ 69 10 [v9,v1,v2,v10])) (pr (.bin .add .no) [v0,v6] fun v8=>pr (.bin .add .no) [v3, .int .i64 1] fun v9=>Γ 69 10 [v8,v1,v2,v9])) (some v0)
theorem s.zq52_10 (e:Ev)(Γ:Gam)(v0 v1 v2 v3:V):stp e Γ 69 10 [v0,v1,v2,v3]=y.zq52_10 Γ v0 v1 v2 v3:=by kernel_rfl
theorem w.zq52_10 (e:Ev)(v0 v1 v2 v3:V):vl e 69 10 [v0,v1,v2,v3]=y.zq52_10 (vl e) v0 v1 v2 v3:=Zab (s.zq52_10 e _ v0 v1 v2 v3)
noncomputable def y.zq0 (Γ:Gam)(v0 v1:V):Option V:=
 ca Γ 93 [v0] fun v2=>ca Γ 93 [v1] fun v3=>vif v2 (vif v3 (some (.int .i64 0)) (some (.int .i64 (-1)))) (vif v3 (some (.int .i64 1)) (pr (.bin .lss .no) [v0,v1] fun v4=>vif v4 (some (.int .i64 (-1))) (pr (.bin .gtr .no) [v0,v1] fun v5=>vif v5 (some (.int .i64 1)) (some (.int .i64 0)))))
theorem s.zq0 (e:Ev)(Γ:Gam)(v0 v1:V):stp e Γ 73 0 [v0,v1]=y.zq0 Γ v0 v1:=by kernel_rfl
theorem w.zq0 (e:Ev)(v0 v1:V):vl e 73 0 [v0,v1]=y.zq0 (vl e) v0 v1:=Zab (s.zq0 e _ v0 v1)
noncomputable def y.zq7 (Γ:Gam)(v0 v1:V):Option V:=
 ca Γ 97 [v0,v1] fun v2=>pr (.un .not) [v2] fun v3=>vif v3 (some (.tup [v0, .bool false])) (pr (.len true) [v1] fun v4=>pr (.sls true false) [v0,v4] fun v5=>some (.tup [v5, .bool true]))
theorem s.zq7 (e:Ev)(Γ:Gam)(v0 v1:V):stp e Γ 77 0 [v0,v1]=y.zq7 Γ v0 v1:=by kernel_rfl
theorem w.zq7 (e:Ev)(v0 v1:V):vl e 77 0 [v0,v1]=y.zq7 (vl e) v0 v1:=Zab (s.zq7 e _ v0 v1)
noncomputable def y.zq21 (Γ:Gam)(v0:V):Option V:=
 pr (.bin .eql .no) [v0, .str []] fun v1=>some v1
theorem s.zq21 (e:Ev)(Γ:Gam)(v0:V):stp e Γ 81 0 [v0]=y.zq21 Γ v0:=by kernel_rfl
theorem w.zq21 (e:Ev)(v0:V):vl e 81 0 [v0]=y.zq21 (vl e) v0:=Zab (s.zq21 e _ v0)
noncomputable def y.zq17 (Γ:Gam)(v0:V):Option V:=
 ca Γ 103 [v0, .int .u8 47] fun v1=>pr (.mnx true) [v1, .int .i64 0] fun v2=>pr (.sls false true) [v0,v2] fun v3=>some v3
theorem s.zq17 (e:Ev)(Γ:Gam)(v0:V):stp e Γ 85 0 [v0]=y.zq17 Γ v0:=by kernel_rfl
theorem w.zq17 (e:Ev)(v0:V):vl e 85 0 [v0]=y.zq17 (vl e) v0:=Zab (s.zq17 e _ v0)
noncomputable def y.zq1 (Γ:Gam)(v0:V):Option V:=
 pr (.bin .neq .no) [v0,v0] fun v1=>some v1
theorem s.zq1 (e:Ev)(Γ:Gam)(v0:V):stp e Γ 93 0 [v0]=y.zq1 Γ v0:=by kernel_rfl
theorem w.zq1 (e:Ev)(v0:V):vl e 93 0 [v0]=y.zq1 (vl e) v0:=Zab (s.zq1 e _ v0)
noncomputable def y.zq8 (Γ:Gam)(v0 v1:V):Option V:=
 pr (.len true) [v0] fun v2=>pr (.len true) [v1] fun v3=>pr (.bin .geq .no) [v2,v3] fun v4=>vif v4 (pr (.len true) [v1] fun v5=>pr (.sls false true) [v0,v5] fun v6=>pr (.bin .eql .no) [v6,v1] fun v7=>some v7) (some (.bool false))
theorem s.zq8 (e:Ev)(Γ:Gam)(v0 v1:V):stp e Γ 97 0 [v0,v1]=y.zq8 Γ v0 v1:=by kernel_rfl
theorem w.zq8 (e:Ev)(v0 v1:V):vl e 97 0 [v0,v1]=y.zq8 (vl e) v0 v1:=Zab (s.zq8 e _ v0 v1)
noncomputable def y.zq49 (Γ:Gam)(v0 v1:V):Option V:=
 pr (.bin .shr .no) [v0,v1] fun v2=>pr (.bin .sub .no) [.int .u64 32,v1] fun v3=>pr (.bin .shl .no) [v0,v3] fun v4=>pr (.bin .or .no) [v2,v4] fun v5=>some v5
theorem s.zq49 (e:Ev)(Γ:Gam)(v0 v1:V):stp e Γ 101 0 [v0,v1]=y.zq49 Γ v0 v1:=by kernel_rfl
theorem w.zq49 (e:Ev)(v0 v1:V):vl e 101 0 [v0,v1]=y.zq49 (vl e) v0 v1:=Zab (s.zq49 e _ v0 v1)
noncomputable def y.zq15 (Γ:Gam)(v0:V):Option V:=
 pr (.len true) [v0] fun v1=>pr (.bin .neq .no) [v1, .int .i64 32] fun v2=>vif v2 (pr (.cat []) [] fun v3=>pr (.cat [some 32]) [(.agg (repl 32 (.int .u8 0)))] fun v4=>some (.tup [v4, .bool false])) (pr .s2b [v0] fun v3=>pr (.s2a 32) [v3] fun v4=>pr (.ld (some 32) 0) [v4] fun v5=>pr (.cat [some 32]) [v5] fun v6=>some (.tup [v6, .bool true]))
theorem s.zq15 (e:Ev)(Γ:Gam)(v0:V):stp e Γ 105 0 [v0]=y.zq15 Γ v0:=by kernel_rfl
theorem w.zq15 (e:Ev)(v0:V):vl e 105 0 [v0]=y.zq15 (vl e) v0:=Zab (s.zq15 e _ v0)
noncomputable def y.zq4 (Γ:Gam)(v0:V):Option V:=
 pr (.len true) [v0] fun v1=>pr (.bin .lss .no) [v1, .int .i64 8] fun v2=>vif v2 (some (.tup [.int .i64 0, .bool false])) (Γ 117 18 [v0, .int .u64 0, .int .i64 0])
theorem s.zq4 (e:Ev)(Γ:Gam)(v0:V):stp e Γ 117 0 [v0]=y.zq4 Γ v0:=by kernel_rfl
theorem w.zq4 (e:Ev)(v0:V):vl e 117 0 [v0]=y.zq4 (vl e) v0:=Zab (s.zq4 e _ v0)
noncomputable def y.zq4_18 (Γ:Gam)(v0 v1 v2:V):Option V:=
 pr (.bin .lss .no) [v2, .int .i64 8] fun v3=>vif v3 (pr (.bin .shl .no) [v1, .int .u64 8] fun v4=>pr .idx [v0,v2] fun v5=>pr (.i2i .u64) [v5] fun v6=>pr (.bin .or .no) [v4,v6] fun v7=>pr (.bin .add .no) [v2, .int .i64 1] fun v8=>Γ 117 18 [v0,v7,v8]) (pr (.i2i .i64) [v1] fun v4=>some (.tup [v4, .bool true]))
theorem s.zq4_18 (e:Ev)(Γ:Gam)(v0 v1 v2:V):stp e Γ 117 18 [v0,v1,v2]=y.zq4_18 Γ v0 v1 v2:=by kernel_rfl
theorem w.zq4_18 (e:Ev)(v0 v1 v2:V):vl e 117 18 [v0,v1,v2]=y.zq4_18 (vl e) v0 v1 v2:=Zab (s.zq4_18 e _ v0 v1 v2)
noncomputable def y.zq59 (Γ:Gam)(v0:V):Option V:=
 pr (.cat []) [] fun v1=>pr (.cat [none,none]) [.sl false 34 [], .sl false 34 []] fun v2=>pr (.len false) [v0] fun v3=>Γ 10 10 [v0,v3, .int .i64 0, .sl false 34 [], .sl false 34 []]
theorem s.zq59 (e:Ev)(Γ:Gam)(v0:V):stp e Γ 10 0 [v0]=y.zq59 Γ v0:=by kernel_rfl
theorem w.zq59 (e:Ev)(v0:V):vl e 10 0 [v0]=y.zq59 (vl e) v0:=Zab (s.zq59 e _ v0)
noncomputable def y.zq59_10 (Γ:Gam)(v0 v1 v2 v3 v4:V):Option V:=
 pr (.bin .lss .no) [v2,v1] fun v5=>vif v5 (pr (.elem 1) [v0,v2] fun v6=>pr (.ld none 0) [v6] fun v7=>ch Γ 10384 [v7,v3,v4] fun v8=>pr (.ext 0) [v8] fun v9=>pr (.ext 1) [v8] fun v10=>pr (.ext 2) [v8] fun v11=>pr (.ext 3) [v8] fun v12=>pr (.bin .add .no) [v2, .int .i64 1] fun v13=>Γ 10 10 [v0,v1,v13,v11,v12]) (ch Γ 10496 [v3,v4] fun v6=>pr (.ext 0) [v6] fun v7=>pr (.ext 1) [v6] fun v8=>pr (.ext 2) [v6] fun v9=>some v7)
theorem s.zq59_10 (e:Ev)(Γ:Gam)(v0 v1 v2 v3 v4:V):stp e Γ 10 10 [v0,v1,v2,v3,v4]=y.zq59_10 Γ v0 v1 v2 v3 v4:=by kernel_rfl
theorem w.zq59_10 (e:Ev)(v0 v1 v2 v3 v4:V):vl e 10 10 [v0,v1,v2,v3,v4]=y.zq59_10 (vl e) v0 v1 v2 v3 v4:=Zab (s.zq59_10 e _ v0 v1 v2 v3 v4)
noncomputable def y.zq10 (Γ:Gam)(v0:V):Option V:=
 pr (.bsl 1) [v0] fun v1=>ca Γ 46 [.str [98,108,111,98],v1] fun v2=>pr (.cat [some 32]) [v2] fun v3=>some v3
theorem s.zq10 (e:Ev)(Γ:Gam)(v0:V):stp e Γ 22 0 [v0]=y.zq10 Γ v0:=by kernel_rfl
theorem w.zq10 (e:Ev)(v0:V):vl e 22 0 [v0]=y.zq10 (vl e) v0:=Zab (s.zq10 e _ v0)
noncomputable def y.zq56 (Γ:Gam)(v0 v1:V):Option V:=
 pr (.bin .eql .no) [v0, .str []] fun v2=>vif v2 (pr (.bin .neq .no) [v1, .str []] fun v3=>some (.tup [v1,v3])) (pr (.len true) [v0] fun v3=>pr (.len true) [v1] fun v4=>pr (.bin .add .no) [v3, .int .i64 1] fun v5=>pr (.bin .leq .no) [v4,v5] fun v6=>vif v6 (some (.tup [.str [], .bool false])) (pr (.sls false true) [v1,v3] fun v7=>pr (.bin .neq .no) [v7,v0] fun v8=>vif v8 (some (.tup [.str [], .bool false])) (pr .idx [v1,v3] fun v9=>pr (.bin .neq .no) [v9, .int .u8 47] fun v10=>vif v10 (some (.tup [.str [], .bool false])) (pr (.bin .add .no) [v3, .int .i64 1] fun v11=>pr (.sls true false) [v1,v11] fun v12=>some (.tup [v12, .bool true])))))
theorem s.zq56 (e:Ev)(Γ:Gam)(v0 v1:V):stp e Γ 30 0 [v0,v1]=y.zq56 Γ v0 v1:=by kernel_rfl
theorem w.zq56 (e:Ev)(v0 v1:V):vl e 30 0 [v0,v1]=y.zq56 (vl e) v0 v1:=Zab (s.zq56 e _ v0 v1)
noncomputable def y.zq23 (Γ:Gam)(v0 v1:V):Option V:=
 pr (.bin .eql .no) [v0, .str []] fun v2=>vif v2 (pr (.bin .neq .no) [v1, .str []] fun v3=>some (.tup [v1,v3])) (pr (.bin .add .no) [v0, .str [47]] fun v3=>ca Γ 60 [v1,v3] fun v4=>pr (.ext 0) [v4] fun v5=>pr (.ext 1) [v4] fun v6=>vif v6 (pr (.bin .neq .no) [v5, .str []] fun v7=>some (.tup [v5,v7])) (some (.tup [v5, .bool false])))
theorem s.zq23 (e:Ev)(Γ:Gam)(v0 v1:V):stp e Γ 38 0 [v0,v1]=y.zq23 Γ v0 v1:=by kernel_rfl
theorem w.zq23 (e:Ev)(v0 v1:V):vl e 38 0 [v0,v1]=y.zq23 (vl e) v0 v1:=Zab (s.zq23 e _ v0 v1)
noncomputable def y.zq14 (Γ:Gam)(v0:V):Option V:=
 pr (.bsl 1) [v0] fun v1=>ca Γ 46 [.str [116,114,101,101],v1] fun v2=>pr (.cat [some 32]) [v2] fun v3=>some v3
theorem s.zq14 (e:Ev)(Γ:Gam)(v0:V):stp e Γ 42 0 [v0]=y.zq14 Γ v0:=by kernel_rfl
theorem w.zq14 (e:Ev)(v0:V):vl e 42 0 [v0]=y.zq14 (vl e) v0:=Zab (s.zq14 e _ v0)
noncomputable def y.zq64 (Γ:Gam)(v0 v1:V):Option V:=
 pr (.bsl 1) [v0] fun v2=>pr (.app 1) [v2,v1] fun v3=>ca Γ 64 [v3] fun v4=>ca Γ 70 [v4] fun v5=>pr (.cat [some 32]) [v5] fun v6=>some v6
theorem s.zq64 (e:Ev)(Γ:Gam)(v0 v1:V):stp e Γ 46 0 [v0,v1]=y.zq64 Γ v0 v1:=by kernel_rfl
theorem w.zq64 (e:Ev)(v0 v1:V):vl e 46 0 [v0,v1]=y.zq64 (vl e) v0 v1:=Zab (s.zq64 e _ v0 v1)
noncomputable def y.zq54 (Γ:Gam)(v0:V):Option V:=
 Γ 50 12 [v0, .sl false 1 [], .int .i64 0, .int .i64 0]
theorem s.zq54 (e:Ev)(Γ:Gam)(v0:V):stp e Γ 50 0 [v0]=y.zq54 Γ v0:=by kernel_rfl
theorem w.zq54 (e:Ev)(v0:V):vl e 50 0 [v0]=y.zq54 (vl e) v0:=Zab (s.zq54 e _ v0)
noncomputable def y.zq54_12 (Γ:Gam)(v0 v1 v2 v3:V):Option V:=
 pr (.len true) [v0] fun v4=>pr (.bin .leq .no) [v3,v4] fun v5=>vif v5 (pr (.len true) [v0] fun v6=>pr (.bin .eql .no) [v3,v6] fun v7=>vif v7 (pr (.sls true true) [v0,v2,v3] fun v8=>pr (.bsl 1) [v8] fun v9=>pr (.app 1) [v1,v9] fun v10=>pr (.bin .add .no) [v3, .int .i64 1] fun v11=>pr (.bin .add .no) [v3, .int .i64 1] fun v12=>Γ 50 12 [v0,v10,v11,v12]) (pr .idx [v0,v3] fun v8=>pr (.bin .eql .no) [v8, .int .u8 47] fun v9=>vif v9 (pr (.sls true true) [v0,v2,v3] fun v10=>pr (.bsl 1) [v10] fun v11=>pr (.app 1) [v1,v11] fun v12=>pr (.bin .add .no) [v3, .int .i64 1] fun v13=>pr (.bin .add .no) [v3, .int .i64 1] fun v14=>Γ 50 12 [v0,v12,v13,v14]) (pr (.bin .add .no) [v3, .int .i64 1] fun v10=>Γ 50 12 [v0,v1,v2,v10]))) (some v1)
theorem s.zq54_12 (e:Ev)(Γ:Gam)(v0 v1 v2 v3:V):stp e Γ 50 12 [v0,v1,v2,v3]=y.zq54_12 Γ v0 v1 v2 v3:=by kernel_rfl
theorem w.zq54_12 (e:Ev)(v0 v1 v2 v3:V):vl e 50 12 [v0,v1,v2,v3]=y.zq54_12 (vl e) v0 v1 v2 v3:=Zab (s.zq54_12 e _ v0 v1 v2 v3)
noncomputable def y.zq68 (Γ:Gam)(v0 v1:V):Option V:=
 pr (.len false) [v0] fun v2=>Γ 54 8 [v0,v1,v0,v2, .int .i64 0]
theorem s.zq68 (e:Ev)(Γ:Gam)(v0 v1:V):stp e Γ 54 0 [v0,v1]=y.zq68 Γ v0 v1:=by kernel_rfl
theorem w.zq68 (e:Ev)(v0 v1:V):vl e 54 0 [v0,v1]=y.zq68 (vl e) v0 v1:=Zab (s.zq68 e _ v0 v1)
noncomputable def y.zq68_8 (Γ:Gam)(v0 v1 v2 v3 v4:V):Option V:=
 pr (.bin .lss .no) [v4,v3] fun v5=>vif v5 (pr (.elem 1) [v2,v4] fun v6=>pr (.ld none 0) [v6] fun v7=>pr (.len false) [v1] fun v8=>pr (.bin .geq .no) [v4,v8] fun v9=>vif v9 (some (.int .i64 1)) (pr (.elem 1) [v1,v4] fun v10=>pr (.ld none 0) [v10] fun v11=>ca Γ 73 [v7,v11] fun v12=>pr (.bin .neq .no) [v12, .int .i64 0] fun v13=>vif v13 (some v12) (pr (.bin .add .no) [v4, .int .i64 1] fun v14=>Γ 54 8 [v0,v1,v2,v3,v14]))) (pr (.len false) [v0] fun v6=>pr (.len false) [v1] fun v7=>pr (.bin .lss .no) [v6,v7] fun v8=>vif v8 (some (.int .i64 (-1))) (some (.int .i64 0)))
theorem s.zq68_8 (e:Ev)(Γ:Gam)(v0 v1 v2 v3 v4:V):stp e Γ 54 8 [v0,v1,v2,v3,v4]=y.zq68_8 Γ v0 v1 v2 v3 v4:=by kernel_rfl
theorem w.zq68_8 (e:Ev)(v0 v1 v2 v3 v4:V):vl e 54 8 [v0,v1,v2,v3,v4]=y.zq68_8 (vl e) v0 v1 v2 v3 v4:=Zab (s.zq68_8 e _ v0 v1 v2 v3 v4)
noncomputable def y.zq19 (Γ:Gam)(v0:V):Option V:=
 ca Γ 59 [v0] fun v1=>pr (.un .not) [v1] fun v2=>some v2
theorem s.zq19 (e:Ev)(Γ:Gam)(v0:V):stp e Γ 58 0 [v0]=y.zq19 Γ v0:=by kernel_rfl
theorem w.zq19 (e:Ev)(v0:V):vl e 58 0 [v0]=y.zq19 (vl e) v0:=Zab (s.zq19 e _ v0)
noncomputable def y.zq46 (Γ:Gam)(v0:V):Option V:=
 pr (.cat [none,none,none,none,none,none,none,none]) [.int .u32 1779033703, .int .u32 3144134277, .int .u32 1013904242, .int .u32 2773480762, .int .u32 1359893119, .int .u32 2600822924, .int .u32 528734635, .int .u32 1541459225] fun v1=>ca Γ 82 [v0] fun v2=>ca Γ 83 [] fun v3=>pr (.cat [some 64]) [v3] fun v4=>Γ 62 14 [v2, .int .i64 0,(.agg (repl 32 (.int .u8 0))),v1,v4]
theorem s.zq46 (e:Ev)(Γ:Gam)(v0:V):stp e Γ 62 0 [v0]=y.zq46 Γ v0:=by kernel_rfl
theorem w.zq46 (e:Ev)(v0:V):vl e 62 0 [v0]=y.zq46 (vl e) v0:=Zab (s.zq46 e _ v0)
noncomputable def y.zq46_14 (Γ:Gam)(v0 v1 v2 v3 v4:V):Option V:=
 pr (.len false) [v0] fun v5=>pr (.bin .lss .no) [v1,v5] fun v6=>vif v6 (pr (.bin .add .no) [v1, .int .i64 64] fun v7=>pr (.slc 1 true true false) [v0,v1,v7] fun v8=>ca Γ 84 [v3,v8,v4] fun v9=>pr (.cat [some 8]) [v9] fun v10=>pr (.bin .add .no) [v1, .int .i64 64] fun v11=>Γ 62 14 [v0,v11,v2,v10,v4]) (Γ 62 31 [v3, .int .i64 0,v2,(.agg (repl 32 (.int .u8 0)))])
theorem s.zq46_14 (e:Ev)(Γ:Gam)(v0 v1 v2 v3 v4:V):stp e Γ 62 14 [v0,v1,v2,v3,v4]=y.zq46_14 Γ v0 v1 v2 v3 v4:=by kernel_rfl
theorem w.zq46_14 (e:Ev)(v0 v1 v2 v3 v4:V):vl e 62 14 [v0,v1,v2,v3,v4]=y.zq46_14 (vl e) v0 v1 v2 v3 v4:=Zab (s.zq46_14 e _ v0 v1 v2 v3 v4)
noncomputable def y.zq46_31 (Γ:Gam)(v0 v1 v2 v3:V):Option V:=
 pr (.bin .lss .no) [v1, .int .i64 8] fun v4=>vif v4 (pr (.idxa 8 1 none) [v0,v1] fun v5=>Γ 62 45 [v1,v5, .int .i64 0,v0,v1,v2,v3]) (pr (.cat [some 32]) [v3] fun v5=>some v5)
theorem s.zq46_31 (e:Ev)(Γ:Gam)(v0 v1 v2 v3:V):stp e Γ 62 31 [v0,v1,v2,v3]=y.zq46_31 Γ v0 v1 v2 v3:=by kernel_rfl
theorem w.zq46_31 (e:Ev)(v0 v1 v2 v3:V):vl e 62 31 [v0,v1,v2,v3]=y.zq46_31 (vl e) v0 v1 v2 v3:=Zab (s.zq46_31 e _ v0 v1 v2 v3)
noncomputable def y.zq46_45 (Γ:Gam)(v0 v1 v2 v3 v4 v5 v6:V):Option V:=
 pr (.bin .lss .no) [v2, .int .i64 4] fun v7=>vif v7 (pr (.bin .mul .no) [.int .i64 4,v0] fun v8=>pr (.bin .add .no) [v8,v2] fun v9=>pr (.bin .mul .no) [.int .i64 8,v2] fun v10=>pr (.bin .sub .no) [.int .i64 24,v10] fun v11=>pr (.i2i .u64) [v11] fun v12=>pr (.bin .shr .no) [v1,v12] fun v13=>pr (.i2i .u8) [v13] fun v14=>pr (.chk 32) [v9] fun v15=>pr (.std 1 0 1) [v6,v15,v14] fun v16=>pr (.bin .add .no) [v2, .int .i64 1] fun v17=>Γ 62 45 [v0,v1,v17,v3,v4,v5,v16]) (pr (.bin .add .no) [v4, .int .i64 1] fun v8=>Γ 62 31 [v3,v8,v5,v6])
theorem s.zq46_45 (e:Ev)(Γ:Gam)(v0 v1 v2 v3 v4 v5 v6:V):stp e Γ 62 45 [v0,v1,v2,v3,v4,v5,v6]=y.zq46_45 Γ v0 v1 v2 v3 v4 v5 v6:=by kernel_rfl
theorem w.zq46_45 (e:Ev)(v0 v1 v2 v3 v4 v5 v6:V):vl e 62 45 [v0,v1,v2,v3,v4,v5,v6]=y.zq46_45 (vl e) v0 v1 v2 v3 v4 v5 v6:=Zab (s.zq46_45 e _ v0 v1 v2 v3 v4 v5 v6)
noncomputable def y.zq63 (Γ:Gam)(v0:V):Option V:=
 pr (.cat [none,none,none,none,none,none,none,none]) [.int .u32 1779033703, .int .u32 3144134277, .int .u32 1013904242, .int .u32 2773480762, .int .u32 1359893119, .int .u32 2600822924, .int .u32 528734635, .int .u32 1541459225] fun v1=>Γ 70 12 [v0,v0,(.agg (repl 32 (.int .u8 0))),v1,(.agg (repl 64 (.int .u8 0)))]
theorem s.zq63 (e:Ev)(Γ:Gam)(v0:V):stp e Γ 70 0 [v0]=y.zq63 Γ v0:=by kernel_rfl
theorem w.zq63 (e:Ev)(v0:V):vl e 70 0 [v0]=y.zq63 (vl e) v0:=Zab (s.zq63 e _ v0)
noncomputable def y.zq63_12 (Γ:Gam)(v0 v1 v2 v3 v4:V):Option V:=
 pr (.len true) [v1] fun v5=>pr (.bin .geq .no) [v5, .int .i64 64] fun v6=>vif v6 (pr (.cpya 0 64) [v4,v1] fun v7=>pr (.cpyn 64) [v1] fun v8=>ch Γ 11456 [v3,v7] fun v9=>pr (.ext 0) [v9] fun v10=>pr (.ext 1) [v9] fun v11=>pr (.sls true false) [v1, .int .i64 64] fun v12=>Γ 70 12 [v0,v12,v2,v10,v11]) (pr (.clra (.int .u8 0) 0 64) [v4] fun v7=>pr (.cpya 0 64) [v7,v1] fun v8=>pr (.cpyn 64) [v1] fun v9=>pr (.len true) [v1] fun v10=>pr (.chk 64) [v10] fun v11=>pr (.std 1 0 1) [v8,v11, .int .u8 128] fun v12=>pr (.len true) [v1] fun v13=>pr (.bin .geq .no) [v13, .int .i64 56] fun v14=>vif v14 (ch Γ 11456 [v3,v12] fun v15=>pr (.ext 0) [v15] fun v16=>pr (.ext 1) [v15] fun v17=>pr (.clra (.int .u8 0) 0 64) [v17] fun v18=>Γ 70 39 [v0,v2,v16,v18]) (Γ 70 39 [v0,v2,v3,v12]))
theorem s.zq63_12 (e:Ev)(Γ:Gam)(v0 v1 v2 v3 v4:V):stp e Γ 70 12 [v0,v1,v2,v3,v4]=y.zq63_12 Γ v0 v1 v2 v3 v4:=by kernel_rfl
theorem w.zq63_12 (e:Ev)(v0 v1 v2 v3 v4:V):vl e 70 12 [v0,v1,v2,v3,v4]=y.zq63_12 (vl e) v0 v1 v2 v3 v4:=Zab (s.zq63_12 e _ v0 v1 v2 v3 v4)
noncomputable def y.zq63_39 (Γ:Gam)(v0 v1 v2 v3:V):Option V:=
 Γ 70 43 [v0, .int .i64 0,v1,v2,v3]
theorem s.zq63_39 (e:Ev)(Γ:Gam)(v0 v1 v2 v3:V):stp e Γ 70 39 [v0,v1,v2,v3]=y.zq63_39 Γ v0 v1 v2 v3:=by kernel_rfl
theorem w.zq63_39 (e:Ev)(v0 v1 v2 v3:V):vl e 70 39 [v0,v1,v2,v3]=y.zq63_39 (vl e) v0 v1 v2 v3:=Zab (s.zq63_39 e _ v0 v1 v2 v3)
noncomputable def y.zq63_43 (Γ:Gam)(v0 v1 v2 v3 v4:V):Option V:=
 pr (.bin .lss .no) [v1, .int .i64 8] fun v5=>vif v5 (pr (.bin .add .no) [.int .i64 56,v1] fun v6=>pr (.len true) [v0] fun v7=>pr (.i2i .u64) [v7] fun v8=>pr (.bin .shl .no) [v8, .int .u64 3] fun v9=>pr (.bin .mul .no) [.int .i64 8,v1] fun v10=>pr (.bin .sub .no) [.int .i64 56,v10] fun v11=>pr (.bin .shr .no) [v9,v11] fun v12=>pr (.i2i .u8) [v12] fun v13=>pr (.chk 64) [v6] fun v14=>pr (.std 1 0 1) [v4,v14,v13] fun v15=>pr (.bin .add .no) [v1, .int .i64 1] fun v16=>Γ 70 43 [v0,v16,v2,v3,v15]) (ch Γ 11456 [v3,v4] fun v6=>pr (.ext 0) [v6] fun v7=>pr (.ext 1) [v6] fun v8=>Γ 70 64 [.int .i64 0,v2,v7,(.agg (repl 32 (.int .u8 0)))])
theorem s.zq63_43 (e:Ev)(Γ:Gam)(v0 v1 v2 v3 v4:V):stp e Γ 70 43 [v0,v1,v2,v3,v4]=y.zq63_43 Γ v0 v1 v2 v3 v4:=by kernel_rfl
theorem w.zq63_43 (e:Ev)(v0 v1 v2 v3 v4:V):vl e 70 43 [v0,v1,v2,v3,v4]=y.zq63_43 (vl e) v0 v1 v2 v3 v4:=Zab (s.zq63_43 e _ v0 v1 v2 v3 v4)
noncomputable def y.zq63_64 (Γ:Gam)(v0 v1 v2 v3:V):Option V:=
 pr (.bin .lss .no) [v0, .int .i64 32] fun v4=>vif v4 (pr (.bin .quo .no) [v0, .int .i64 4] fun v5=>pr (.chk 8) [v5] fun v6=>pr (.ldd none 0 1) [v2,v6] fun v7=>pr (.bin .rem .no) [v0, .int .i64 4] fun v8=>pr (.bin .mul .no) [.int .i64 8,v8] fun v9=>pr (.bin .sub .no) [.int .i64 24,v9] fun v10=>pr (.bin .shr .no) [v7,v10] fun v11=>pr (.i2i .u8) [v11] fun v12=>pr (.chk 32) [v0] fun v13=>pr (.std 1 0 1) [v3,v13,v12] fun v14=>pr (.bin .add .no) [v0, .int .i64 1] fun v15=>Γ 70 64 [v15,v1,v2,v14]) (pr (.cat [some 32]) [v3] fun v5=>some v5)
theorem s.zq63_64 (e:Ev)(Γ:Gam)(v0 v1 v2 v3:V):stp e Γ 70 64 [v0,v1,v2,v3]=y.zq63_64 Γ v0 v1 v2 v3:=by kernel_rfl
theorem w.zq63_64 (e:Ev)(v0 v1 v2 v3:V):vl e 70 64 [v0,v1,v2,v3]=y.zq63_64 (vl e) v0 v1 v2 v3:=Zab (s.zq63_64 e _ v0 v1 v2 v3)
noncomputable def y.zq47 (Γ:Gam)(v0:V):Option V:=
 pr (.bsl 1) [] fun v1=>pr (.app 1) [v1,v0] fun v2=>pr (.bsl 1) [.int .u8 128] fun v3=>pr (.app 1) [v2,v3] fun v4=>Γ 82 8 [v0,v4]
theorem s.zq47 (e:Ev)(Γ:Gam)(v0:V):stp e Γ 82 0 [v0]=y.zq47 Γ v0:=by kernel_rfl
theorem w.zq47 (e:Ev)(v0:V):vl e 82 0 [v0]=y.zq47 (vl e) v0:=Zab (s.zq47 e _ v0)
noncomputable def y.zq47_8 (Γ:Gam)(v0 v1:V):Option V:=
 pr (.len false) [v1] fun v2=>pr (.bin .rem .no) [v2, .int .i64 64] fun v3=>pr (.bin .neq .no) [v3, .int .i64 56] fun v4=>vif v4 (pr (.bsl 1) [.int .u8 0] fun v5=>pr (.app 1) [v1,v5] fun v6=>Γ 82 8 [v0,v6]) (pr (.len false) [v0] fun v5=>Γ 82 25 [v1,v5, .sl false 1 [], .int .i64 0])
theorem s.zq47_8 (e:Ev)(Γ:Gam)(v0 v1:V):stp e Γ 82 8 [v0,v1]=y.zq47_8 Γ v0 v1:=by kernel_rfl
theorem w.zq47_8 (e:Ev)(v0 v1:V):vl e 82 8 [v0,v1]=y.zq47_8 (vl e) v0 v1:=Zab (s.zq47_8 e _ v0 v1)
noncomputable def y.zq47_25 (Γ:Gam)(v0 v1 v2 v3:V):Option V:=
 pr (.bin .lss .no) [v3, .int .i64 8] fun v4=>vif v4 (pr (.bin .eql .no) [v3, .int .i64 0] fun v5=>vif v5 (pr (.bin .rem .no) [v1, .int .i64 32] fun v6=>pr (.bin .mul .no) [v6, .int .i64 8] fun v7=>pr (.i2i .u8) [v7] fun v8=>pr (.bsl 1) [v8] fun v9=>pr (.app 1) [v9,v2] fun v10=>pr (.bin .quo .no) [v1, .int .i64 32] fun v11=>pr (.bin .add .no) [v3, .int .i64 1] fun v12=>Γ 82 25 [v0,v11,v10,v12]) (pr (.bin .rem .no) [v1, .int .i64 256] fun v6=>pr (.i2i .u8) [v6] fun v7=>pr (.bsl 1) [v7] fun v8=>pr (.app 1) [v8,v2] fun v9=>pr (.bin .quo .no) [v1, .int .i64 256] fun v10=>pr (.bin .add .no) [v3, .int .i64 1] fun v11=>Γ 82 25 [v0,v10,v9,v11])) (pr (.app 1) [v0,v2] fun v5=>some v5)
theorem s.zq47_25 (e:Ev)(Γ:Gam)(v0 v1 v2 v3:V):stp e Γ 82 25 [v0,v1,v2,v3]=y.zq47_25 Γ v0 v1 v2 v3:=by kernel_rfl
theorem w.zq47_25 (e:Ev)(v0 v1 v2 v3:V):vl e 82 25 [v0,v1,v2,v3]=y.zq47_25 (vl e) v0 v1 v2 v3:=Zab (s.zq47_25 e _ v0 v1 v2 v3)
noncomputable def y.zq3 (Γ:Gam)(v0:V):Option V:=
 Γ 86 10 [v0, .int .i64 0, .agg [.int .u8 0, .int .u8 0, .int .u8 0, .int .u8 0, .int .u8 0, .int .u8 0, .int .u8 0, .int .u8 0]]
theorem s.zq3 (e:Ev)(Γ:Gam)(v0:V):stp e Γ 86 0 [v0]=y.zq3 Γ v0:=by kernel_rfl
theorem w.zq3 (e:Ev)(v0:V):vl e 86 0 [v0]=y.zq3 (vl e) v0:=Zab (s.zq3 e _ v0)
noncomputable def y.zq3_10 (Γ:Gam)(v0 v1 v2:V):Option V:=
 pr (.bin .lss .no) [v1, .int .i64 8] fun v3=>vif v3 (pr (.i2i .u64) [v0] fun v4=>pr (.bin .mul .no) [.int .i64 8,v1] fun v5=>pr (.bin .sub .no) [.int .i64 56,v5] fun v6=>pr (.bin .shr .no) [v4,v6] fun v7=>pr (.i2i .u8) [v7] fun v8=>pr (.chk 8) [v1] fun v9=>pr (.std 1 0 1) [v2,v9,v8] fun v10=>pr (.bin .add .no) [v1, .int .i64 1] fun v11=>Γ 86 10 [v0,v11,v10]) (pr (.b2so 0 8) [v2] fun v4=>some v4)
theorem s.zq3_10 (e:Ev)(Γ:Gam)(v0 v1 v2:V):stp e Γ 86 10 [v0,v1,v2]=y.zq3_10 Γ v0 v1 v2:=by kernel_rfl
theorem w.zq3_10 (e:Ev)(v0 v1 v2:V):vl e 86 10 [v0,v1,v2]=y.zq3_10 (vl e) v0 v1 v2:=Zab (s.zq3_10 e _ v0 v1 v2)
noncomputable def y.zq48 (Γ:Gam)(v0 v1 v2 v3:V):Option V:=
 ca Γ 101 [v0,v1] fun v4=>ca Γ 101 [v0,v2] fun v5=>pr (.bin .xor .no) [v4,v5] fun v6=>ca Γ 101 [v0,v3] fun v7=>pr (.bin .xor .no) [v6,v7] fun v8=>some v8
theorem s.zq48 (e:Ev)(Γ:Gam)(v0 v1 v2 v3:V):stp e Γ 102 0 [v0,v1,v2,v3]=y.zq48 Γ v0 v1 v2 v3:=by kernel_rfl
theorem w.zq48 (e:Ev)(v0 v1 v2 v3:V):vl e 102 0 [v0,v1,v2,v3]=y.zq48 (vl e) v0 v1 v2 v3:=Zab (s.zq48 e _ v0 v1 v2 v3)
noncomputable def y.zq41 (Γ:Gam):Option V:=
 ch Γ 10192 [] fun v0=>pr (.ext 0) [v0] fun v1=>pr (.ext 1) [v0] fun v2=>pr (.ext 2) [v0] fun v3=>ch Γ 10208 [.sl false 2 [],v1,v2,v3] fun v4=>pr (.ext 0) [v4] fun v5=>pr (.ext 1) [v4] fun v6=>pr (.ext 2) [v4] fun v7=>pr (.ext 3) [v4] fun v8=>pr (.ext 4) [v4] fun v9=>pr (.cat [some 32]) [v5] fun v10=>ch Γ 10256 [.sl false 34 [],v7,v8,v9] fun v11=>pr (.ext 0) [v11] fun v12=>pr (.ext 1) [v11] fun v13=>pr (.ext 2) [v11] fun v14=>pr (.ext 3) [v11] fun v15=>pr (.ext 4) [v11] fun v16=>pr (.cat [some 32]) [v12] fun v17=>ch Γ 10288 [v10,v14,v15,v16] fun v18=>pr (.ext 0) [v18] fun v19=>pr (.ext 1) [v18] fun v20=>pr (.ext 2) [v18] fun v21=>pr (.ext 3) [v18] fun v22=>pr (.ext 4) [v18] fun v23=>pr (.bin .eql .no) [v6, .int .i64 0] fun v24=>vif v24 (pr (.bin .eql .no) [v13, .int .i64 0] fun v25=>vif v25 (pr (.bin .eql .no) [v20, .int .i64 0] fun v26=>vif v26 (pr (.bin .eql (.flat [(some .u8,true),(some .u8,true),(some .u8,true),(some .u8,true),(some .u8,true),(some .u8,true),(some .u8,true),(some .u8,true),(some .u8,true),(some .u8,true),(some .u8,true),(some .u8,true),(some .u8,true),(some .u8,true),(some .u8,true),(some .u8,true),(some .u8,true),(some .u8,true),(some .u8,true),(some .u8,true),(some .u8,true),(some .u8,true),(some .u8,true),(some .u8,true),(some .u8,true),(some .u8,true),(some .u8,true),(some .u8,true),(some .u8,true),(some .u8,true),(some .u8,true),(some .u8,true)])) [v10,v17] fun v27=>vif v27 (pr (.len false) [v19] fun v28=>pr (.bin .eql .no) [v28, .int .i64 0] fun v29=>vif v29 (ch Γ 10448 [v21,v22,v23] fun v30=>pr (.ext 0) [v30] fun v31=>pr (.ext 1) [v30] fun v32=>pr (.ext 2) [v30] fun v33=>pr (.ext 3) [v30] fun v34=>pr (.bin .eql .no) [v31, .int .i64 1] fun v35=>some v35) (some (.bool false))) (some (.bool false))) (some (.bool false))) (some (.bool false))) (some (.bool false))
theorem s.zq41 (e:Ev)(Γ:Gam):stp e Γ 7 0 []=y.zq41 Γ:=by kernel_rfl
theorem w.zq41 (e:Ev):vl e 7 0 []=y.zq41 (vl e):=Zab (s.zq41 e _)
noncomputable def y.zq61 (Γ:Gam)(v0:V):Option V:=
 pr (.len false) [v0] fun v1=>Γ 11 10 [.sl false 2 [],v0,v1, .int .i64 0]
theorem s.zq61 (e:Ev)(Γ:Gam)(v0:V):stp e Γ 11 0 [v0]=y.zq61 Γ v0:=by kernel_rfl
theorem w.zq61 (e:Ev)(v0:V):vl e 11 0 [v0]=y.zq61 (vl e) v0:=Zab (s.zq61 e _ v0)
noncomputable def y.zq61_10 (Γ:Gam)(v0 v1 v2 v3:V):Option V:=
 pr (.bin .lss .no) [v3,v2] fun v4=>vif v4 (pr (.elem 2) [v1,v3] fun v5=>pr (.ld (some 2) 0) [v5] fun v6=>pr (.cat [some 2]) [v6] fun v7=>pr (.len false) [v0] fun v8=>Γ 11 25 [v0,v8,v1,v2,v3,v7]) (some v0)
theorem s.zq61_10 (e:Ev)(Γ:Gam)(v0 v1 v2 v3:V):stp e Γ 11 10 [v0,v1,v2,v3]=y.zq61_10 Γ v0 v1 v2 v3:=by kernel_rfl
theorem w.zq61_10 (e:Ev)(v0 v1 v2 v3:V):vl e 11 10 [v0,v1,v2,v3]=y.zq61_10 (vl e) v0 v1 v2 v3:=Zab (s.zq61_10 e _ v0 v1 v2 v3)
noncomputable def y.zq61_25 (Γ:Gam)(v0 v1 v2 v3 v4 v5:V):Option V:=
 pr (.bin .gtr .no) [v1, .int .i64 0] fun v6=>vif v6 (pr (.bin .sub .no) [v1, .int .i64 1] fun v7=>pr (.elem 2) [v0,v7] fun v8=>pr (.ld none 0) [v8] fun v9=>pr (.ld none 0) [v5] fun v10=>ca Γ 32 [v9,v10] fun v11=>pr (.bin .gtr .no) [v11, .int .i64 0] fun v12=>vif v12 (pr (.bin .sub .no) [v1, .int .i64 1] fun v13=>Γ 11 25 [v0,v13,v2,v3,v4,v5]) (pr (.bsl 2) [] fun v13=>pr (.slc 2 false true false) [v0,v1] fun v14=>pr (.app 2) [v13,v14] fun v15=>pr (.bsl 2) [v5] fun v16=>pr (.app 2) [v15,v16] fun v17=>pr (.slc 2 true false false) [v0,v1] fun v18=>pr (.app 2) [v17,v18] fun v19=>pr (.bin .add .no) [v4, .int .i64 1] fun v20=>Γ 11 10 [v19,v2,v3,v20])) (pr (.bsl 2) [] fun v7=>pr (.slc 2 false true false) [v0,v1] fun v8=>pr (.app 2) [v7,v8] fun v9=>pr (.bsl 2) [v5] fun v10=>pr (.app 2) [v9,v10] fun v11=>pr (.slc 2 true false false) [v0,v1] fun v12=>pr (.app 2) [v11,v12] fun v13=>pr (.bin .add .no) [v4, .int .i64 1] fun v14=>Γ 11 10 [v13,v2,v3,v14])
theorem s.zq61_25 (e:Ev)(Γ:Gam)(v0 v1 v2 v3 v4 v5:V):stp e Γ 11 25 [v0,v1,v2,v3,v4,v5]=y.zq61_25 Γ v0 v1 v2 v3 v4 v5:=by kernel_rfl
theorem w.zq61_25 (e:Ev)(v0 v1 v2 v3 v4 v5:V):vl e 11 25 [v0,v1,v2,v3,v4,v5]=y.zq61_25 (vl e) v0 v1 v2 v3 v4 v5:=Zab (s.zq61_25 e _ v0 v1 v2 v3 v4 v5)
noncomputable def y.zq32 (Γ:Gam)(v0 v1:V):Option V:=
 pr .scs [v0] fun v2=>pr .scs [v1] fun v3=>pr (.ld none 0) [v2] fun v4=>pr (.ld none 0) [v3] fun v5=>ca Γ 36 [v4,v5] fun v6=>some v6
theorem s.zq32 (e:Ev)(Γ:Gam)(v0 v1:V):stp e Γ 35 0 [v0,v1]=y.zq32 Γ v0 v1:=by kernel_rfl
theorem w.zq32 (e:Ev)(v0 v1:V):vl e 35 0 [v0,v1]=y.zq32 (vl e) v0 v1:=Zab (s.zq32 e _ v0 v1)
noncomputable def y.zq42 (Γ:Gam)(v0:V):Option V:=
 pr (.len false) [v0] fun v1=>ca Γ 65 [v1] fun v2=>pr (.len false) [v0] fun v3=>Γ 43 10 [v2,v0,v3, .int .i64 0]
theorem s.zq42 (e:Ev)(Γ:Gam)(v0:V):stp e Γ 43 0 [v0]=y.zq42 Γ v0:=by kernel_rfl
theorem w.zq42 (e:Ev)(v0:V):vl e 43 0 [v0]=y.zq42 (vl e) v0:=Zab (s.zq42 e _ v0)
end Go.Proofs.YtpmgdngjbdkdfaaGreatDoor
namespace Go.Proofs.YtpmgdngjbdkdfaaGreatDoor
open Go.Abs
noncomputable def y.zq42_10 (Γ:Gam)(v0 v1 v2 v3:V):Option V:=
 pr (.bin .lss .no) [v3,v2] fun v4=>vif v4 (pr (.elem 1) [v1,v3] fun v5=>pr (.ld none 0) [v5] fun v6=>pr (.len true) [v6] fun v7=>ca Γ 65 [v7] fun v8=>pr (.bin .add .no) [v0,v8] fun v9=>pr (.bin .add .no) [v9,v6] fun v10=>pr (.bin .add .no) [v3, .int .i64 1] fun v11=>Γ 43 10 [v10,v1,v2,v11]) (some v0)
theorem s.zq42_10 (e:Ev)(Γ:Gam)(v0 v1 v2 v3:V):stp e Γ 43 10 [v0,v1,v2,v3]=y.zq42_10 Γ v0 v1 v2 v3:=by kernel_rfl
theorem w.zq42_10 (e:Ev)(v0 v1 v2 v3:V):vl e 43 10 [v0,v1,v2,v3]=y.zq42_10 (vl e) v0 v1 v2 v3:=Zab (s.zq42_10 e _ v0 v1 v2 v3)
noncomputable def y.zq53 (Γ:Gam)(v0:V):Option V:=
 Γ 51 8 [v0, .int .i64 0]
theorem s.zq53 (e:Ev)(Γ:Gam)(v0:V):stp e Γ 51 0 [v0]=y.zq53 Γ v0:=by kernel_rfl
theorem w.zq53 (e:Ev)(v0:V):vl e 51 0 [v0]=y.zq53 (vl e) v0:=Zab (s.zq53 e _ v0)
noncomputable def y.zq53_8 (Γ:Gam)(v0 v1:V):Option V:=
 pr (.len true) [v0] fun v2=>pr (.bin .lss .no) [v1,v2] fun v3=>vif v3 (pr .idx [v0,v1] fun v4=>pr (.bin .eql .no) [v4, .int .u8 0] fun v5=>vif v5 (some (.bool false)) (pr .idx [v0,v1] fun v6=>pr (.bin .eql .no) [v6, .int .u8 47] fun v7=>vif v7 (some (.bool false)) (pr (.bin .add .no) [v1, .int .i64 1] fun v8=>Γ 51 8 [v0,v8]))) (pr (.bin .neq .no) [v0, .str []] fun v4=>vif v4 (pr (.bin .neq .no) [v0, .str [46]] fun v5=>vif v5 (pr (.bin .neq .no) [v0, .str [46,46]] fun v6=>some v6) (some (.bool false))) (some (.bool false)))
theorem s.zq53_8 (e:Ev)(Γ:Gam)(v0 v1:V):stp e Γ 51 8 [v0,v1]=y.zq53_8 Γ v0 v1:=by kernel_rfl
theorem w.zq53_8 (e:Ev)(v0 v1:V):vl e 51 8 [v0,v1]=y.zq53_8 (vl e) v0 v1:=Zab (s.zq53_8 e _ v0 v1)
noncomputable def y.zq22 (Γ:Gam)(v0:V):Option V:=
 pr (.bin .eql .no) [v0, .str []] fun v1=>vif v1 (some (.sl false 1 [])) (ca Γ 56 [v0, .str [47]] fun v2=>some v2)
theorem s.zq22 (e:Ev)(Γ:Gam)(v0:V):stp e Γ 55 0 [v0]=y.zq22 Γ v0:=by kernel_rfl
theorem w.zq22 (e:Ev)(v0:V):vl e 55 0 [v0]=y.zq22 (vl e) v0:=Zab (s.zq22 e _ v0)
noncomputable def y.zq24 (Γ:Gam)(v0:V):Option V:=
 pr (.bin .neq .no) [v0, .str []] fun v1=>vif v1 (pr (.bin .neq .no) [v0, .str [46]] fun v2=>vif v2 (pr (.bin .neq .no) [v0, .str [46,46]] fun v3=>vif v3 (ca Γ 76 [v0, .str [0]] fun v4=>pr (.un .not) [v4] fun v5=>vif v5 (ca Γ 76 [v0, .str [47]] fun v6=>pr (.un .not) [v6] fun v7=>some v7) (some (.bool false))) (some (.bool false))) (some (.bool false))) (some (.bool false))
theorem s.zq24 (e:Ev)(Γ:Gam)(v0:V):stp e Γ 59 0 [v0]=y.zq24 Γ v0:=by kernel_rfl
theorem w.zq24 (e:Ev)(v0:V):vl e 59 0 [v0]=y.zq24 (vl e) v0:=Zab (s.zq24 e _ v0)
noncomputable def y.zq12 (Γ:Gam)(v0:V):Option V:=
 pr (.len false) [v0] fun v1=>Γ 63 8 [v0,v0,v1, .int .i64 0]
theorem s.zq12 (e:Ev)(Γ:Gam)(v0:V):stp e Γ 63 0 [v0]=y.zq12 Γ v0:=by kernel_rfl
theorem w.zq12 (e:Ev)(v0:V):vl e 63 0 [v0]=y.zq12 (vl e) v0:=Zab (s.zq12 e _ v0)
noncomputable def y.zq12_8 (Γ:Gam)(v0 v1 v2 v3:V):Option V:=
 pr (.bin .lss .no) [v3,v2] fun v4=>vif v4 (pr (.elem 34) [v1,v3] fun v5=>pr (.ld (some 34) 0) [v5] fun v6=>pr (.cat [some 34]) [v6] fun v7=>pr (.ld none 0) [v7] fun v8=>ca Γ 37 [v8] fun v9=>pr (.un .not) [v9] fun v10=>vif v10 (some (.bool false)) (pr (.ld none 0) [v7] fun v11=>ca Γ 85 [v11] fun v12=>pr (.bin .neq .no) [v12, .str []] fun v13=>vif v13 (some (.bool false)) (pr (.bin .gtr .no) [v3, .int .i64 0] fun v14=>vif v14 (pr (.bin .sub .no) [v3, .int .i64 1] fun v15=>pr (.elem 34) [v0,v15] fun v16=>pr (.ld none 0) [v16] fun v17=>pr (.ld none 0) [v7] fun v18=>pr (.bin .geq .no) [v17,v18] fun v19=>vif v19 (some (.bool false)) (pr (.bin .add .no) [v3, .int .i64 1] fun v20=>Γ 63 8 [v0,v1,v2,v20])) (pr (.bin .add .no) [v3, .int .i64 1] fun v15=>Γ 63 8 [v0,v1,v2,v15])))) (pr (.len false) [v0] fun v5=>pr (.bin .leq .no) [v5, .int .i64 512] fun v6=>some v6)
theorem s.zq12_8 (e:Ev)(Γ:Gam)(v0 v1 v2 v3:V):stp e Γ 63 8 [v0,v1,v2,v3]=y.zq12_8 Γ v0 v1 v2 v3:=by kernel_rfl
theorem w.zq12_8 (e:Ev)(v0 v1 v2 v3:V):vl e 63 8 [v0,v1,v2,v3]=y.zq12_8 (vl e) v0 v1 v2 v3:=Zab (s.zq12_8 e _ v0 v1 v2 v3)
noncomputable def y.zq71 (Γ:Gam)(v0 v1:V):Option V:=
 pr (.len false) [v0] fun v2=>Γ 75 8 [v0,v1,v2, .int .i64 0]
theorem s.zq71 (e:Ev)(Γ:Gam)(v0 v1:V):stp e Γ 75 0 [v0,v1]=y.zq71 Γ v0 v1:=by kernel_rfl
theorem w.zq71 (e:Ev)(v0 v1:V):vl e 75 0 [v0,v1]=y.zq71 (vl e) v0 v1:=Zab (s.zq71 e _ v0 v1)
noncomputable def y.zq71_8 (Γ:Gam)(v0 v1 v2 v3:V):Option V:=
 pr (.bin .lss .no) [v3,v2] fun v4=>vif v4 (pr (.elem 1) [v0,v3] fun v5=>pr (.ld none 0) [v5] fun v6=>cv Γ v1 [v6] fun v7=>vif v7 (some v3) (pr (.bin .add .no) [v3, .int .i64 1] fun v8=>Γ 75 8 [v0,v1,v2,v8])) (some (.int .i64 (-1)))
theorem s.zq71_8 (e:Ev)(Γ:Gam)(v0 v1 v2 v3:V):stp e Γ 75 8 [v0,v1,v2,v3]=y.zq71_8 Γ v0 v1 v2 v3:=by kernel_rfl
theorem w.zq71_8 (e:Ev)(v0 v1 v2 v3:V):vl e 75 8 [v0,v1,v2,v3]=y.zq71_8 (vl e) v0 v1 v2 v3:=Zab (s.zq71_8 e _ v0 v1 v2 v3)
noncomputable def y.zq45 (Γ:Gam):Option V:=
 pr (.cat [none,none,none,none,none,none,none,none,none,none,none,none,none,none,none,none,none,none,none,none,none,none,none,none,none,none,none,none,none,none,none,none,none,none,none,none,none,none,none,none,none,none,none,none,none,none,none,none,none,none,none,none,none,none,none,none,none,none,none,none,none,none,none,none]) ((.int .u32 1116352408)::(.int .u32 1899447441)::(.int .u32 3049323471)::(.int .u32 3921009573)::(.int .u32 961987163)::(.int .u32 1508970993)::(.int .u32 2453635748)::(.int .u32 2870763221)::(.int .u32 3624381080)::(.int .u32 310598401)::(.int .u32 607225278)::(.int .u32 1426881987)::(.int .u32 1925078388)::(.int .u32 2162078206)::(.int .u32 2614888103)::(.int .u32 3248222580)::(.int .u32 3835390401)::(.int .u32 4022224774)::(.int .u32 264347078)::(.int .u32 604807628)::(.int .u32 770255983)::(.int .u32 1249150122)::(.int .u32 1555081692)::(.int .u32 1996064986)::(.int .u32 2554220882)::(.int .u32 2821834349)::(.int .u32 2952996808)::(.int .u32 3210313671)::(.int .u32 3336571891)::(.int .u32 3584528711)::(.int .u32 113926993)::(.int .u32 338241895)::(.int .u32 666307205)::(.int .u32 773529912)::(.int .u32 1294757372)::(.int .u32 1396182291)::(.int .u32 1695183700)::(.int .u32 1986661051)::(.int .u32 2177026350)::(.int .u32 2456956037)::(.int .u32 2730485921)::(.int .u32 2820302411)::(.int .u32 3259730800)::(.int .u32 3345764771)::(.int .u32 3516065817)::(.int .u32 3600352804)::(.int .u32 4094571909)::(.int .u32 275423344)::(.int .u32 430227734)::(.int .u32 506948616)::(.int .u32 659060556)::(.int .u32 883997877)::(.int .u32 958139571)::(.int .u32 1322822218)::(.int .u32 1537002063)::(.int .u32 1747873779)::(.int .u32 1955562222)::(.int .u32 2024104815)::(.int .u32 2227730452)::(.int .u32 2361852424)::(.int .u32 2428436474)::(.int .u32 2756734187)::(.int .u32 3204031479)::(.int .u32 3329325298):: []) fun v0=>some v0
theorem s.zq45 (e:Ev)(Γ:Gam):stp e Γ 83 0 []=y.zq45 Γ:=by kernel_rfl
theorem w.zq45 (e:Ev):vl e 83 0 []=y.zq45 (vl e):=Zab (s.zq45 e _)
noncomputable def y.zq11 (Γ:Gam)(v0:V):Option V:=
 ca Γ 104 [v0] fun v1=>pr (.ext 0) [v1] fun v2=>pr (.ext 1) [v1] fun v3=>pr (.bin .neq .no) [v3, .int .i64 0] fun v4=>vif v4 (Γ 87 9 [v2, .bool true]) (pr (.len false) [v2] fun v5=>pr (.bin .rem .no) [v5, .int .i64 3] fun v6=>pr (.bin .neq .no) [v6, .int .i64 0] fun v7=>Γ 87 9 [v2,v7])
theorem s.zq11 (e:Ev)(Γ:Gam)(v0:V):stp e Γ 87 0 [v0]=y.zq11 Γ v0:=by kernel_rfl
theorem w.zq11 (e:Ev)(v0:V):vl e 87 0 [v0]=y.zq11 (vl e) v0:=Zab (s.zq11 e _ v0)
noncomputable def y.zq11_9 (Γ:Gam)(v0 v1:V):Option V:=
 vif v1 (some (.tup [.sl false 34 [], .int .i64 4])) (Γ 87 18 [v0, .sl false 34 []])
theorem s.zq11_9 (e:Ev)(Γ:Gam)(v0 v1:V):stp e Γ 87 9 [v0,v1]=y.zq11_9 Γ v0 v1:=by kernel_rfl
theorem w.zq11_9 (e:Ev)(v0 v1:V):vl e 87 9 [v0,v1]=y.zq11_9 (vl e) v0 v1:=Zab (s.zq11_9 e _ v0 v1)
noncomputable def y.zq11_18 (Γ:Gam)(v0 v1:V):Option V:=
 pr (.len false) [v0] fun v2=>pr (.bin .gtr .no) [v2, .int .i64 0] fun v3=>vif v3 (pr (.elem 1) [v0, .int .i64 2] fun v4=>pr (.ld none 0) [v4] fun v5=>ca Γ 105 [v5] fun v6=>pr (.ext 0) [v6] fun v7=>pr (.ext 1) [v6] fun v8=>pr (.cat [some 32]) [v7] fun v9=>pr (.un .not) [v8] fun v10=>vif v10 (some (.tup [.sl false 34 [], .int .i64 4])) (pr (.elem 1) [v0, .int .i64 0] fun v11=>pr (.ld none 0) [v11] fun v12=>pr (.bin .neq .no) [v12, .str [98,108,111,98]] fun v13=>vif v13 (pr (.elem 1) [v0, .int .i64 0] fun v14=>pr (.ld none 0) [v14] fun v15=>pr (.bin .neq .no) [v15, .str [116,114,101,101]] fun v16=>vif v16 (some (.tup [.sl false 34 [], .int .i64 4])) (pr (.elem 1) [v0, .int .i64 1] fun v17=>pr (.ld none 0) [v17] fun v18=>pr (.elem 1) [v0, .int .i64 0] fun v19=>pr (.ld none 0) [v19] fun v20=>pr (.bin .eql .no) [v20, .str [116,114,101,101]] fun v21=>pr (.cat [none,none,some 32]) [v18,v21,v9] fun v22=>pr (.bsl 34) [v22] fun v23=>pr (.app 34) [v1,v23] fun v24=>pr (.slc 1 true false false) [v0, .int .i64 3] fun v25=>Γ 87 18 [v25,v24])) (pr (.elem 1) [v0, .int .i64 1] fun v14=>pr (.ld none 0) [v14] fun v15=>pr (.elem 1) [v0, .int .i64 0] fun v16=>pr (.ld none 0) [v16] fun v17=>pr (.bin .eql .no) [v17, .str [116,114,101,101]] fun v18=>pr (.cat [none,none,some 32]) [v15,v18,v9] fun v19=>pr (.bsl 34) [v19] fun v20=>pr (.app 34) [v1,v20] fun v21=>pr (.slc 1 true false false) [v0, .int .i64 3] fun v22=>Γ 87 18 [v22,v21]))) (ca Γ 63 [v1] fun v4=>pr (.un .not) [v4] fun v5=>vif v5 (some (.tup [.sl false 34 [], .int .i64 4])) (some (.tup [v1, .int .i64 0])))
theorem s.zq11_18 (e:Ev)(Γ:Gam)(v0 v1:V):stp e Γ 87 18 [v0,v1]=y.zq11_18 Γ v0 v1:=by kernel_rfl
theorem w.zq11_18 (e:Ev)(v0 v1:V):vl e 87 18 [v0,v1]=y.zq11_18 (vl e) v0 v1:=Zab (s.zq11_18 e _ v0 v1)
noncomputable def y.zq81 (Γ:Gam)(v0 v1:V):Option V:=
 ca Γ 116 [v0,v1] fun v2=>some v2
theorem s.zq81 (e:Ev)(Γ:Gam)(v0 v1:V):stp e Γ 103 0 [v0,v1]=y.zq81 Γ v0 v1:=by kernel_rfl
theorem w.zq81 (e:Ev)(v0 v1:V):vl e 103 0 [v0,v1]=y.zq81 (vl e) v0 v1:=Zab (s.zq81 e _ v0 v1)
noncomputable def y.zq65 (Γ:Gam)(v0:V):Option V:=
 pr (.elem 1) [v0, .int .i64 0] fun v1=>pr (.ld none 0) [v1] fun v2=>pr (.i2i .u32) [v2] fun v3=>pr (.bin .shl .no) [v3, .int .u64 24] fun v4=>pr (.elem 1) [v0, .int .i64 1] fun v5=>pr (.ld none 0) [v5] fun v6=>pr (.i2i .u32) [v6] fun v7=>pr (.bin .shl .no) [v7, .int .u64 16] fun v8=>pr (.bin .or .no) [v4,v8] fun v9=>pr (.elem 1) [v0, .int .i64 2] fun v10=>pr (.ld none 0) [v10] fun v11=>pr (.i2i .u32) [v11] fun v12=>pr (.bin .shl .no) [v12, .int .u64 8] fun v13=>pr (.bin .or .no) [v9,v13] fun v14=>pr (.elem 1) [v0, .int .i64 3] fun v15=>pr (.ld none 0) [v15] fun v16=>pr (.i2i .u32) [v16] fun v17=>pr (.bin .or .no) [v14,v17] fun v18=>some v18
theorem s.zq65 (e:Ev)(Γ:Gam)(v0:V):stp e Γ 107 0 [v0]=y.zq65 Γ v0:=by kernel_rfl
theorem w.zq65 (e:Ev)(v0:V):vl e 107 0 [v0]=y.zq65 (vl e) v0:=Zab (s.zq65 e _ v0)
noncomputable def y.zq83_h0 (Γ:Gam):Option V:=
 some (.tup [(.iface 0 (.tup [])),(.iface 0 (.tup [])),(.iface 0 (.tup []))])
theorem s.zq83_h0 (e:Ev)(Γ:Gam):stp e Γ 10192 1 []=y.zq83_h0 Γ:=by kernel_rfl
theorem w.zq83_h0 (e:Ev):vl e 10192 1 []=y.zq83_h0 (vl e):=Zab (s.zq83_h0 e _)
noncomputable def y.zq67_h0 (Γ:Gam)(v0:V):Option V:=
 vamb v0 (some (.tup [.int .i64 0, .agg []])) (pr (.rapp 1) [.agg [], .int .i64 0,v0] fun v3=>pr (.rlen 1) [.int .i64 0,v0] fun v4=>some (.tup [v4,v3]))
theorem s.zq67_h0 (e:Ev)(Γ:Gam)(v0:V):stp e Γ 11280 1 [v0]=y.zq67_h0 Γ v0:=by kernel_rfl
theorem w.zq67_h0 (e:Ev)(v0:V):vl e 11280 1 [v0]=y.zq67_h0 (vl e) v0:=Zab (s.zq67_h0 e _ v0)
noncomputable def y.zq25_h0 (Γ:Gam)(v0 v1 v2:V):Option V:=
 ca Γ 9 [v0] fun v3=>pr (.bin .neq .no) [v3, .int .i64 0] fun v4=>vif v4 (pr (.cat []) [] fun v5=>pr (.cat [some 32]) [(.agg (repl 32 (.int .u8 0)))] fun v6=>some (.tup [v6,v3,v1,v2])) (ca Γ 11 [v0] fun v5=>ch Γ 10768 [.str [],v5,v1,v2] fun v6=>pr (.ext 0) [v6] fun v7=>pr (.ext 1) [v6] fun v8=>pr (.ext 2) [v6] fun v9=>pr (.cat [some 32]) [v7] fun v10=>some (.tup [v10, .int .i64 0,v8,v9]))
theorem s.zq25_h0 (e:Ev)(Γ:Gam)(v0 v1 v2:V):stp e Γ 10384 1 [v0,v1,v2]=y.zq25_h0 Γ v0 v1 v2:=by kernel_rfl
theorem w.zq25_h0 (e:Ev)(v0 v1 v2:V):vl e 10384 1 [v0,v1,v2]=y.zq25_h0 (vl e) v0 v1 v2:=Zab (s.zq25_h0 e _ v0 v1 v2)
noncomputable def y.zq27_h0 (Γ:Gam)(v0 v1:V):Option V:=
 pr (.len false) [v1] fun v2=>Γ 10496 8 [v1,v2, .int .i64 0,v0,v1]
theorem s.zq27_h0 (e:Ev)(Γ:Gam)(v0 v1:V):stp e Γ 10496 1 [v0,v1]=y.zq27_h0 Γ v0 v1:=by kernel_rfl
theorem w.zq27_h0 (e:Ev)(v0 v1:V):vl e 10496 1 [v0,v1]=y.zq27_h0 (vl e) v0 v1:=Zab (s.zq27_h0 e _ v0 v1)
noncomputable def y.zq27_h0_8 (Γ:Gam)(v0 v1 v2 v3 v4:V):Option V:=
 pr (.bin .lss .no) [v2,v1] fun v5=>vif v5 (pr (.elem 34) [v0,v2] fun v6=>pr (.ld (some 34) 0) [v6] fun v7=>pr (.cat [some 34]) [v7] fun v8=>pr (.slc 34 false true false) [v4,v2] fun v9=>pr (.len false) [v9] fun v10=>Γ 10496 22 [v0,v1,v2,v9,v10, .int .i64 0,v3,v4,v8]) (some (.tup [.bool false,v3,v4]))
theorem s.zq27_h0_8 (e:Ev)(Γ:Gam)(v0 v1 v2 v3 v4:V):stp e Γ 10496 8 [v0,v1,v2,v3,v4]=y.zq27_h0_8 Γ v0 v1 v2 v3 v4:=by kernel_rfl
theorem w.zq27_h0_8 (e:Ev)(v0 v1 v2 v3 v4:V):vl e 10496 8 [v0,v1,v2,v3,v4]=y.zq27_h0_8 (vl e) v0 v1 v2 v3 v4:=Zab (s.zq27_h0_8 e _ v0 v1 v2 v3 v4)
noncomputable def y.zq27_h0_22 (Γ:Gam)(v0 v1 v2 v3 v4 v5 v6 v7 v8:V):Option V:=
 pr (.bin .lss .no) [v5,v4] fun v9=>vif v9 (pr (.elem 34) [v3,v5] fun v10=>pr (.ld (some 34) 0) [v10] fun v11=>pr (.cat [some 34]) [v11] fun v12=>pr (.ld none 0) [v8] fun v13=>pr (.ld none 0) [v12] fun v14=>pr (.bin .eql .no) [v13,v14] fun v15=>vif v15 (pr (.ld (some 32) 1) [v8] fun v16=>pr (.ld (some 32) 1) [v12] fun v17=>pr (.bin .eql (.flat [(some .u8,true),(some .u8,true),(some .u8,true),(some .u8,true),(some .u8,true),(some .u8,true),(some .u8,true),(some .u8,true),(some .u8,true),(some .u8,true),(some .u8,true),(some .u8,true),(some .u8,true),(some .u8,true),(some .u8,true),(some .u8,true),(some .u8,true),(some .u8,true),(some .u8,true),(some .u8,true),(some .u8,true),(some .u8,true),(some .u8,true),(some .u8,true),(some .u8,true),(some .u8,true),(some .u8,true),(some .u8,true),(some .u8,true),(some .u8,true),(some .u8,true),(some .u8,true)])) [v16,v17] fun v18=>vif v18 (pr (.ld none 33) [v8] fun v19=>pr (.ld none 33) [v12] fun v20=>pr (.bin .neq .no) [v19,v20] fun v21=>vif v21 (some (.tup [.bool true,v6,v7])) (pr (.bin .add .no) [v5, .int .i64 1] fun v22=>Γ 10496 22 [v0,v1,v2,v3,v4,v22,v6,v7,v8])) (pr (.bin .add .no) [v5, .int .i64 1] fun v19=>Γ 10496 22 [v0,v1,v2,v3,v4,v19,v6,v7,v8])) (pr (.bin .add .no) [v5, .int .i64 1] fun v16=>Γ 10496 22 [v0,v1,v2,v3,v4,v16,v6,v7,v8])) (pr (.bin .add .no) [v2, .int .i64 1] fun v10=>Γ 10496 8 [v0,v1,v10,v6,v7])
theorem s.zq27_h0_22 (e:Ev)(Γ:Gam)(v0 v1 v2 v3 v4 v5 v6 v7 v8:V):stp e Γ 10496 22 [v0,v1,v2,v3,v4,v5,v6,v7,v8]=y.zq27_h0_22 Γ v0 v1 v2 v3 v4 v5 v6 v7 v8:=by kernel_rfl
theorem w.zq27_h0_22 (e:Ev)(v0 v1 v2 v3 v4 v5 v6 v7 v8:V):vl e 10496 22 [v0,v1,v2,v3,v4,v5,v6,v7,v8]=y.zq27_h0_22 (vl e) v0 v1 v2 v3 v4 v5 v6 v7 v8:=Zab (s.zq27_h0_22 e _ v0 v1 v2 v3 v4 v5 v6 v7 v8)
noncomputable def y.zq29_h0 (Γ:Gam)(v0 v1:V):Option V:=
 Γ 11456 8 [.int .i64 0,v0,v1,(.agg (repl 64 (.int .u32 0)))]
theorem s.zq29_h0 (e:Ev)(Γ:Gam)(v0 v1:V):stp e Γ 11456 1 [v0,v1]=y.zq29_h0 Γ v0 v1:=by kernel_rfl
theorem w.zq29_h0 (e:Ev)(v0 v1:V):vl e 11456 1 [v0,v1]=y.zq29_h0 (vl e) v0 v1:=Zab (s.zq29_h0 e _ v0 v1)
noncomputable def y.zq29_h0_8 (Γ:Gam)(v0 v1 v2 v3:V):Option V:=
 pr (.bin .lss .no) [v0, .int .i64 16] fun v4=>vif v4 (pr (.bin .mul .no) [.int .i64 4,v0] fun v5=>pr (.chk 64) [v5] fun v6=>pr (.snapd 0 64) [v2,v6] fun v7=>ca Γ 107 [v7] fun v8=>pr .flr [v8] fun v9=>pr (.chk 64) [v0] fun v10=>pr (.std 1 0 1) [v3,v10,v9] fun v11=>pr (.bin .add .no) [v0, .int .i64 1] fun v12=>Γ 11456 8 [v12,v1,v2,v11]) (Γ 11456 25 [.int .i64 16,v1,v2,v3])
theorem s.zq29_h0_8 (e:Ev)(Γ:Gam)(v0 v1 v2 v3:V):stp e Γ 11456 8 [v0,v1,v2,v3]=y.zq29_h0_8 Γ v0 v1 v2 v3:=by kernel_rfl
theorem w.zq29_h0_8 (e:Ev)(v0 v1 v2 v3:V):vl e 11456 8 [v0,v1,v2,v3]=y.zq29_h0_8 (vl e) v0 v1 v2 v3:=Zab (s.zq29_h0_8 e _ v0 v1 v2 v3)
noncomputable def y.zq29_h0_25 (Γ:Gam)(v0 v1 v2 v3:V):Option V:=
 pr (.bin .lss .no) [v0, .int .i64 64] fun v4=>vif v4 (pr (.bin .sub .no) [v0, .int .i64 15] fun v5=>pr (.chk 64) [v5] fun v6=>pr (.ldd none 0 1) [v3,v6] fun v7=>pr (.bin .sub .no) [v0, .int .i64 2] fun v8=>pr (.chk 64) [v8] fun v9=>pr (.ldd none 0 1) [v3,v9] fun v10=>ca Γ 108 [v7,(.int .i64 (-7))] fun v11=>ca Γ 108 [v7,(.int .i64 (-18))] fun v12=>pr (.bin .xor .no) [v11,v12] fun v13=>pr (.bin .shr .no) [v7, .int .u64 3] fun v14=>pr (.bin .xor .no) [v13,v14] fun v15=>ca Γ 108 [v10,(.int .i64 (-17))] fun v16=>ca Γ 108 [v10,(.int .i64 (-19))] fun v17=>pr (.bin .xor .no) [v16,v17] fun v18=>pr (.bin .shr .no) [v10, .int .u64 10] fun v19=>pr (.bin .xor .no) [v18,v19] fun v20=>pr (.bin .sub .no) [v0, .int .i64 16] fun v21=>pr (.chk 64) [v21] fun v22=>pr (.ldd none 0 1) [v3,v22] fun v23=>pr (.bin .add .no) [v23,v15] fun v24=>pr (.bin .sub .no) [v0, .int .i64 7] fun v25=>pr (.chk 64) [v25] fun v26=>pr (.ldd none 0 1) [v3,v26] fun v27=>pr (.bin .add .no) [v24,v27] fun v28=>pr (.bin .add .no) [v28,v20] fun v29=>pr (.chk 64) [v0] fun v30=>pr (.std 1 0 1) [v3,v30,v29] fun v31=>pr (.bin .add .no) [v0, .int .i64 1] fun v32=>Γ 11456 25 [v32,v1,v2,v31]) (pr (.ld none 0) [v1] fun v5=>pr (.ld none 1) [v1] fun v6=>pr (.ld none 2) [v1] fun v7=>pr (.ld none 3) [v1] fun v8=>pr (.ld none 4) [v1] fun v9=>pr (.ld none 5) [v1] fun v10=>pr (.ld none 6) [v1] fun v11=>pr (.ld none 7) [v1] fun v12=>Γ 11456 48 [v5,v6,v7,v8,v9,v10,v11,v12,v3, .int .i64 0,v1,v2])
theorem s.zq29_h0_25 (e:Ev)(Γ:Gam)(v0 v1 v2 v3:V):stp e Γ 11456 25 [v0,v1,v2,v3]=y.zq29_h0_25 Γ v0 v1 v2 v3:=by kernel_rfl
theorem w.zq29_h0_25 (e:Ev)(v0 v1 v2 v3:V):vl e 11456 25 [v0,v1,v2,v3]=y.zq29_h0_25 (vl e) v0 v1 v2 v3:=Zab (s.zq29_h0_25 e _ v0 v1 v2 v3)
noncomputable def y.zq29_h0_48 (Γ:Gam)(v0 v1 v2 v3 v4 v5 v6 v7 v8 v9 v10 v11:V):Option V:=
 pr (.bin .lss .no) [v9, .int .i64 64] fun v12=>vif v12 (pr (.idxa 64 1 none) [v8,v9] fun v13=>ca Γ 108 [v4,(.int .i64 (-6))] fun v14=>ca Γ 108 [v4,(.int .i64 (-11))] fun v15=>pr (.bin .xor .no) [v14,v15] fun v16=>ca Γ 108 [v4,(.int .i64 (-25))] fun v17=>pr (.bin .xor .no) [v16,v17] fun v18=>pr (.bin .add .no) [v7,v18] fun v19=>pr (.bin .and .no) [v4,v5] fun v20=>pr (.un .xor) [v4] fun v21=>pr (.bin .and .no) [v21,v6] fun v22=>pr (.bin .xor .no) [v20,v22] fun v23=>pr (.bin .add .no) [v19,v23] fun v24=>pr (.chk 64) [v9] fun v25=>pr (.ldd none 0 1) [(.agg (.int .u32 1116352408:: .int .u32 1899447441:: .int .u32 3049323471:: .int .u32 3921009573:: .int .u32 961987163:: .int .u32 1508970993:: .int .u32 2453635748:: .int .u32 2870763221:: .int .u32 3624381080:: .int .u32 310598401:: .int .u32 607225278:: .int .u32 1426881987:: .int .u32 1925078388:: .int .u32 2162078206:: .int .u32 2614888103:: .int .u32 3248222580:: .int .u32 3835390401:: .int .u32 4022224774:: .int .u32 264347078:: .int .u32 604807628:: .int .u32 770255983:: .int .u32 1249150122:: .int .u32 1555081692:: .int .u32 1996064986:: .int .u32 2554220882:: .int .u32 2821834349:: .int .u32 2952996808:: .int .u32 3210313671:: .int .u32 3336571891:: .int .u32 3584528711:: .int .u32 113926993:: .int .u32 338241895:: .int .u32 666307205:: .int .u32 773529912:: .int .u32 1294757372:: .int .u32 1396182291:: .int .u32 1695183700:: .int .u32 1986661051:: .int .u32 2177026350:: .int .u32 2456956037:: .int .u32 2730485921:: .int .u32 2820302411:: .int .u32 3259730800:: .int .u32 3345764771:: .int .u32 3516065817:: .int .u32 3600352804:: .int .u32 4094571909:: .int .u32 275423344:: .int .u32 430227734:: .int .u32 506948616:: .int .u32 659060556:: .int .u32 883997877:: .int .u32 958139571:: .int .u32 1322822218:: .int .u32 1537002063:: .int .u32 1747873779:: .int .u32 1955562222:: .int .u32 2024104815:: .int .u32 2227730452:: .int .u32 2361852424:: .int .u32 2428436474:: .int .u32 2756734187:: .int .u32 3204031479:: .int .u32 3329325298:: [])),v25] fun v26=>pr (.bin .add .no) [v24,v26] fun v27=>pr (.bin .add .no) [v27,v13] fun v28=>ca Γ 108 [v0,(.int .i64 (-2))] fun v29=>ca Γ 108 [v0,(.int .i64 (-13))] fun v30=>pr (.bin .xor .no) [v29,v30] fun v31=>ca Γ 108 [v0,(.int .i64 (-22))] fun v32=>pr (.bin .xor .no) [v31,v32] fun v33=>pr (.bin .and .no) [v0,v1] fun v34=>pr (.bin .and .no) [v0,v2] fun v35=>pr (.bin .xor .no) [v34,v35] fun v36=>pr (.bin .and .no) [v1,v2] fun v37=>pr (.bin .xor .no) [v36,v37] fun v38=>pr (.bin .add .no) [v33,v38] fun v39=>pr (.bin .add .no) [v28,v39] fun v40=>pr (.bin .add .no) [v3,v28] fun v41=>pr (.bin .add .no) [v9, .int .i64 1] fun v42=>Γ 11456 48 [v40,v0,v1,v2,v41,v4,v5,v6,v8,v42,v10,v11]) (pr (.cat [none,none,none,none,none,none,none,none]) [v0,v1,v2,v3,v4,v5,v6,v7] fun v13=>Γ 11456 72 [v13, .int .i64 0,v10,v11])
theorem s.zq29_h0_48 (e:Ev)(Γ:Gam)(v0 v1 v2 v3 v4 v5 v6 v7 v8 v9 v10 v11:V):stp e Γ 11456 48 [v0,v1,v2,v3,v4,v5,v6,v7,v8,v9,v10,v11]=y.zq29_h0_48 Γ v0 v1 v2 v3 v4 v5 v6 v7 v8 v9 v10 v11:=by kernel_rfl
theorem w.zq29_h0_48 (e:Ev)(v0 v1 v2 v3 v4 v5 v6 v7 v8 v9 v10 v11:V):vl e 11456 48 [v0,v1,v2,v3,v4,v5,v6,v7,v8,v9,v10,v11]=y.zq29_h0_48 (vl e) v0 v1 v2 v3 v4 v5 v6 v7 v8 v9 v10 v11:=Zab (s.zq29_h0_48 e _ v0 v1 v2 v3 v4 v5 v6 v7 v8 v9 v10 v11)
noncomputable def y.zq29_h0_72 (Γ:Gam)(v0 v1 v2 v3:V):Option V:=
 pr (.bin .lss .no) [v1, .int .i64 8] fun v4=>vif v4 (pr (.idxa 8 1 none) [v0,v1] fun v5=>pr (.chk 8) [v1] fun v6=>pr (.ldd none 0 1) [v2,v6] fun v7=>pr (.bin .add .no) [v7,v5] fun v8=>pr (.chk 8) [v1] fun v9=>pr (.std 1 0 1) [v2,v9,v8] fun v10=>pr (.bin .add .no) [v1, .int .i64 1] fun v11=>Γ 11456 72 [v0,v11,v10,v3]) (some (.tup [v2,v3]))
theorem s.zq29_h0_72 (e:Ev)(Γ:Gam)(v0 v1 v2 v3:V):stp e Γ 11456 72 [v0,v1,v2,v3]=y.zq29_h0_72 Γ v0 v1 v2 v3:=by kernel_rfl
theorem w.zq29_h0_72 (e:Ev)(v0 v1 v2 v3:V):vl e 11456 72 [v0,v1,v2,v3]=y.zq29_h0_72 (vl e) v0 v1 v2 v3:=Zab (s.zq29_h0_72 e _ v0 v1 v2 v3)
noncomputable def y.zq28_h0 (Γ:Gam)(v0 v1 v2 v3:V):Option V:=
 pr (.len false) [v1] fun v4=>Γ 10768 12 [v0,v1, .sl false 34 [], .str [],v1,v4, .int .i64 0,v2,v3,(.agg (repl 32 (.int .u8 0)))]
theorem s.zq28_h0 (e:Ev)(Γ:Gam)(v0 v1 v2 v3:V):stp e Γ 10768 1 [v0,v1,v2,v3]=y.zq28_h0 Γ v0 v1 v2 v3:=by kernel_rfl
theorem w.zq28_h0 (e:Ev)(v0 v1 v2 v3:V):vl e 10768 1 [v0,v1,v2,v3]=y.zq28_h0 (vl e) v0 v1 v2 v3:=Zab (s.zq28_h0 e _ v0 v1 v2 v3)
noncomputable def y.zq28_h0_12 (Γ:Gam)(v0 v1 v2 v3 v4 v5 v6 v7 v8 v9:V):Option V:=
 pr (.bin .lss .no) [v6,v5] fun v10=>vif v10 (pr (.elem 2) [v4,v6] fun v11=>pr (.ld (some 2) 0) [v11] fun v12=>pr (.cat [some 2]) [v12] fun v13=>pr (.ld none 0) [v13] fun v14=>ca Γ 30 [v0,v14] fun v15=>pr (.ext 0) [v15] fun v16=>pr (.ext 1) [v15] fun v17=>pr (.un .not) [v17] fun v18=>vif v18 (pr (.bin .add .no) [v6, .int .i64 1] fun v19=>Γ 10768 12 [v0,v1,v2,v3,v4,v5,v19,v7,v8,v9]) (ca Γ 50 [v16] fun v19=>pr (.elem 1) [v19, .int .i64 0] fun v20=>pr (.ld none 0) [v20] fun v21=>pr (.bin .eql .no) [v21,v16] fun v22=>vif v22 (pr (.ld none 1) [v13] fun v23=>ch Γ 10240 [.str [98,108,111,98],v23,v7,v8] fun v24=>pr (.ext 0) [v24] fun v25=>pr (.ext 1) [v24] fun v26=>pr (.ext 2) [v24] fun v27=>pr (.cat [none,some 32]) [v21,v25] fun v28=>pr (.cat [none,none,some 32]) [v21, .bool false,v25] fun v29=>pr (.bsl 34) [v29] fun v30=>pr (.app 34) [v2,v30] fun v31=>pr (.bin .add .no) [v6, .int .i64 1] fun v32=>Γ 10768 12 [v0,v1,v31,v21,v4,v5,v32,v26,v27,v9]) (pr (.bin .neq .no) [v21,v3] fun v23=>vif v23 (Γ 10768 40 [v0,v1,v2,v21,v4,v5,v6, .bool true,v7,v8,v9]) (pr (.len false) [v2] fun v24=>pr (.bin .eql .no) [v24, .int .i64 0] fun v25=>vif v25 (Γ 10768 40 [v0,v1,v2,v21,v4,v5,v6, .bool true,v7,v8,v9]) (pr (.len false) [v2] fun v26=>pr (.bin .sub .no) [v26, .int .i64 1] fun v27=>pr (.elem 34) [v2,v27] fun v28=>pr (.ld none 1) [v28] fun v29=>pr (.un .not) [v29] fun v30=>vif v30 (Γ 10768 40 [v0,v1,v2,v21,v4,v5,v6, .bool true,v7,v8,v9]) (pr (.len false) [v2] fun v31=>pr (.bin .sub .no) [v31, .int .i64 1] fun v32=>pr (.elem 34) [v2,v32] fun v33=>pr (.ld none 0) [v33] fun v34=>pr (.bin .neq .no) [v34,v21] fun v35=>Γ 10768 40 [v0,v1,v2,v21,v4,v5,v6,v35,v7,v8,v9])))))) (ca Γ 17 [v2] fun v11=>ch Γ 10240 [.str [116,114,101,101],v11,v7,v8] fun v12=>pr (.ext 0) [v12] fun v13=>pr (.ext 1) [v12] fun v14=>pr (.ext 2) [v12] fun v15=>pr (.cat [some 32]) [v13] fun v16=>some (.tup [v16,v14,v15]))
theorem s.zq28_h0_12 (e:Ev)(Γ:Gam)(v0 v1 v2 v3 v4 v5 v6 v7 v8 v9:V):stp e Γ 10768 12 [v0,v1,v2,v3,v4,v5,v6,v7,v8,v9]=y.zq28_h0_12 Γ v0 v1 v2 v3 v4 v5 v6 v7 v8 v9:=by kernel_rfl
theorem w.zq28_h0_12 (e:Ev)(v0 v1 v2 v3 v4 v5 v6 v7 v8 v9:V):vl e 10768 12 [v0,v1,v2,v3,v4,v5,v6,v7,v8,v9]=y.zq28_h0_12 (vl e) v0 v1 v2 v3 v4 v5 v6 v7 v8 v9:=Zab (s.zq28_h0_12 e _ v0 v1 v2 v3 v4 v5 v6 v7 v8 v9)
noncomputable def y.zq28_h0_40 (Γ:Gam)(v0 v1 v2 v3 v4 v5 v6 v7 v8 v9 v10:V):Option V:=
 vif v7 (pr (.bsl 1) [v0,v3] fun v11=>ca Γ 69 [v11] fun v12=>ch Γ 10768 [v12,v1,v8,v9] fun v13=>pr (.ext 0) [v13] fun v14=>pr (.ext 1) [v13] fun v15=>pr (.ext 2) [v13] fun v16=>pr (.cat [none,none,some 32]) [v3, .bool true,v14] fun v17=>pr (.bsl 34) [v17] fun v18=>pr (.app 34) [v2,v18] fun v19=>pr (.bin .add .no) [v6, .int .i64 1] fun v20=>Γ 10768 12 [v0,v1,v19,v3,v4,v5,v20,v15,v16,v10]) (pr (.bin .add .no) [v6, .int .i64 1] fun v11=>Γ 10768 12 [v0,v1,v2,v3,v4,v5,v11,v8,v9,v10])
theorem s.zq28_h0_40 (e:Ev)(Γ:Gam)(v0 v1 v2 v3 v4 v5 v6 v7 v8 v9 v10:V):stp e Γ 10768 40 [v0,v1,v2,v3,v4,v5,v6,v7,v8,v9,v10]=y.zq28_h0_40 Γ v0 v1 v2 v3 v4 v5 v6 v7 v8 v9 v10:=by kernel_rfl
theorem w.zq28_h0_40 (e:Ev)(v0 v1 v2 v3 v4 v5 v6 v7 v8 v9 v10:V):vl e 10768 40 [v0,v1,v2,v3,v4,v5,v6,v7,v8,v9,v10]=y.zq28_h0_40 (vl e) v0 v1 v2 v3 v4 v5 v6 v7 v8 v9 v10:=Zab (s.zq28_h0_40 e _ v0 v1 v2 v3 v4 v5 v6 v7 v8 v9 v10)
noncomputable def y.zq26_h0 (Γ:Gam)(v0 v1 v2 v3:V):Option V:=
 ca Γ 40 [v0,v1] fun v4=>pr (.cat [some 32]) [v4] fun v5=>pr (.cat [none,some 32,none]) [v0,v5,v1] fun v6=>pr (.bsl 34) [v6] fun v7=>pr (.app 34) [v3,v7] fun v8=>pr (.len false) [v2] fun v9=>Γ 10240 12 [v0,v1,v2,v9, .int .i64 0,v2,v8,(.agg (repl 32 (.int .u8 0))),v5]
theorem s.zq26_h0 (e:Ev)(Γ:Gam)(v0 v1 v2 v3:V):stp e Γ 10240 1 [v0,v1,v2,v3]=y.zq26_h0 Γ v0 v1 v2 v3:=by kernel_rfl
theorem w.zq26_h0 (e:Ev)(v0 v1 v2 v3:V):vl e 10240 1 [v0,v1,v2,v3]=y.zq26_h0 (vl e) v0 v1 v2 v3:=Zab (s.zq26_h0 e _ v0 v1 v2 v3)
noncomputable def y.zq26_h0_12 (Γ:Gam)(v0 v1 v2 v3 v4 v5 v6 v7 v8:V):Option V:=
 pr (.bin .lss .no) [v4,v3] fun v9=>vif v9 (pr (.elem 34) [v2,v4] fun v10=>pr (.ld (some 34) 0) [v10] fun v11=>pr (.cat [some 34]) [v11] fun v12=>pr (.ld none 0) [v12] fun v13=>pr (.bin .eql .no) [v13,v0] fun v14=>vif v14 (pr (.ld (some 32) 1) [v12] fun v15=>pr (.bin .eql (.flat [(some .u8,true),(some .u8,true),(some .u8,true),(some .u8,true),(some .u8,true),(some .u8,true),(some .u8,true),(some .u8,true),(some .u8,true),(some .u8,true),(some .u8,true),(some .u8,true),(some .u8,true),(some .u8,true),(some .u8,true),(some .u8,true),(some .u8,true),(some .u8,true),(some .u8,true),(some .u8,true),(some .u8,true),(some .u8,true),(some .u8,true),(some .u8,true),(some .u8,true),(some .u8,true),(some .u8,true),(some .u8,true),(some .u8,true),(some .u8,true),(some .u8,true),(some .u8,true)])) [v15,v8] fun v16=>vif v16 (pr (.cat [some 32]) [v8] fun v17=>some (.tup [v17,v5,v6])) (pr (.bin .add .no) [v4, .int .i64 1] fun v17=>Γ 10240 12 [v0,v1,v2,v3,v17,v5,v6,v7,v8])) (pr (.bin .add .no) [v4, .int .i64 1] fun v15=>Γ 10240 12 [v0,v1,v2,v3,v15,v5,v6,v7,v8])) (pr (.cat [none,some 32,none]) [v0,v8,v1] fun v10=>pr (.bsl 34) [v10] fun v11=>pr (.app 34) [v5,v11] fun v12=>pr (.cat [some 32]) [v8] fun v13=>some (.tup [v13,v12,v6]))
theorem s.zq26_h0_12 (e:Ev)(Γ:Gam)(v0 v1 v2 v3 v4 v5 v6 v7 v8:V):stp e Γ 10240 12 [v0,v1,v2,v3,v4,v5,v6,v7,v8]=y.zq26_h0_12 Γ v0 v1 v2 v3 v4 v5 v6 v7 v8:=by kernel_rfl
theorem w.zq26_h0_12 (e:Ev)(v0 v1 v2 v3 v4 v5 v6 v7 v8:V):vl e 10240 12 [v0,v1,v2,v3,v4,v5,v6,v7,v8]=y.zq26_h0_12 (vl e) v0 v1 v2 v3 v4 v5 v6 v7 v8:=Zab (s.zq26_h0_12 e _ v0 v1 v2 v3 v4 v5 v6 v7 v8)
noncomputable def y.zq34_h0 (Γ:Gam)(v0 v1 v2 v3:V):Option V:=
 pr (.len true) [v0] fun v4=>pr (.bin .gtr .no) [v4, .int .i64 32768] fun v5=>vif v5 (pr (.cat []) [] fun v6=>pr (.cat [some 32]) [(.agg (repl 32 (.int .u8 0)))] fun v7=>some (.tup [v7, .int .i64 3,v1,v2,v3])) (ca Γ 22 [v0] fun v6=>pr (.cat [some 32]) [v6] fun v7=>pr (.mup (true,(repl 32 ((some .u8,true))))) [v1,v7,v0] fun v8=>pr (.cat [some 32]) [v7] fun v9=>some (.tup [v9, .int .i64 0,v8,v2,v3]))
theorem s.zq34_h0 (e:Ev)(Γ:Gam)(v0 v1 v2 v3:V):stp e Γ 10224 1 [v0,v1,v2,v3]=y.zq34_h0 Γ v0 v1 v2 v3:=by kernel_rfl
theorem w.zq34_h0 (e:Ev)(v0 v1 v2 v3:V):vl e 10224 1 [v0,v1,v2,v3]=y.zq34_h0 (vl e) v0 v1 v2 v3:=Zab (s.zq34_h0 e _ v0 v1 v2 v3)
end Go.Proofs.YtpmgdngjbdkdfaaGreatDoor
namespace Go.Proofs.YtpmgdngjbdkdfaaGreatDoor
open Go.Abs
noncomputable def y.zq31_h0 (Γ:Gam)(v0 v1 v2 v3:V):Option V:=
 pr (.len false) [v0] fun v4=>pr (.bin .gtr .no) [v4, .int .i64 512] fun v5=>vif v5 (pr (.cat []) [] fun v6=>pr (.cat [some 32]) [(.agg (repl 32 (.int .u8 0)))] fun v7=>some (.tup [v7, .int .i64 3,v1,v2,v3])) (ch Γ 10528 [v0] fun v6=>pr (.ext 0) [v6] fun v7=>pr (.ext 1) [v6] fun v8=>ch Γ 10544 [v7, .fn 35 [],v8] fun v9=>Γ 10208 28 [v7,v7,v7, .int .i64 0,v1,v2,v3,(.agg (repl 32 (.int .u8 0))),v9])
theorem s.zq31_h0 (e:Ev)(Γ:Gam)(v0 v1 v2 v3:V):stp e Γ 10208 1 [v0,v1,v2,v3]=y.zq31_h0 Γ v0 v1 v2 v3:=by kernel_rfl
theorem w.zq31_h0 (e:Ev)(v0 v1 v2 v3:V):vl e 10208 1 [v0,v1,v2,v3]=y.zq31_h0 (vl e) v0 v1 v2 v3:=Zab (s.zq31_h0 e _ v0 v1 v2 v3)
noncomputable def y.zq31_h0_28 (Γ:Gam)(v0 v1 v2 v3 v4 v5 v6 v7 v8:V):Option V:=
 pr (.bin .lss .no) [v3,v2] fun v9=>vif v9 (pr .chkd [v1,v3] fun v10=>pr (.ldd (some 2) 0 2) [v8,v10] fun v11=>pr (.cat [some 2]) [v11] fun v12=>pr (.ld none 0) [v12] fun v13=>ca Γ 37 [v13] fun v14=>pr (.un .not) [v14] fun v15=>vif v15 (pr (.cat []) [] fun v16=>pr (.cat [some 32]) [(.agg (repl 32 (.int .u8 0)))] fun v17=>some (.tup [v17, .int .i64 1,v4,v5,v6])) (pr (.bin .gtr .no) [v3, .int .i64 0] fun v16=>vif v16 (pr (.bin .sub .no) [v3, .int .i64 1] fun v17=>pr .chkd [v0,v17] fun v18=>pr (.ldd none 0 2) [v8,v18] fun v19=>pr (.ld none 0) [v12] fun v20=>ca Γ 38 [v19,v20] fun v21=>pr (.ext 0) [v21] fun v22=>pr (.ext 1) [v21] fun v23=>vif v23 (pr (.cat []) [] fun v24=>pr (.cat [some 32]) [(.agg (repl 32 (.int .u8 0)))] fun v25=>some (.tup [v25, .int .i64 1,v4,v5,v6])) (pr (.bin .sub .no) [v3, .int .i64 1] fun v24=>pr .chkd [v0,v24] fun v25=>pr (.ldd none 0 2) [v8,v25] fun v26=>pr (.ld none 0) [v12] fun v27=>pr (.bin .eql .no) [v26,v27] fun v28=>vif v28 (pr (.cat []) [] fun v29=>pr (.cat [some 32]) [(.agg (repl 32 (.int .u8 0)))] fun v30=>some (.tup [v30, .int .i64 1,v4,v5,v6])) (pr (.bin .add .no) [v3, .int .i64 1] fun v29=>Γ 10208 28 [v0,v1,v2,v29,v4,v5,v6,v7,v8]))) (pr (.bin .add .no) [v3, .int .i64 1] fun v17=>Γ 10208 28 [v0,v1,v2,v17,v4,v5,v6,v7,v8]))) (Γ 10208 65 [v0,v0,v0, .int .i64 0,v4,v5,v6,v7,v8])
theorem s.zq31_h0_28 (e:Ev)(Γ:Gam)(v0 v1 v2 v3 v4 v5 v6 v7 v8:V):stp e Γ 10208 28 [v0,v1,v2,v3,v4,v5,v6,v7,v8]=y.zq31_h0_28 Γ v0 v1 v2 v3 v4 v5 v6 v7 v8:=by kernel_rfl
theorem w.zq31_h0_28 (e:Ev)(v0 v1 v2 v3 v4 v5 v6 v7 v8:V):vl e 10208 28 [v0,v1,v2,v3,v4,v5,v6,v7,v8]=y.zq31_h0_28 (vl e) v0 v1 v2 v3 v4 v5 v6 v7 v8:=Zab (s.zq31_h0_28 e _ v0 v1 v2 v3 v4 v5 v6 v7 v8)
noncomputable def y.zq31_h0_65 (Γ:Gam)(v0 v1 v2 v3 v4 v5 v6 v7 v8:V):Option V:=
 pr (.bin .lss .no) [v3,v2] fun v9=>vif v9 (pr .chkd [v1,v3] fun v10=>pr (.ldd (some 2) 0 2) [v8,v10] fun v11=>pr (.cat [some 2]) [v11] fun v12=>pr (.ld none 1) [v12] fun v13=>pr (.len true) [v13] fun v14=>pr (.bin .gtr .no) [v14, .int .i64 32768] fun v15=>vif v15 (pr (.cat []) [] fun v16=>pr (.cat [some 32]) [(.agg (repl 32 (.int .u8 0)))] fun v17=>some (.tup [v17, .int .i64 3,v4,v5,v6])) (pr (.bin .add .no) [v3, .int .i64 1] fun v16=>Γ 10208 65 [v0,v1,v2,v16,v4,v5,v6,v7,v8])) (ch Γ 10624 [.str [], .int .i64 0,v0,v8,v4,v5,v6] fun v10=>pr (.ext 0) [v10] fun v11=>pr (.ext 1) [v10] fun v12=>pr (.ext 2) [v10] fun v13=>pr (.ext 3) [v10] fun v14=>pr (.ext 4) [v10] fun v15=>pr (.ext 5) [v10] fun v16=>pr (.cat [some 32]) [v11] fun v17=>some (.tup [v17,v12,v14,v15,v16]))
theorem s.zq31_h0_65 (e:Ev)(Γ:Gam)(v0 v1 v2 v3 v4 v5 v6 v7 v8:V):stp e Γ 10208 65 [v0,v1,v2,v3,v4,v5,v6,v7,v8]=y.zq31_h0_65 Γ v0 v1 v2 v3 v4 v5 v6 v7 v8:=by kernel_rfl
theorem w.zq31_h0_65 (e:Ev)(v0 v1 v2 v3 v4 v5 v6 v7 v8:V):vl e 10208 65 [v0,v1,v2,v3,v4,v5,v6,v7,v8]=y.zq31_h0_65 (vl e) v0 v1 v2 v3 v4 v5 v6 v7 v8:=Zab (s.zq31_h0_65 e _ v0 v1 v2 v3 v4 v5 v6 v7 v8)
noncomputable def y.zq70_h0 (Γ:Gam)(v0 v1 v2:V):Option V:=
 ch Γ 11200 [v0,v1,v2] fun v4=>pr (.ext 0) [v4] fun v5=>pr (.ext 1) [v4] fun v6=>pr (.bin .eql .no) [v5,(.int .i64 (-1))] fun v7=>vif v7 (some (.tup [v0,v6])) (pr (.bin .add .no) [v5, .int .i64 1] fun v8=>Γ 11264 18 [v0,v1,v5,v8,v6])
theorem s.zq70_h0 (e:Ev)(Γ:Gam)(v0 v1 v2:V):stp e Γ 11264 1 [v0,v1,v2]=y.zq70_h0 Γ v0 v1 v2:=by kernel_rfl
theorem w.zq70_h0 (e:Ev)(v0 v1 v2:V):vl e 11264 1 [v0,v1,v2]=y.zq70_h0 (vl e) v0 v1 v2:=Zab (s.zq70_h0 e _ v0 v1 v2)
noncomputable def y.zq70_h0_18 (Γ:Gam)(v0 v1 v2 v3 v4:V):Option V:=
 pr (.bin .lss .no) [v3,v0] fun v5=>vif v5 (pr .chkd [v0,v3] fun v6=>pr (.ldd none 0 1) [v4,v6] fun v7=>cv Γ v1 [v7] fun v8=>pr (.un .not) [v8] fun v9=>vif v9 (pr .chkd [v0,v2] fun v10=>pr (.std 1 0 1) [v4,v10,v7] fun v11=>pr (.bin .add .no) [v2, .int .i64 1] fun v12=>pr (.bin .add .no) [v3, .int .i64 1] fun v13=>Γ 11264 18 [v0,v1,v12,v13,v11]) (pr (.bin .add .no) [v3, .int .i64 1] fun v10=>Γ 11264 18 [v0,v1,v2,v10,v4])) (pr .chkd [v0,v2] fun v6=>pr (.clrx (.str [])) [v4,v0,v6] fun v7=>pr .chkl [v0,v2] fun v8=>some (.tup [v8,v7]))
theorem s.zq70_h0_18 (e:Ev)(Γ:Gam)(v0 v1 v2 v3 v4:V):stp e Γ 11264 18 [v0,v1,v2,v3,v4]=y.zq70_h0_18 Γ v0 v1 v2 v3 v4:=by kernel_rfl
theorem w.zq70_h0_18 (e:Ev)(v0 v1 v2 v3 v4:V):vl e 11264 18 [v0,v1,v2,v3,v4]=y.zq70_h0_18 (vl e) v0 v1 v2 v3 v4:=Zab (s.zq70_h0_18 e _ v0 v1 v2 v3 v4)
noncomputable def y.zq66_h0 (Γ:Gam)(v0:V):Option V:=
 vamb v0 (some (.tup [.int .i64 0, .agg []])) (pr (.rapp 2) [.agg [], .int .i64 0,v0] fun v3=>pr (.rlen 2) [.int .i64 0,v0] fun v4=>some (.tup [v4,v3]))
theorem s.zq66_h0 (e:Ev)(Γ:Gam)(v0:V):stp e Γ 10528 1 [v0]=y.zq66_h0 Γ v0:=by kernel_rfl
theorem w.zq66_h0 (e:Ev)(v0:V):vl e 10528 1 [v0]=y.zq66_h0 (vl e) v0:=Zab (s.zq66_h0 e _ v0)
noncomputable def y.zq71_h0 (Γ:Gam)(v0 v1 v2:V):Option V:=
 Γ 11200 8 [v0,v1,v0, .int .i64 0,v2]
theorem s.zq71_h0 (e:Ev)(Γ:Gam)(v0 v1 v2:V):stp e Γ 11200 1 [v0,v1,v2]=y.zq71_h0 Γ v0 v1 v2:=by kernel_rfl
theorem w.zq71_h0 (e:Ev)(v0 v1 v2:V):vl e 11200 1 [v0,v1,v2]=y.zq71_h0 (vl e) v0 v1 v2:=Zab (s.zq71_h0 e _ v0 v1 v2)
noncomputable def y.zq71_h0_8 (Γ:Gam)(v0 v1 v2 v3 v4:V):Option V:=
 pr (.bin .lss .no) [v3,v2] fun v5=>vif v5 (pr .chkd [v0,v3] fun v6=>pr (.ldd none 0 1) [v4,v6] fun v7=>cv Γ v1 [v7] fun v8=>vif v8 (some (.tup [v3,v4])) (pr (.bin .add .no) [v3, .int .i64 1] fun v9=>Γ 11200 8 [v0,v1,v2,v9,v4])) (some (.tup [(.int .i64 (-1)),v4]))
theorem s.zq71_h0_8 (e:Ev)(Γ:Gam)(v0 v1 v2 v3 v4:V):stp e Γ 11200 8 [v0,v1,v2,v3,v4]=y.zq71_h0_8 Γ v0 v1 v2 v3 v4:=by kernel_rfl
theorem w.zq71_h0_8 (e:Ev)(v0 v1 v2 v3 v4:V):vl e 11200 8 [v0,v1,v2,v3,v4]=y.zq71_h0_8 (vl e) v0 v1 v2 v3 v4:=Zab (s.zq71_h0_8 e _ v0 v1 v2 v3 v4)
noncomputable def y.zq33_h0 (Γ:Gam)(v0 v1 v2 v3:V):Option V:=
 pr .scs [v0] fun v4=>pr (.ld (some 32) 0) [v4] fun v5=>ch Γ 10704 [.str [],v5, .int .i64 1, .sl false 33 [], .int .i64 4096,v1,v2,v3] fun v6=>pr (.ext 0) [v6] fun v7=>pr (.ext 1) [v6] fun v8=>pr (.ext 2) [v6] fun v9=>pr (.ext 3) [v6] fun v10=>pr (.ext 4) [v6] fun v11=>pr (.ext 5) [v6] fun v12=>pr (.bin .neq .no) [v7, .int .i64 0] fun v13=>vif v13 (some (.tup [.sl false 33 [],v7,v10,v11,v12])) (some (.tup [v8, .int .i64 0,v10,v11,v12]))
theorem s.zq33_h0 (e:Ev)(Γ:Gam)(v0 v1 v2 v3:V):stp e Γ 10288 1 [v0,v1,v2,v3]=y.zq33_h0 Γ v0 v1 v2 v3:=by kernel_rfl
theorem w.zq33_h0 (e:Ev)(v0 v1 v2 v3:V):vl e 10288 1 [v0,v1,v2,v3]=y.zq33_h0 (vl e) v0 v1 v2 v3:=Zab (s.zq33_h0 e _ v0 v1 v2 v3)
noncomputable def y.zq35_h0 (Γ:Gam)(v0 v1 v2 v3:V):Option V:=
 ca Γ 41 [v0] fun v4=>pr (.ext 0) [v4] fun v5=>pr (.ext 1) [v4] fun v6=>pr (.bin .neq .no) [v6, .int .i64 0] fun v7=>vif v7 (pr (.cat []) [] fun v8=>pr (.cat [some 32]) [(.agg (repl 32 (.int .u8 0)))] fun v9=>some (.tup [v9,v6,v1,v2,v3])) (ca Γ 42 [v5] fun v8=>pr (.cat [some 32]) [v8] fun v9=>pr (.mup (true,(repl 32 ((some .u8,true))))) [v2,v9,v5] fun v10=>pr (.cat [some 32]) [v9] fun v11=>some (.tup [v11, .int .i64 0,v1,v10,v3]))
theorem s.zq35_h0 (e:Ev)(Γ:Gam)(v0 v1 v2 v3:V):stp e Γ 10256 1 [v0,v1,v2,v3]=y.zq35_h0 Γ v0 v1 v2 v3:=by kernel_rfl
theorem w.zq35_h0 (e:Ev)(v0 v1 v2 v3:V):vl e 10256 1 [v0,v1,v2,v3]=y.zq35_h0 (vl e) v0 v1 v2 v3:=Zab (s.zq35_h0 e _ v0 v1 v2 v3)
noncomputable def y.zq72_h0 (Γ:Gam)(v0 v1 v2:V):Option V:=
 ch Γ 10849 [v0,v0,v1,v2] fun v3=>some v3
theorem s.zq72_h0 (e:Ev)(Γ:Gam)(v0 v1 v2:V):stp e Γ 10544 1 [v0,v1,v2]=y.zq72_h0 Γ v0 v1 v2:=by kernel_rfl
theorem w.zq72_h0 (e:Ev)(v0 v1 v2:V):vl e 10544 1 [v0,v1,v2]=y.zq72_h0 (vl e) v0 v1 v2:=Zab (s.zq72_h0 e _ v0 v1 v2)
noncomputable def y.zq39_h0 (Γ:Gam)(v0 v1 v2 v3 v4 v5 v6 v7:V):Option V:=
 pr .scs [v1] fun v8=>pr (.bin .gtr .no) [v2, .int .i64 16] fun v9=>vif v9 (some (.tup [.int .i64 8,v3,v4,v5,v6,v7])) (pr (.ld (some 32) 0) [v8] fun v10=>ch Γ 11056 [v10,v5,v6,v7] fun v11=>pr (.ext 0) [v11] fun v12=>pr (.ext 1) [v11] fun v13=>pr (.ext 2) [v11] fun v14=>pr (.ext 3) [v11] fun v15=>pr (.ext 4) [v11] fun v16=>pr (.bin .neq .no) [v13, .int .i64 0] fun v17=>vif v17 (some (.tup [v13,v3,v4,v14,v15,v16])) (pr (.len false) [v12] fun v18=>Γ 10704 26 [v0,v2,v12,v18, .int .i64 0,v3,v4,v14,v15,v16]))
theorem s.zq39_h0 (e:Ev)(Γ:Gam)(v0 v1 v2 v3 v4 v5 v6 v7:V):stp e Γ 10704 1 [v0,v1,v2,v3,v4,v5,v6,v7]=y.zq39_h0 Γ v0 v1 v2 v3 v4 v5 v6 v7:=by kernel_rfl
theorem w.zq39_h0 (e:Ev)(v0 v1 v2 v3 v4 v5 v6 v7:V):vl e 10704 1 [v0,v1,v2,v3,v4,v5,v6,v7]=y.zq39_h0 (vl e) v0 v1 v2 v3 v4 v5 v6 v7:=Zab (s.zq39_h0 e _ v0 v1 v2 v3 v4 v5 v6 v7)
noncomputable def y.zq39_h0_26 (Γ:Gam)(v0 v1 v2 v3 v4 v5 v6 v7 v8 v9:V):Option V:=
 pr (.bin .lss .no) [v4,v3] fun v10=>vif v10 (pr (.elem 34) [v2,v4] fun v11=>pr (.ld (some 34) 0) [v11] fun v12=>pr (.cat [some 34]) [v12] fun v13=>pr (.bin .eql .no) [v6, .int .i64 0] fun v14=>vif v14 (some (.tup [.int .i64 3,v5,v6,v7,v8,v9])) (pr (.bin .sub .no) [v6, .int .i64 1] fun v15=>pr (.ld none 0) [v13] fun v16=>pr (.bsl 1) [v0,v16] fun v17=>ca Γ 61 [v17] fun v18=>pr (.ld none 1) [v13] fun v19=>pr (.un .not) [v19] fun v20=>vif v20 (pr (.ld (some 32) 2) [v13] fun v21=>pr (.cat [none,some 32]) [v18,v21] fun v22=>pr (.bsl 33) [v22] fun v23=>pr (.app 33) [v5,v23] fun v24=>pr (.bin .add .no) [v4, .int .i64 1] fun v25=>Γ 10704 26 [v0,v1,v2,v3,v25,v24,v15,v7,v8,v9]) (pr (.ld (some 32) 2) [v13] fun v21=>pr (.bin .add .no) [v1, .int .i64 1] fun v22=>ch Γ 10704 [v18,v21,v22,v5,v15,v7,v8,v9] fun v23=>pr (.ext 0) [v23] fun v24=>pr (.ext 1) [v23] fun v25=>pr (.ext 2) [v23] fun v26=>pr (.ext 3) [v23] fun v27=>pr (.ext 4) [v23] fun v28=>pr (.ext 5) [v23] fun v29=>pr (.bin .neq .no) [v24, .int .i64 0] fun v30=>vif v30 (some (.tup [v24,v25,v26,v27,v28,v29])) (pr (.bin .add .no) [v4, .int .i64 1] fun v31=>Γ 10704 26 [v0,v1,v2,v3,v31,v25,v26,v27,v28,v29])))) (some (.tup [.int .i64 0,v5,v6,v7,v8,v9]))
theorem s.zq39_h0_26 (e:Ev)(Γ:Gam)(v0 v1 v2 v3 v4 v5 v6 v7 v8 v9:V):stp e Γ 10704 26 [v0,v1,v2,v3,v4,v5,v6,v7,v8,v9]=y.zq39_h0_26 Γ v0 v1 v2 v3 v4 v5 v6 v7 v8 v9:=by kernel_rfl
theorem w.zq39_h0_26 (e:Ev)(v0 v1 v2 v3 v4 v5 v6 v7 v8 v9:V):vl e 10704 26 [v0,v1,v2,v3,v4,v5,v6,v7,v8,v9]=y.zq39_h0_26 (vl e) v0 v1 v2 v3 v4 v5 v6 v7 v8 v9:=Zab (s.zq39_h0_26 e _ v0 v1 v2 v3 v4 v5 v6 v7 v8 v9)
noncomputable def y.zq75_h1 (Γ:Gam)(v0 v1 v2 v3:V):Option V:=
 Γ 10849 8 [v0,v1,v2, .int .i64 20, .int .i64 0, .int .i64 20,v3]
theorem s.zq75_h1 (e:Ev)(Γ:Gam)(v0 v1 v2 v3:V):stp e Γ 10849 1 [v0,v1,v2,v3]=y.zq75_h1 Γ v0 v1 v2 v3:=by kernel_rfl
theorem w.zq75_h1 (e:Ev)(v0 v1 v2 v3:V):vl e 10849 1 [v0,v1,v2,v3]=y.zq75_h1 (vl e) v0 v1 v2 v3:=Zab (s.zq75_h1 e _ v0 v1 v2 v3)
noncomputable def y.zq75_h1_8 (Γ:Gam)(v0 v1 v2 v3 v4 v5 v6:V):Option V:=
 pr (.bin .leq .no) [v5,v1] fun v7=>vif v7 (ch Γ 11137 [v0,v4,v5,v2,v6] fun v8=>pr (.bin .add .no) [v5,v3] fun v10=>Γ 10849 8 [v0,v1,v2,v3,v5,v10,v8]) (ch Γ 11137 [v0,v4,v1,v2,v6] fun v8=>Γ 10849 24 [v0,v1,v2,v3,v8])
theorem s.zq75_h1_8 (e:Ev)(Γ:Gam)(v0 v1 v2 v3 v4 v5 v6:V):stp e Γ 10849 8 [v0,v1,v2,v3,v4,v5,v6]=y.zq75_h1_8 Γ v0 v1 v2 v3 v4 v5 v6:=by kernel_rfl
theorem w.zq75_h1_8 (e:Ev)(v0 v1 v2 v3 v4 v5 v6:V):vl e 10849 8 [v0,v1,v2,v3,v4,v5,v6]=y.zq75_h1_8 (vl e) v0 v1 v2 v3 v4 v5 v6:=Zab (s.zq75_h1_8 e _ v0 v1 v2 v3 v4 v5 v6)
noncomputable def y.zq75_h1_24 (Γ:Gam)(v0 v1 v2 v3 v4:V):Option V:=
 pr (.bin .lss .no) [v3,v1] fun v5=>vif v5 (pr (.bin .mul .no) [.int .i64 2,v3] fun v6=>Γ 10849 36 [v0,v1,v2,v3, .int .i64 0,v6,v4]) (some v4)
theorem s.zq75_h1_24 (e:Ev)(Γ:Gam)(v0 v1 v2 v3 v4:V):stp e Γ 10849 24 [v0,v1,v2,v3,v4]=y.zq75_h1_24 Γ v0 v1 v2 v3 v4:=by kernel_rfl
theorem w.zq75_h1_24 (e:Ev)(v0 v1 v2 v3 v4:V):vl e 10849 24 [v0,v1,v2,v3,v4]=y.zq75_h1_24 (vl e) v0 v1 v2 v3 v4:=Zab (s.zq75_h1_24 e _ v0 v1 v2 v3 v4)
noncomputable def y.zq75_h1_36 (Γ:Gam)(v0 v1 v2 v3 v4 v5 v6:V):Option V:=
 pr (.bin .leq .no) [v5,v1] fun v7=>vif v7 (pr (.bin .add .no) [v4,v3] fun v8=>ch Γ 11153 [v0,v4,v8,v5,v2,v6] fun v9=>pr (.bin .mul .no) [.int .i64 2,v3] fun v11=>pr (.bin .add .no) [v5,v11] fun v12=>Γ 10849 36 [v0,v1,v2,v3,v5,v12,v9]) (pr (.bin .add .no) [v4,v3] fun v8=>pr (.bin .lss .no) [v8,v1] fun v9=>vif v9 (ch Γ 11153 [v0,v4,v8,v1,v2,v6] fun v10=>pr (.bin .mul .no) [v3, .int .i64 2] fun v12=>Γ 10849 24 [v0,v1,v2,v12,v10]) (pr (.bin .mul .no) [v3, .int .i64 2] fun v10=>Γ 10849 24 [v0,v1,v2,v10,v6]))
theorem s.zq75_h1_36 (e:Ev)(Γ:Gam)(v0 v1 v2 v3 v4 v5 v6:V):stp e Γ 10849 36 [v0,v1,v2,v3,v4,v5,v6]=y.zq75_h1_36 Γ v0 v1 v2 v3 v4 v5 v6:=by kernel_rfl
theorem w.zq75_h1_36 (e:Ev)(v0 v1 v2 v3 v4 v5 v6:V):vl e 10849 36 [v0,v1,v2,v3,v4,v5,v6]=y.zq75_h1_36 (vl e) v0 v1 v2 v3 v4 v5 v6:=Zab (s.zq75_h1_36 e _ v0 v1 v2 v3 v4 v5 v6)
noncomputable def y.zq37_h0 (Γ:Gam)(v0 v1 v2 v3:V):Option V:=
 pr .scs [v0] fun v4=>pr (.ld (some 32) 0) [v4] fun v5=>pr (.mlk (true,(repl 32 ((some .u8,true)))) (.str []) true) [v2,v5] fun v6=>pr (.ext 0) [v6] fun v7=>pr (.ext 1) [v6] fun v8=>pr (.un .not) [v8] fun v9=>vif v9 (some (.tup [.sl false 34 [], .int .i64 5,v1,v2,v3])) (ca Γ 87 [v7] fun v10=>pr (.ext 0) [v10] fun v11=>pr (.ext 1) [v10] fun v12=>some (.tup [v11,v12,v1,v2,v3]))
theorem s.zq37_h0 (e:Ev)(Γ:Gam)(v0 v1 v2 v3:V):stp e Γ 11056 1 [v0,v1,v2,v3]=y.zq37_h0 Γ v0 v1 v2 v3:=by kernel_rfl
theorem w.zq37_h0 (e:Ev)(v0 v1 v2 v3:V):vl e 11056 1 [v0,v1,v2,v3]=y.zq37_h0 (vl e) v0 v1 v2 v3:=Zab (s.zq37_h0 e _ v0 v1 v2 v3)
noncomputable def y.zq73_h1 (Γ:Gam)(v0 v1 v2 v3 v4:V):Option V:=
 pr (.bin .add .no) [v1, .int .i64 1] fun v5=>Γ 11137 5 [v0,v1,v2,v3,v5,v4]
theorem s.zq73_h1 (e:Ev)(Γ:Gam)(v0 v1 v2 v3 v4:V):stp e Γ 11137 1 [v0,v1,v2,v3,v4]=y.zq73_h1 Γ v0 v1 v2 v3 v4:=by kernel_rfl
theorem w.zq73_h1 (e:Ev)(v0 v1 v2 v3 v4:V):vl e 11137 1 [v0,v1,v2,v3,v4]=y.zq73_h1 (vl e) v0 v1 v2 v3 v4:=Zab (s.zq73_h1 e _ v0 v1 v2 v3 v4)
noncomputable def y.zq73_h1_5 (Γ:Gam)(v0 v1 v2 v3 v4 v5:V):Option V:=
 pr (.bin .lss .no) [v4,v2] fun v6=>vif v6 (Γ 11137 17 [v0,v1,v2,v3,v4,v4,v5]) (some v5)
theorem s.zq73_h1_5 (e:Ev)(Γ:Gam)(v0 v1 v2 v3 v4 v5:V):stp e Γ 11137 5 [v0,v1,v2,v3,v4,v5]=y.zq73_h1_5 Γ v0 v1 v2 v3 v4 v5:=by kernel_rfl
theorem w.zq73_h1_5 (e:Ev)(v0 v1 v2 v3 v4 v5:V):vl e 11137 5 [v0,v1,v2,v3,v4,v5]=y.zq73_h1_5 (vl e) v0 v1 v2 v3 v4 v5:=Zab (s.zq73_h1_5 e _ v0 v1 v2 v3 v4 v5)
noncomputable def y.zq73_h1_17 (Γ:Gam)(v0 v1 v2 v3 v4 v5 v6:V):Option V:=
 pr (.bin .gtr .no) [v5,v1] fun v7=>vif v7 (pr .chkd [v0,v5] fun v8=>pr (.ldd (some 2) 0 2) [v6,v8] fun v9=>pr (.bin .sub .no) [v5, .int .i64 1] fun v10=>pr .chkd [v0,v10] fun v11=>pr (.ldd (some 2) 0 2) [v6,v11] fun v12=>cv Γ v3 [v9,v12] fun v13=>pr (.bin .lss .no) [v13, .int .i64 0] fun v14=>vif v14 (pr (.bin .sub .no) [v5, .int .i64 1] fun v15=>pr (.bin .sub .no) [v5, .int .i64 1] fun v16=>pr .chkd [v0,v16] fun v17=>pr (.ldd (some 2) 0 2) [v6,v17] fun v18=>pr .chkd [v0,v5] fun v19=>pr (.ldd (some 2) 0 2) [v6,v19] fun v20=>pr .chkd [v0,v5] fun v21=>pr (.std 2 0 2) [v6,v21,v18] fun v22=>pr .chkd [v0,v15] fun v23=>pr (.std 2 0 2) [v22,v23,v20] fun v24=>pr (.bin .sub .no) [v5, .int .i64 1] fun v25=>Γ 11137 17 [v0,v1,v2,v3,v4,v25,v24]) (pr (.bin .add .no) [v4, .int .i64 1] fun v15=>Γ 11137 5 [v0,v1,v2,v3,v15,v6])) (pr (.bin .add .no) [v4, .int .i64 1] fun v8=>Γ 11137 5 [v0,v1,v2,v3,v8,v6])
theorem s.zq73_h1_17 (e:Ev)(Γ:Gam)(v0 v1 v2 v3 v4 v5 v6:V):stp e Γ 11137 17 [v0,v1,v2,v3,v4,v5,v6]=y.zq73_h1_17 Γ v0 v1 v2 v3 v4 v5 v6:=by kernel_rfl
theorem w.zq73_h1_17 (e:Ev)(v0 v1 v2 v3 v4 v5 v6:V):vl e 11137 17 [v0,v1,v2,v3,v4,v5,v6]=y.zq73_h1_17 (vl e) v0 v1 v2 v3 v4 v5 v6:=Zab (s.zq73_h1_17 e _ v0 v1 v2 v3 v4 v5 v6)
noncomputable def y.zq77_h1 (Γ:Gam)(v0 v1 v2 v3 v4 v5:V):Option V:=
 pr (.bin .sub .no) [v2,v1] fun v6=>pr (.bin .eql .no) [v6, .int .i64 1] fun v7=>vif v7 (Γ 11153 12 [v0,v1,v4,v2,v3,v5]) (pr (.bin .sub .no) [v3,v2] fun v8=>pr (.bin .eql .no) [v8, .int .i64 1] fun v9=>vif v9 (Γ 11153 54 [v0,v2,v4,v1,v2,v5]) (pr (.bin .add .no) [v1,v3] fun v10=>pr (.i2i .u64) [v10] fun v11=>pr (.bin .shr .no) [v11, .int .u64 1] fun v12=>pr (.i2i .i64) [v12] fun v13=>pr (.bin .add .no) [v13,v2] fun v14=>pr (.bin .gtr .no) [v2,v13] fun v15=>vif v15 (pr (.bin .sub .no) [v14,v3] fun v16=>Γ 11153 102 [v0,v1,v2,v3,v4,v13,v14,v16,v13,v5]) (Γ 11153 102 [v0,v1,v2,v3,v4,v13,v14,v1,v2,v5])))
theorem s.zq77_h1 (e:Ev)(Γ:Gam)(v0 v1 v2 v3 v4 v5:V):stp e Γ 11153 1 [v0,v1,v2,v3,v4,v5]=y.zq77_h1 Γ v0 v1 v2 v3 v4 v5:=by kernel_rfl
theorem w.zq77_h1 (e:Ev)(v0 v1 v2 v3 v4 v5:V):vl e 11153 1 [v0,v1,v2,v3,v4,v5]=y.zq77_h1 (vl e) v0 v1 v2 v3 v4 v5:=Zab (s.zq77_h1 e _ v0 v1 v2 v3 v4 v5)
noncomputable def y.zq77_h1_12 (Γ:Gam)(v0 v1 v2 v3 v4 v5:V):Option V:=
 pr (.bin .lss .no) [v3,v4] fun v6=>vif v6 (pr (.bin .add .no) [v3,v4] fun v7=>pr (.i2i .u64) [v7] fun v8=>pr (.bin .shr .no) [v8, .int .u64 1] fun v9=>pr (.i2i .i64) [v9] fun v10=>pr .chkd [v0,v10] fun v11=>pr (.ldd (some 2) 0 2) [v5,v11] fun v12=>pr .chkd [v0,v1] fun v13=>pr (.ldd (some 2) 0 2) [v5,v13] fun v14=>cv Γ v2 [v12,v14] fun v15=>pr (.bin .lss .no) [v15, .int .i64 0] fun v16=>vif v16 (pr (.bin .add .no) [v10, .int .i64 1] fun v17=>Γ 11153 12 [v0,v1,v2,v17,v4,v5]) (Γ 11153 12 [v0,v1,v2,v3,v10,v5])) (Γ 11153 31 [v0,v3,v1,v5])
theorem s.zq77_h1_12 (e:Ev)(Γ:Gam)(v0 v1 v2 v3 v4 v5:V):stp e Γ 11153 12 [v0,v1,v2,v3,v4,v5]=y.zq77_h1_12 Γ v0 v1 v2 v3 v4 v5:=by kernel_rfl
theorem w.zq77_h1_12 (e:Ev)(v0 v1 v2 v3 v4 v5:V):vl e 11153 12 [v0,v1,v2,v3,v4,v5]=y.zq77_h1_12 (vl e) v0 v1 v2 v3 v4 v5:=Zab (s.zq77_h1_12 e _ v0 v1 v2 v3 v4 v5)
noncomputable def y.zq77_h1_31 (Γ:Gam)(v0 v1 v2 v3:V):Option V:=
 pr (.bin .sub .no) [v1, .int .i64 1] fun v4=>pr (.bin .lss .no) [v2,v4] fun v5=>vif v5 (pr (.bin .add .no) [v2, .int .i64 1] fun v6=>pr (.bin .add .no) [v2, .int .i64 1] fun v7=>pr .chkd [v0,v7] fun v8=>pr (.ldd (some 2) 0 2) [v3,v8] fun v9=>pr .chkd [v0,v2] fun v10=>pr (.ldd (some 2) 0 2) [v3,v10] fun v11=>pr .chkd [v0,v2] fun v12=>pr (.std 2 0 2) [v3,v12,v9] fun v13=>pr .chkd [v0,v6] fun v14=>pr (.std 2 0 2) [v13,v14,v11] fun v15=>pr (.bin .add .no) [v2, .int .i64 1] fun v16=>Γ 11153 31 [v0,v1,v16,v15]) (some v3)
theorem s.zq77_h1_31 (e:Ev)(Γ:Gam)(v0 v1 v2 v3:V):stp e Γ 11153 31 [v0,v1,v2,v3]=y.zq77_h1_31 Γ v0 v1 v2 v3:=by kernel_rfl
theorem w.zq77_h1_31 (e:Ev)(v0 v1 v2 v3:V):vl e 11153 31 [v0,v1,v2,v3]=y.zq77_h1_31 (vl e) v0 v1 v2 v3:=Zab (s.zq77_h1_31 e _ v0 v1 v2 v3)
noncomputable def y.zq77_h1_54 (Γ:Gam)(v0 v1 v2 v3 v4 v5:V):Option V:=
 pr (.bin .lss .no) [v3,v4] fun v6=>vif v6 (pr (.bin .add .no) [v3,v4] fun v7=>pr (.i2i .u64) [v7] fun v8=>pr (.bin .shr .no) [v8, .int .u64 1] fun v9=>pr (.i2i .i64) [v9] fun v10=>pr .chkd [v0,v1] fun v11=>pr (.ldd (some 2) 0 2) [v5,v11] fun v12=>pr .chkd [v0,v10] fun v13=>pr (.ldd (some 2) 0 2) [v5,v13] fun v14=>cv Γ v2 [v12,v14] fun v15=>pr (.bin .lss .no) [v15, .int .i64 0] fun v16=>pr (.un .not) [v16] fun v17=>vif v17 (pr (.bin .add .no) [v10, .int .i64 1] fun v18=>Γ 11153 54 [v0,v1,v2,v18,v4,v5]) (Γ 11153 54 [v0,v1,v2,v3,v10,v5])) (Γ 11153 73 [v0,v3,v1,v5])
theorem s.zq77_h1_54 (e:Ev)(Γ:Gam)(v0 v1 v2 v3 v4 v5:V):stp e Γ 11153 54 [v0,v1,v2,v3,v4,v5]=y.zq77_h1_54 Γ v0 v1 v2 v3 v4 v5:=by kernel_rfl
theorem w.zq77_h1_54 (e:Ev)(v0 v1 v2 v3 v4 v5:V):vl e 11153 54 [v0,v1,v2,v3,v4,v5]=y.zq77_h1_54 (vl e) v0 v1 v2 v3 v4 v5:=Zab (s.zq77_h1_54 e _ v0 v1 v2 v3 v4 v5)
noncomputable def y.zq77_h1_73 (Γ:Gam)(v0 v1 v2 v3:V):Option V:=
 pr (.bin .gtr .no) [v2,v1] fun v4=>vif v4 (pr (.bin .sub .no) [v2, .int .i64 1] fun v5=>pr (.bin .sub .no) [v2, .int .i64 1] fun v6=>pr .chkd [v0,v6] fun v7=>pr (.ldd (some 2) 0 2) [v3,v7] fun v8=>pr .chkd [v0,v2] fun v9=>pr (.ldd (some 2) 0 2) [v3,v9] fun v10=>pr .chkd [v0,v2] fun v11=>pr (.std 2 0 2) [v3,v11,v8] fun v12=>pr .chkd [v0,v5] fun v13=>pr (.std 2 0 2) [v12,v13,v10] fun v14=>pr (.bin .sub .no) [v2, .int .i64 1] fun v15=>Γ 11153 73 [v0,v1,v15,v14]) (some v3)
theorem s.zq77_h1_73 (e:Ev)(Γ:Gam)(v0 v1 v2 v3:V):stp e Γ 11153 73 [v0,v1,v2,v3]=y.zq77_h1_73 Γ v0 v1 v2 v3:=by kernel_rfl
theorem w.zq77_h1_73 (e:Ev)(v0 v1 v2 v3:V):vl e 11153 73 [v0,v1,v2,v3]=y.zq77_h1_73 (vl e) v0 v1 v2 v3:=Zab (s.zq77_h1_73 e _ v0 v1 v2 v3)
noncomputable def y.zq77_h1_102 (Γ:Gam)(v0 v1 v2 v3 v4 v5 v6 v7 v8 v9:V):Option V:=
 pr (.bin .sub .no) [v6, .int .i64 1] fun v10=>Γ 11153 106 [v0,v1,v2,v3,v4,v5,v6,v7,v8,v10,v9]
theorem s.zq77_h1_102 (e:Ev)(Γ:Gam)(v0 v1 v2 v3 v4 v5 v6 v7 v8 v9:V):stp e Γ 11153 102 [v0,v1,v2,v3,v4,v5,v6,v7,v8,v9]=y.zq77_h1_102 Γ v0 v1 v2 v3 v4 v5 v6 v7 v8 v9:=by kernel_rfl
theorem w.zq77_h1_102 (e:Ev)(v0 v1 v2 v3 v4 v5 v6 v7 v8 v9:V):vl e 11153 102 [v0,v1,v2,v3,v4,v5,v6,v7,v8,v9]=y.zq77_h1_102 (vl e) v0 v1 v2 v3 v4 v5 v6 v7 v8 v9:=Zab (s.zq77_h1_102 e _ v0 v1 v2 v3 v4 v5 v6 v7 v8 v9)
noncomputable def y.zq77_h1_106 (Γ:Gam)(v0 v1 v2 v3 v4 v5 v6 v7 v8 v9 v10:V):Option V:=
 pr (.bin .lss .no) [v7,v8] fun v11=>vif v11 (pr (.bin .add .no) [v7,v8] fun v12=>pr (.i2i .u64) [v12] fun v13=>pr (.bin .shr .no) [v13, .int .u64 1] fun v14=>pr (.i2i .i64) [v14] fun v15=>pr (.bin .sub .no) [v9,v15] fun v16=>pr .chkd [v0,v16] fun v17=>pr (.ldd (some 2) 0 2) [v10,v17] fun v18=>pr .chkd [v0,v15] fun v19=>pr (.ldd (some 2) 0 2) [v10,v19] fun v20=>cv Γ v4 [v18,v20] fun v21=>pr (.bin .lss .no) [v21, .int .i64 0] fun v22=>pr (.un .not) [v22] fun v23=>vif v23 (pr (.bin .add .no) [v15, .int .i64 1] fun v24=>Γ 11153 106 [v0,v1,v2,v3,v4,v5,v6,v24,v8,v9,v10]) (Γ 11153 106 [v0,v1,v2,v3,v4,v5,v6,v7,v15,v9,v10])) (pr (.bin .sub .no) [v6,v7] fun v12=>pr (.bin .lss .no) [v7,v2] fun v13=>vif v13 (pr (.bin .lss .no) [v2,v12] fun v14=>vif v14 (ch Γ 11473 [v0,v7,v2,v12,v4,v10] fun v15=>Γ 11153 129 [v0,v1,v3,v4,v5,v7,v12,v15]) (Γ 11153 129 [v0,v1,v3,v4,v5,v7,v12,v10])) (Γ 11153 129 [v0,v1,v3,v4,v5,v7,v12,v10]))
theorem s.zq77_h1_106 (e:Ev)(Γ:Gam)(v0 v1 v2 v3 v4 v5 v6 v7 v8 v9 v10:V):stp e Γ 11153 106 [v0,v1,v2,v3,v4,v5,v6,v7,v8,v9,v10]=y.zq77_h1_106 Γ v0 v1 v2 v3 v4 v5 v6 v7 v8 v9 v10:=by kernel_rfl
theorem w.zq77_h1_106 (e:Ev)(v0 v1 v2 v3 v4 v5 v6 v7 v8 v9 v10:V):vl e 11153 106 [v0,v1,v2,v3,v4,v5,v6,v7,v8,v9,v10]=y.zq77_h1_106 (vl e) v0 v1 v2 v3 v4 v5 v6 v7 v8 v9 v10:=Zab (s.zq77_h1_106 e _ v0 v1 v2 v3 v4 v5 v6 v7 v8 v9 v10)
noncomputable def y.zq77_h1_129 (Γ:Gam)(v0 v1 v2 v3 v4 v5 v6 v7:V):Option V:=
 pr (.bin .lss .no) [v1,v5] fun v8=>vif v8 (pr (.bin .lss .no) [v5,v4] fun v9=>vif v9 (ch Γ 11153 [v0,v1,v5,v4,v3,v7] fun v10=>pr (.bin .lss .no) [v4,v6] fun v12=>vif v12 (pr (.bin .lss .no) [v6,v2] fun v13=>vif v13 (ch Γ 11153 [v0,v4,v6,v2,v3,v10] fun v14=>some v14) (some v10)) (some v10)) (pr (.bin .lss .no) [v4,v6] fun v10=>vif v10 (pr (.bin .lss .no) [v6,v2] fun v11=>vif v11 (ch Γ 11153 [v0,v4,v6,v2,v3,v7] fun v12=>some v12) (some v7)) (some v7))) (pr (.bin .lss .no) [v4,v6] fun v9=>vif v9 (pr (.bin .lss .no) [v6,v2] fun v10=>vif v10 (ch Γ 11153 [v0,v4,v6,v2,v3,v7] fun v11=>some v11) (some v7)) (some v7))
theorem s.zq77_h1_129 (e:Ev)(Γ:Gam)(v0 v1 v2 v3 v4 v5 v6 v7:V):stp e Γ 11153 129 [v0,v1,v2,v3,v4,v5,v6,v7]=y.zq77_h1_129 Γ v0 v1 v2 v3 v4 v5 v6 v7:=by kernel_rfl
theorem w.zq77_h1_129 (e:Ev)(v0 v1 v2 v3 v4 v5 v6 v7:V):vl e 11153 129 [v0,v1,v2,v3,v4,v5,v6,v7]=y.zq77_h1_129 (vl e) v0 v1 v2 v3 v4 v5 v6 v7:=Zab (s.zq77_h1_129 e _ v0 v1 v2 v3 v4 v5 v6 v7)
noncomputable def y.zq74_h1 (Γ:Gam)(v0 v1 v2 v3 v4 v5:V):Option V:=
 pr (.bin .sub .no) [v2,v1] fun v6=>pr (.bin .sub .no) [v3,v2] fun v7=>Γ 11473 8 [v0,v2,v4,v6,v7,v5]
theorem s.zq74_h1 (e:Ev)(Γ:Gam)(v0 v1 v2 v3 v4 v5:V):stp e Γ 11473 1 [v0,v1,v2,v3,v4,v5]=y.zq74_h1 Γ v0 v1 v2 v3 v4 v5:=by kernel_rfl
theorem w.zq74_h1 (e:Ev)(v0 v1 v2 v3 v4 v5:V):vl e 11473 1 [v0,v1,v2,v3,v4,v5]=y.zq74_h1 (vl e) v0 v1 v2 v3 v4 v5:=Zab (s.zq74_h1 e _ v0 v1 v2 v3 v4 v5)
noncomputable def y.zq74_h1_8 (Γ:Gam)(v0 v1 v2 v3 v4 v5:V):Option V:=
 pr (.bin .neq .no) [v3,v4] fun v6=>vif v6 (pr (.bin .gtr .no) [v3,v4] fun v7=>vif v7 (pr (.bin .sub .no) [v1,v3] fun v8=>ch Γ 11745 [v0,v8,v1,v4,v2,v5] fun v9=>pr (.bin .sub .no) [v3,v4] fun v11=>Γ 11473 8 [v0,v1,v2,v11,v4,v9]) (pr (.bin .sub .no) [v1,v3] fun v8=>pr (.bin .add .no) [v1,v4] fun v9=>pr (.bin .sub .no) [v9,v3] fun v10=>ch Γ 11745 [v0,v8,v10,v3,v2,v5] fun v11=>pr (.bin .sub .no) [v4,v3] fun v13=>Γ 11473 8 [v0,v1,v2,v3,v13,v11])) (pr (.bin .sub .no) [v1,v3] fun v7=>ch Γ 11745 [v0,v7,v1,v3,v2,v5] fun v8=>some v8)
theorem s.zq74_h1_8 (e:Ev)(Γ:Gam)(v0 v1 v2 v3 v4 v5:V):stp e Γ 11473 8 [v0,v1,v2,v3,v4,v5]=y.zq74_h1_8 Γ v0 v1 v2 v3 v4 v5:=by kernel_rfl
theorem w.zq74_h1_8 (e:Ev)(v0 v1 v2 v3 v4 v5:V):vl e 11473 8 [v0,v1,v2,v3,v4,v5]=y.zq74_h1_8 (vl e) v0 v1 v2 v3 v4 v5:=Zab (s.zq74_h1_8 e _ v0 v1 v2 v3 v4 v5)
noncomputable def y.zq76_h1 (Γ:Gam)(v0 v1 v2 v3 v4 v5:V):Option V:=
 Γ 11745 5 [v0,v1,v2,v3, .int .i64 0,v5]
theorem s.zq76_h1 (e:Ev)(Γ:Gam)(v0 v1 v2 v3 v4 v5:V):stp e Γ 11745 1 [v0,v1,v2,v3,v4,v5]=y.zq76_h1 Γ v0 v1 v2 v3 v4 v5:=by kernel_rfl
theorem w.zq76_h1 (e:Ev)(v0 v1 v2 v3 v4 v5:V):vl e 11745 1 [v0,v1,v2,v3,v4,v5]=y.zq76_h1 (vl e) v0 v1 v2 v3 v4 v5:=Zab (s.zq76_h1 e _ v0 v1 v2 v3 v4 v5)
noncomputable def y.zq76_h1_5 (Γ:Gam)(v0 v1 v2 v3 v4 v5:V):Option V:=
 pr (.bin .lss .no) [v4,v3] fun v6=>vif v6 (pr (.bin .add .no) [v1,v4] fun v7=>pr (.bin .add .no) [v2,v4] fun v8=>pr (.bin .add .no) [v2,v4] fun v9=>pr .chkd [v0,v9] fun v10=>pr (.ldd (some 2) 0 2) [v5,v10] fun v11=>pr (.bin .add .no) [v1,v4] fun v12=>pr .chkd [v0,v12] fun v13=>pr (.ldd (some 2) 0 2) [v5,v13] fun v14=>pr .chkd [v0,v7] fun v15=>pr (.std 2 0 2) [v5,v15,v11] fun v16=>pr .chkd [v0,v8] fun v17=>pr (.std 2 0 2) [v16,v17,v14] fun v18=>pr (.bin .add .no) [v4, .int .i64 1] fun v19=>Γ 11745 5 [v0,v1,v2,v3,v19,v18]) (some v5)
theorem s.zq76_h1_5 (e:Ev)(Γ:Gam)(v0 v1 v2 v3 v4 v5:V):stp e Γ 11745 5 [v0,v1,v2,v3,v4,v5]=y.zq76_h1_5 Γ v0 v1 v2 v3 v4 v5:=by kernel_rfl
theorem w.zq76_h1_5 (e:Ev)(v0 v1 v2 v3 v4 v5:V):vl e 11745 5 [v0,v1,v2,v3,v4,v5]=y.zq76_h1_5 (vl e) v0 v1 v2 v3 v4 v5:=Zab (s.zq76_h1_5 e _ v0 v1 v2 v3 v4 v5)
end Go.Proofs.YtpmgdngjbdkdfaaGreatDoor
namespace Go.Proofs.YtpmgdngjbdkdfaaGreatDoor
open Go.Abs
noncomputable def y.zq30_h0 (Γ:Gam)(v0 v1 v2 v3:V):Option V:=
 pr .scs [v0] fun v4=>pr (.ld (some 32) 0) [v4] fun v5=>pr (.mlk (true,(repl 32 ((some .u8,true)))) (.str []) true) [v1,v5] fun v6=>pr (.ext 0) [v6] fun v7=>pr (.ext 1) [v6] fun v8=>pr (.un .not) [v8] fun v9=>vif v9 (some (.tup [.str [], .int .i64 5,v1,v2,v3])) (some (.tup [v7, .int .i64 0,v1,v2,v3]))
theorem s.zq30_h0 (e:Ev)(Γ:Gam)(v0 v1 v2 v3:V):stp e Γ 10336 1 [v0,v1,v2,v3]=y.zq30_h0 Γ v0 v1 v2 v3:=by kernel_rfl
theorem w.zq30_h0 (e:Ev)(v0 v1 v2 v3:V):vl e 10336 1 [v0,v1,v2,v3]=y.zq30_h0 (vl e) v0 v1 v2 v3:=Zab (s.zq30_h0 e _ v0 v1 v2 v3)
noncomputable def y.zq36_h0 (Γ:Gam)(v0 v1 v2:V):Option V:=
 pr .mln [v0] fun v3=>pr .mln [v1] fun v4=>pr (.bin .add .no) [v3,v4] fun v5=>pr .mln [v2] fun v6=>pr (.bin .add .no) [v5,v6] fun v7=>some (.tup [v7,v0,v1,v2])
theorem s.zq36_h0 (e:Ev)(Γ:Gam)(v0 v1 v2:V):stp e Γ 10448 1 [v0,v1,v2]=y.zq36_h0 Γ v0 v1 v2:=by kernel_rfl
theorem w.zq36_h0 (e:Ev)(v0 v1 v2:V):vl e 10448 1 [v0,v1,v2]=y.zq36_h0 (vl e) v0 v1 v2:=Zab (s.zq36_h0 e _ v0 v1 v2)
noncomputable def y.zq38_h0 (Γ:Gam)(v0 v1 v2 v3 v4 v5 v6:V):Option V:=
 Γ 10624 8 [v0,v1,v2, .sl false 34 [],v3,v4,v5,v6,(.agg (repl 32 (.int .u8 0)))]
theorem s.zq38_h0 (e:Ev)(Γ:Gam)(v0 v1 v2 v3 v4 v5 v6:V):stp e Γ 10624 1 [v0,v1,v2,v3,v4,v5,v6]=y.zq38_h0 Γ v0 v1 v2 v3 v4 v5 v6:=by kernel_rfl
theorem w.zq38_h0 (e:Ev)(v0 v1 v2 v3 v4 v5 v6:V):vl e 10624 1 [v0,v1,v2,v3,v4,v5,v6]=y.zq38_h0 (vl e) v0 v1 v2 v3 v4 v5 v6:=Zab (s.zq38_h0 e _ v0 v1 v2 v3 v4 v5 v6)
noncomputable def y.zq38_h0_8 (Γ:Gam)(v0 v1 v2 v3 v4 v5 v6 v7 v8:V):Option V:=
 pr .vlen [v1,v2] fun v9=>pr (.bin .gtr .no) [v9, .int .i64 0] fun v10=>vif v10 (pr .vidx [v1,v2, .int .i64 0] fun v11=>pr (.ldd none 0 2) [v4,v11] fun v12=>ca Γ 38 [v0,v12] fun v13=>pr (.ext 0) [v13] fun v14=>pr (.ext 1) [v13] fun v15=>ca Γ 55 [v14] fun v16=>pr (.elem 1) [v16, .int .i64 0] fun v17=>pr (.ld none 0) [v17] fun v18=>pr (.bin .eql .no) [v18,v14] fun v19=>vif v19 (pr .vidx [v1,v2, .int .i64 0] fun v20=>pr (.ldd none 1 2) [v4,v20] fun v21=>ch Γ 10224 [v21,v5,v6,v7] fun v22=>pr (.ext 0) [v22] fun v23=>pr (.ext 1) [v22] fun v24=>pr (.ext 2) [v22] fun v25=>pr (.ext 3) [v22] fun v26=>pr (.ext 4) [v22] fun v27=>pr (.cat [some 32]) [v23] fun v28=>pr (.bin .neq .no) [v24, .int .i64 0] fun v29=>vif v29 (pr (.cat [some 32]) [v28] fun v30=>some (.tup [v30,v24,v4,v25,v26,v27])) (pr (.cat [none,some 32]) [v18,v28] fun v30=>pr (.cat [none,none,some 32]) [v18, .bool false,v28] fun v31=>pr (.bsl 34) [v31] fun v32=>pr (.app 34) [v3,v32] fun v33=>pr .vadd [v1,v2, .int .i64 1] fun v34=>Γ 10624 8 [v0,v34,v2,v33,v4,v25,v26,v27,v8])) (pr (.bsl 1) [v0,v18] fun v20=>ca Γ 61 [v20] fun v21=>Γ 10624 44 [v0,v1,v2,v3,v18,v21, .int .i64 0,v4,v5,v6,v7,v8])) (ch Γ 10256 [v3,v5,v6,v7] fun v11=>pr (.ext 0) [v11] fun v12=>pr (.ext 1) [v11] fun v13=>pr (.ext 2) [v11] fun v14=>pr (.ext 3) [v11] fun v15=>pr (.ext 4) [v11] fun v16=>pr (.cat [some 32]) [v12] fun v17=>some (.tup [v17,v13,v4,v14,v15,v16]))
theorem s.zq38_h0_8 (e:Ev)(Γ:Gam)(v0 v1 v2 v3 v4 v5 v6 v7 v8:V):stp e Γ 10624 8 [v0,v1,v2,v3,v4,v5,v6,v7,v8]=y.zq38_h0_8 Γ v0 v1 v2 v3 v4 v5 v6 v7 v8:=by kernel_rfl
theorem w.zq38_h0_8 (e:Ev)(v0 v1 v2 v3 v4 v5 v6 v7 v8:V):vl e 10624 8 [v0,v1,v2,v3,v4,v5,v6,v7,v8]=y.zq38_h0_8 (vl e) v0 v1 v2 v3 v4 v5 v6 v7 v8:=Zab (s.zq38_h0_8 e _ v0 v1 v2 v3 v4 v5 v6 v7 v8)
noncomputable def y.zq38_h0_44 (Γ:Gam)(v0 v1 v2 v3 v4 v5 v6 v7 v8 v9 v10 v11:V):Option V:=
 pr .vlen [v1,v2] fun v12=>pr (.bin .lss .no) [v6,v12] fun v13=>vif v13 (pr .vidx [v1,v2,v6] fun v14=>pr (.ldd none 0 2) [v7,v14] fun v15=>ca Γ 38 [v5,v15] fun v16=>pr (.ext 0) [v16] fun v17=>pr (.ext 1) [v16] fun v18=>pr (.un .not) [v18] fun v19=>vif v19 (pr .vadd [v1,v2,v6] fun v20=>ch Γ 10624 [v5,v1,v20,v7,v8,v9,v10] fun v21=>pr (.ext 0) [v21] fun v22=>pr (.ext 1) [v21] fun v23=>pr (.ext 2) [v21] fun v24=>pr (.ext 3) [v21] fun v25=>pr (.ext 4) [v21] fun v26=>pr (.ext 5) [v21] fun v27=>pr (.cat [some 32]) [v22] fun v28=>pr (.bin .neq .no) [v23, .int .i64 0] fun v29=>vif v29 (pr (.cat [some 32]) [v28] fun v30=>some (.tup [v30,v23,v24,v25,v26,v27])) (pr (.cat [none,none,some 32]) [v4, .bool true,v28] fun v30=>pr (.bsl 34) [v30] fun v31=>pr (.app 34) [v3,v31] fun v32=>pr .vadd [v1,v2,v6] fun v33=>Γ 10624 8 [v0,v33,v2,v32,v24,v25,v26,v27,v11])) (pr (.bin .add .no) [v6, .int .i64 1] fun v20=>Γ 10624 44 [v0,v1,v2,v3,v4,v5,v20,v7,v8,v9,v10,v11])) (pr .vadd [v1,v2,v6] fun v14=>ch Γ 10624 [v5,v1,v14,v7,v8,v9,v10] fun v15=>pr (.ext 0) [v15] fun v16=>pr (.ext 1) [v15] fun v17=>pr (.ext 2) [v15] fun v18=>pr (.ext 3) [v15] fun v19=>pr (.ext 4) [v15] fun v20=>pr (.ext 5) [v15] fun v21=>pr (.cat [some 32]) [v16] fun v22=>pr (.bin .neq .no) [v17, .int .i64 0] fun v23=>vif v23 (pr (.cat [some 32]) [v22] fun v24=>some (.tup [v24,v17,v18,v19,v20,v21])) (pr (.cat [none,none,some 32]) [v4, .bool true,v22] fun v24=>pr (.bsl 34) [v24] fun v25=>pr (.app 34) [v3,v25] fun v26=>pr .vadd [v1,v2,v6] fun v27=>Γ 10624 8 [v0,v27,v2,v26,v18,v19,v20,v21,v11]))
theorem s.zq38_h0_44 (e:Ev)(Γ:Gam)(v0 v1 v2 v3 v4 v5 v6 v7 v8 v9 v10 v11:V):stp e Γ 10624 44 [v0,v1,v2,v3,v4,v5,v6,v7,v8,v9,v10,v11]=y.zq38_h0_44 Γ v0 v1 v2 v3 v4 v5 v6 v7 v8 v9 v10 v11:=by kernel_rfl
theorem w.zq38_h0_44 (e:Ev)(v0 v1 v2 v3 v4 v5 v6 v7 v8 v9 v10 v11:V):vl e 10624 44 [v0,v1,v2,v3,v4,v5,v6,v7,v8,v9,v10,v11]=y.zq38_h0_44 (vl e) v0 v1 v2 v3 v4 v5 v6 v7 v8 v9 v10 v11:=Zab (s.zq38_h0_44 e _ v0 v1 v2 v3 v4 v5 v6 v7 v8 v9 v10 v11)
end Go.Proofs.YtpmgdngjbdkdfaaGreatDoor

namespace Go.Proofs.YtpmgdngjbdkdfaaGreatDoor
open Go.Abs
theorem Zam {i n:Nat}(h:i<n)(hn:n<=1152921504606846976):IntKind.i64.wrap ((i:Int)+1)=((i+1:Nat):Int):=w64 _ (by omega)
theorem Z9k {x:Bytes}:evp .s2b [.str x]=some (.sl false 1 (encB x)):=rfl
abbrev I (n:Int):V:= .int .i64 n
abbrev strs (l:List Bytes):V:= .sl false 1 (l.map .str)
theorem Znb {l:List Bytes}{x:Bytes}(h:l.length+1<=Lim):evp (.app 1) [strs l, .sl false 1 [.str x]]=some (strs (l++ [x])):=by
 rw[strs,Zlm (by simpa using h)];simp
theorem Zg0 {x:Bytes}:evp (.bsl 1) [.str x]=some (.sl false 1 [.str x]):=rfl
theorem Zen {l:List Bytes}{i:Nat}(h:i<l.length):evp (.elem 1) [strs l, .int .i64 i]=some (.str l[i]):=Zgf (by simp[h])
theorem Zof {x:Bytes}{l:List Bytes}:evp (.elem 1) [strs (x::l), .int .i64 0]=some (.str x):=Zgf (i:=0) rfl
theorem Zdw {x:Bytes}:evp (.ld none 0) [.str x]=some (.str x):=rfl
theorem Zd6 {l:List Bytes}:evp (.len false) [strs l]=some (.int .i64 l.length):=by rw[strs,Zs1,Xcf]
theorem Zus {o:Option V}{v:V}{k:V->Option V}{R:Option V}(h:o=some v)(hk:k v=R):o.bind k=R:=by rw[h];exact hk
theorem Zj8 {k:IntKind}{a b:Int}:evp (.bin .mul .no) [.int k a, .int k b]=some (.int k (k.wrap (a*b))):=by simp[evp,abin,aint]
theorem Zw2 {k:Nat}(h0:k≠0){n:Nat}(h:n<4611686018427387904):evp (.bin .quo .no) [.int .i64 (n:Int), .int .i64 (k:Int)]=some (.int .i64 ((n/k:Nat):Int)):=by
 show(if(k:Int)=0 then none else some (V.int .i64 (IntKind.i64.wrap ((n:Int).tdiv (k:Int)))))=_
 have:=Xe9 n k
 have e1:(n:Int).tdiv (k:Int)=((n/k:Nat):Int):=(Int.ofNat_tdiv n k).symm
 rw[if_neg (by omega),e1]
 generalize n/k=q at*
 rw[w64 _ (by omega)]
theorem Zu0 {k:Nat}(h0:k≠0){n:Nat}:evp (.bin .rem .no) [.int .i64 (n:Int), .int .i64 (k:Int)]=some (.int .i64 ((n % k:Nat):Int)):=by
 show(if(k:Int)=0 then none else some (V.int .i64 ((n:Int).tmod (k:Int))))=_
 rw[if_neg (by omega), <-Xft]
abbrev bsl (l:Bytes):V:= .sl false 1 (l.map byteV)
theorem Ze2 :∀l:Bytes,Zb0 (l.map byteV)=some l
 | []=>rfl
 |c::r=>by
  have ih:=Ze2 r
  have hc:UInt8.ofNat ((c.toNat:Int).toNat)=c:=by rw[Xbu];exact UInt8.ofNat_toNat
  show((Zb0 (r.map byteV)).map (UInt8.ofNat ((c.toNat:Int).toNat):: ·))=_
  rw[ih,hc];rfl
theorem Z4d {l:Bytes}:evp .b2s [bsl l]=some (.str l):=by
 show(Zb0 (l.map byteV)).map V.str=_
 rw[Ze2];rfl
theorem Zy5 {sz:Nat}{l:List V}{i:Nat}(h:i<=l.length):evp (.slc sz true false false) [.sl false sz l, .int .i64 (i:Int)]=some (.sl false sz (l.drop i)):=by
 simp only[evp,Zts,vSlc,vOpt]
 simp[cut3,h]
theorem Zbc {n i:Nat}(h:i<n):evp .chkd [I n,I i]=some (I i):=by
 show(if 0<=(i:Int)/\(i:Int)<(n:Int)then some (V.int .i64 (i:Int))else none)=_
 rw[if_pos (by omega)]
theorem Z0s {n i:Nat}(h:i<=n):evp .chkl [I n,I i]=some (I i):=by
 show(if 0<=(i:Int)/\(i:Int)<=(n:Int)then some (V.int .i64 (i:Int))else none)=_
 rw[if_pos (by omega)]
end Go.Proofs.YtpmgdngjbdkdfaaGreatDoor
namespace Go.Proofs.YtpmgdngjbdkdfaaGreatDoor
open Go.Abs
set_option maxRecDepth 10000
variable {e:Ev}
abbrev Fi :=Bytes×Bytes
abbrev fv (f:Fi):V:= .agg [.str f.1, .str f.2]
def fl :List Fi->List V
 | []=> []
 |f::r=> .str f.1:: .str f.2::fl r
abbrev aggF (l:List Fi):V:= .agg (fl l)
abbrev Zad (l:List Fi):V:= .sl false 2 (l.map fv)
theorem Zwi :∀l:List Fi,(fl l).length=2*l.length
 | []=>rfl
 |f::r=>by simp only[fl,Xax,Zwi r];omega
theorem Zz9 :∀l m:List Fi,fl (l++m)=fl l++fl m
 | [],m=>rfl
 |f::r,m=>by simp only[Xbq,fl,Zz9 r m]
theorem Zji :∀(l:List Fi) (i:Nat),(fl l).drop (i*2)=fl (l.drop i)
 |l,0=>by simp
 | [],i+1=>by simp[fl]
 |f::r,i+1=>by
  have:=Zji r i
  rw[show(i+1)*2=i*2+1+1 by omega]
  simpa only[fl,Xe7]using this
theorem Zvd :∀(l:List Fi) (i:Nat),(fl l).take (i*2)=fl (l.take i)
 |l,0=>by simp[fl]
 | [],i+1=>by simp[fl]
 |f::r,i+1=>by
  have:=Zvd r i
  rw[show(i+1)*2=i*2+1+1 by omega]
  simp only[fl,Xdg,this]
theorem Zd9 {l:List Fi}{i:Nat}(h:i<l.length):evp (.ldd (some 2) 0 2) [aggF l,I i]=some (fv l[i]):=by
 show Zak (some 2) (fl l) (0+(i:Int).toNat*2)=_
 have hd:(fl l).drop (i*2)= .str l[i].1:: .str l[i].2::fl (l.drop (i+1)):=by rw[Zji,Xap h];rfl
 simp only[Zak,Xbu,Xan]
 rw[if_pos (by rw[Zwi];omega),hd];rfl
theorem Zz8 {l:List Fi}{i:Nat}(h:i<l.length):evp (.ldd none 0 2) [aggF l,I i]=some (.str l[i].1):=by
 show(fl l)[0+(i:Int).toNat*2]? =_
 have hd:(fl l).drop (i*2)= .str l[i].1:: .str l[i].2::fl (l.drop (i+1)):=by rw[Zji,Xap h];rfl
 have:=congrArg (fun z=>z[0]?) hd
 simp only[Xcg,Xc5]at this
 simpa using this
theorem Z4g {l:List Fi}{i:Nat}(h:i<l.length):evp (.ldd none 1 2) [aggF l,I i]=some (.str l[i].2):=by
 show(fl l)[1+(i:Int).toNat*2]? =_
 have hd:(fl l).drop (i*2)= .str l[i].1:: .str l[i].2::fl (l.drop (i+1)):=by rw[Zji,Xap h];rfl
 have:=congrArg (fun z=>z[1]?) hd
 simp only[Xcg]at this
 rw[Xbu,Xfc];simpa using this
theorem Zo5 {l:List Fi}{i:Nat}{x:Fi}(h:i<l.length):evp (.std 2 0 2) [aggF l,I i,fv x]=some (aggF (l.set i x)):=by
 show vSet 2 (0+(i:Int).toNat*2) (aggF l) (fv x)=_
 unfold vSet
 rw[if_pos ⟨rfl,rfl,by simp[V.cells,Zwi];omega⟩]
 simp only[V.cells,Xan,Xbu,Zav,Xax,Xa7]
 rw[Zvd,show i*2+(0+1+1)=(i+1)*2 by omega,Zji,Xc4,if_pos h,aggF,Zz9];simp only[fl,Xaj,Xbq,Xba]
theorem Zed {a b:Nat}(h:a+b<=1152921504606846976):IntKind.i64.wrap ((a:Int)+(b:Int))=((a+b:Nat):Int):=by
 rw[<-Xfr];exact w64 _ (by omega)
theorem Ze7 {a b:Nat}(hb:b<=a)(h:a<=1152921504606846976):IntKind.i64.wrap ((a:Int)-(b:Int))=((a-b:Nat):Int):=by
 rw[<-Int.ofNat_sub hb];exact w64 _ (by omega)
theorem Zjr {a:Nat}(hb:1<=a)(h:a<=1152921504606846976):IntKind.i64.wrap ((a:Int)-1)=((a-1:Nat):Int):=Ze7 (b:=1) hb h
theorem Z3h {a b:Nat}(h:a*b<=1152921504606846976):IntKind.i64.wrap ((a:Int)*(b:Int))=((a*b:Nat):Int):=by
 rw[<-Xe3];exact w64 _ (by omega)
theorem Zod {a:Nat}(h:a<=1152921504606846976):evp (.i2i .u64) [I a]=some (.int .u64 a):=by
 show some (V.int .u64 (IntKind.u64.wrap a))=_
 have:IntKind.u64.wrap (a:Int)=a:=by simp[IntKind.wrap,IntKind.signed,IntKind.bits];omega
 rw[this]
theorem Zit {a:Nat}:evp (.bin .shr .no) [.int .u64 (a:Int), .int .u64 1]=some (.int .u64 ((a/2:Nat):Int)):=by
 show(if(1:Int)<0 then none else some (V.int .u64 (Int.fdiv (a:Int) 2)))=_
 rw[if_neg (by omega),Xdh _ (by omega)]
 rfl
theorem Znr {a:Nat}(h:a<=1152921504606846976):evp (.i2i .i64) [.int .u64 (a:Int)]=some (I a):=by
 show some (V.int .i64 (IntKind.i64.wrap a))=_
 rw[w64 _ (by omega)]
theorem Zro {α:Type}{p:List α->Prop}(h0:p [])(h1:∀l x,p l->p (l++ [x]))(l:List α):p l:=by
 rw[<-List.reverse_reverse l]
 generalize l.reverse=m
 induction m with
 |nil=>exact h0
 |cons x m ih=>rw[List.reverse_cons];exact h1 _ _ ih
structure Ord (e:Ev)(G:Fi->Prop)(cmp:Fi->Fi->Int):Prop where
 run:∀a b,G a->G b->Ze6 (vl e) (.fn 35 []) [fv a,fv b]=some (I (cmp a b))
 asy:∀a b,cmp a b<0-> ¬cmp b a<0
 tr:∀a b c,¬cmp b a<0-> ¬cmp c b<0-> ¬cmp c a<0
abbrev Le (cmp:Fi->Fi->Int)(a b:Fi):Prop:= ¬cmp b a<0
abbrev So (cmp:Fi->Fi->Int)(l:List Fi):Prop:=l.Pairwise (Le cmp)
abbrev cmpV :V:= .fn 35 []
section
variable {G:Fi->Prop}{cmp:Fi->Fi->Int}(ho:Ord e G cmp)
include ho
theorem Z03 {a b c:Fi}(h1:cmp a b<0)(h2:Le cmp b c):cmp a c<0:=by
 by_cases h:cmp a c<0
 ·exact h
 ·exact absurd h1 (ho.tr b c a h2 h)
theorem Zrg {a b c:Fi}(h1:Le cmp a b)(h2:cmp b c<0):cmp a c<0:=by
 by_cases h:cmp a c<0
 ·exact h
 ·exact absurd h2 (ho.tr c a b h h1)
theorem v.ins17 (pre:List Fi)(b:Nat)(hb:b<=1000000000)(i n:Nat):∀(T1 T2 rest:List Fi) (x:Fi),(∀f∈pre++(T1++x::T2)++rest,G f)->So cmp (T1++T2)->(∀t∈T2,cmp x t<0)->(pre++(T1++x::T2)++rest).length=n->n<=1000000000->i<=1000000000->
  ∃S,S.Perm (T1++x::T2)/\So cmp S/\vl e 11137 17 [I n,I pre.length,I b,cmpV,I i,I (pre.length+T1.length:Nat),aggF (pre++(T1++x::T2)++rest)]=vl e 11137 5 [I n,I pre.length,I b,cmpV,I (i+1:Nat),aggF (pre++S++rest)]:=by
 intro T1
 induction T1 using Zro with
 |h0=>
  intro T2 rest x hG hs hx hn hn2 hi
  refine⟨x::T2,by simp, ?_, ?_⟩
  ·rw[Xba]at hs
   exact Xci.2 ⟨fun t ht=>ho.asy _ _ (hx t ht),hs⟩
  ·rw[w.zq73_h1_17];unfold y.zq73_h1_17
   simp only[yy,if_neg (show ¬((pre.length:Int)<((pre.length+0:Nat):Int))by omega),Xa7,Zam (show i<i+1 by omega) (by omega)]
   rfl
 |h1 T1 u ih=>
  intro T2 rest x hG hs hx hn hn2 hi
  have hlen:=hn
  simp only[Xaf,Xax,Xa7]at hlen
  have hj:pre.length+(T1.length+1)<(pre++((T1++ [u])++x::T2)++rest).length:=by rw[hn];omega
  have gx:(pre++((T1++ [u])++x::T2)++rest)[pre.length+(T1.length+1)]'hj=x:=by
   rw[Xb9 (show pre++((T1++ [u])++x::T2)++rest=(pre++T1++ [u])++x::(T2++rest)by simp)]
   rw[Xbz (by simp)]
   simp
  have gy:(pre++((T1++ [u])++x::T2)++rest)[pre.length+T1.length]'(by omega)=u:=by
   rw[Xb9 (show pre++((T1++ [u])++x::T2)++rest=(pre++T1)++u::(x::T2++rest)by simp)]
   rw[Xbz (by simp)]
   simp
  have hc:=ho.run x u (hG x (by simp)) (hG u (by simp))
  have e1:(pre.length+(T1.length+1):Nat)-1=pre.length+T1.length:=by omega
  have c1:evp .chkd [I n,I (pre.length+(T1.length+1):Nat)]=some (I (pre.length+(T1.length+1):Nat)):=Zbc (by omega)
  have c2:evp .chkd [I n,I (pre.length+T1.length:Nat)]=some (I (pre.length+T1.length:Nat)):=Zbc (by omega)
  have l1:evp (.ldd (some 2) 0 2) [aggF (pre++((T1++ [u])++x::T2)++rest),I (pre.length+(T1.length+1):Nat)]=some (fv x):=by rw[Zd9 hj,gx]
  have l2:evp (.ldd (some 2) 0 2) [aggF (pre++((T1++ [u])++x::T2)++rest),I (pre.length+T1.length:Nat)]=some (fv u):=by rw[Zd9 (by omega),gy]
  have p1:IntKind.i64.wrap (((pre.length+(T1.length+1):Nat):Int)-1)=((pre.length+T1.length:Nat):Int):=by rw[Zjr (by omega) (by omega),e1]
  rw[w.zq73_h1_17];unfold y.zq73_h1_17
  simp only[Xaf,Xax,Xa7,Xan]at*
  by_cases hlt:cmp x u<0
  ·have s1:evp (.std 2 0 2) [aggF (pre++((T1++ [u])++x::T2)++rest),I (pre.length+(T1.length+1):Nat),fv u]=some (aggF (pre++((T1++ [u])++u::T2)++rest)):=by
    rw[Zo5 hj];congr 3
    rw[show pre++((T1++ [u])++x::T2)++rest=(pre++T1++ [u])++x::(T2++rest)by simp,Xcl _ _ (by simp)]
    simp
   have s2:evp (.std 2 0 2) [aggF (pre++((T1++ [u])++u::T2)++rest),I (pre.length+T1.length:Nat),fv x]=some (aggF (pre++(T1++x::(u::T2))++rest)):=by
    rw[Zo5 (by simp)];congr 3
    rw[show pre++((T1++ [u])++u::T2)++rest=(pre++T1)++u::(u::T2++rest)by simp,Xcl _ _ (by simp)]
    simp
   obtain⟨S,q1,q2,q3⟩:=ih (u::T2) rest x (fun f hf=>hG f (by grind)) (by simpa using hs) (fun t ht=>by
    rcases Xa0.1 ht with rfl|ht
    ·exact hlt
    ·exact hx t ht) (by simp;omega) hn2 hi
   refine⟨S,q1.trans (by simp only[Xaj,Xc2];exact(List.Perm.swap u x T2).append_left T1),q2, ?_⟩
   simp only[yy,if_pos (show(pre.length:Int)<((pre.length+(T1.length+1):Nat):Int)by omega),c1,c2,l1,l2,p1,cv,hc,if_pos hlt,s1,s2]
   exact q3
  ·refine⟨(T1++ [u])++x::T2, .refl _, ?_, ?_⟩
   ·simp only[So,Xaj,Xc2]at hs⊢
    have h1:=Xb7.1 hs
    have h2:=Xci.1 h1.2.1
    refine Xb7.2 ⟨h1.1,Xci.2 ⟨fun t ht=> ?_,Xci.2 ⟨fun t ht=>ho.asy _ _ (hx t ht),h2.2⟩⟩,fun a ha t ht=> ?_⟩
    ·rcases Xa0.1 ht with rfl|ht
     ·exact hlt
     ·exact h2.1 t ht
    ·have hay:Le cmp a u:=h1.2.2 a ha u (by simp)
     rcases Xa0.1 ht with rfl|ht
     ·exact hay
     ·rcases Xa0.1 ht with rfl|ht
      ·exact ho.tr _ _ _ hay hlt
      ·exact h1.2.2 a ha t (by simp[ht])
   ·simp only[yy,if_pos (show(pre.length:Int)<((pre.length+(T1.length+1):Nat):Int)by omega),c1,c2,l1,l2,p1,cv,hc,if_neg hlt,Zam (show i<i+1 by omega) (by omega)]
theorem v.ins5 (pre:List Fi)(b:Nat)(hb:b<=1000000000)(n:Nat)(hn2:n<=1000000000):∀(rest T post:List Fi),(∀f∈pre++(T++rest)++post,G f)->So cmp T->(pre++(T++rest)++post).length=n->pre.length+(T++rest).length=b->
  ∃S,S.Perm (T++rest)/\So cmp S/\vl e 11137 5 [I n,I pre.length,I b,cmpV,I (pre.length+T.length:Nat),aggF (pre++(T++rest)++post)]=some (aggF (pre++S++post)):=by
 intro rest
 induction rest with
 |nil=>
  intro T post hG hs hn hl
  refine⟨T,by simp,hs, ?_⟩
  rw[w.zq73_h1_5];unfold y.zq73_h1_5
  simp only[Xao]at*
  simp only[yy,if_neg (show ¬(((pre.length+T.length:Nat):Int)<(b:Int))by omega)]
 |cons x rest ih=>
  intro T post hG hs hn hl
  simp only[Xaf,Xax]at hl
  have hlen:=hn
  simp only[Xaf,Xax]at hlen
  have e0:pre++(T++x::rest)++post=pre++(T++x:: [])++(rest++post):=by simp
  obtain⟨S,q1,q2,q3⟩:=v.ins17 ho pre b hb (pre.length+T.length) n T [] (rest++post) x (by rw[<-e0];exact hG) (by simpa using hs) (by simp) (by rw[<-e0];exact hn) hn2 (by omega)
  have hSl:S.length=T.length+1:=by rw[q1.length_eq];simp
  have e1:pre++S++(rest++post)=pre++(S++rest)++post:=by simp
  have hp:(S++rest).Perm (T++x::rest):=(q1.append_right rest).trans (by simp)
  obtain⟨S',r1,r2,r3⟩:=ih S post (fun f hf=>hG f (by
   simp only[Xay]at hf⊢
   rcases hf with(hf|hf)|hf
   ·exact .inl (.inl hf)
   ·have:=hp.mem_iff.1 (Xay.2 hf)
    exact .inl (.inr (Xay.1 this))
   ·exact .inr hf)) q2 (by rw[Xaf,Xaf,hp.length_eq];simp;omega) (by rw[hp.length_eq];simp;omega)
  refine⟨S',r1.trans hp,r2, ?_⟩
  rw[w.zq73_h1_5];unfold y.zq73_h1_5
  simp only[yy,if_pos (show((pre.length+T.length:Nat):Int)<(b:Int)by omega)]
  rw[e0,q3,e1,show pre.length+T.length+1=pre.length+S.length by omega]
  exact r3
theorem v.ins (pre T post:List Fi)(hG:∀f∈pre++T++post,G f)(hn2:(pre++T++post).length<=1000000000)(hT:T≠ []):
  ∃S,S.Perm T/\So cmp S/\vl e 11137 1 [I (pre++T++post).length,I pre.length,I (pre.length+T.length:Nat),cmpV,aggF (pre++T++post)]=some (aggF (pre++S++post)):=by
 cases T with
 |nil=>exact absurd rfl hT
 |cons x r=>
  have hl:(pre++x::r++post).length=pre.length+(r.length+1)+post.length:=by simp;omega
  obtain⟨S,q1,q2,q3⟩:=v.ins5 ho pre (pre.length+(x::r).length) (by simp;omega) _ hn2 r [x] post (by simpa using hG) (by simp[So]) (by simp) (by simp)
  refine⟨S,by simpa using q1,q2, ?_⟩
  rw[w.zq73_h1];unfold y.zq73_h1
  simp only[yy,Zam (show pre.length<pre.length+1 by omega) (by omega)]
  simpa using q3
end
end Go.Proofs.YtpmgdngjbdkdfaaGreatDoor
namespace Go.Proofs.YtpmgdngjbdkdfaaGreatDoor
open Go.Abs
set_option maxRecDepth 10000
variable {e:Ev}
theorem v.swp5 (n a b c:Nat)(hn2:n<=1000000000)(hb:b<=1000000000)(hc:c<=1000000000)(ha:a<=1000000000):∀(X Y pre mid post:List Fi) (i:Nat),X.length=Y.length->i+X.length=c->a+i=pre.length->b+i=pre.length+X.length+mid.length->(pre++X++mid++Y++post).length=n->
  vl e 11745 5 [I n,I a,I b,I c,I i,aggF (pre++X++mid++Y++post)]=some (aggF (pre++Y++mid++X++post)):=by
 intro X
 induction X with
 |nil=>
  intro Y pre mid post i hxy hi hai hbi hn
  have:Y=[]:=Xbd hxy.symm
  subst this
  simp only[Xa7]at*
  rw[w.zq76_h1_5];unfold y.zq76_h1_5
  simp only[yy,if_neg (show ¬((i:Int)<(c:Int))by omega)]
 |cons x X ih=>
  intro Y pre mid post i hxy hi hai hbi hn
  match Y,hxy with
  |u::Y,hxy=>
  simp only[Xax,Nat.add_right_cancel_iff]at hxy
  simp only[Xaf,Xax]at hn hi hbi
  have hA:a+i<(pre++x::X++mid++u::Y++post).length:=by simp;omega
  have hB:b+i<(pre++x::X++mid++u::Y++post).length:=by simp;omega
  have gx:(pre++x::X++mid++u::Y++post)[a+i]'hA=x:=by
   rw[Xb9 (show pre++x::X++mid++u::Y++post=pre++x::(X++mid++u::Y++post)by simp)]
   simp[Xbz,hai]
  have gu:(pre++x::X++mid++u::Y++post)[b+i]'hB=u:=by
   rw[Xb9 (show pre++x::X++mid++u::Y++post=(pre++x::X++mid)++u::(Y++post)by simp)]
   rw[Xbz (by simp;omega)]
   simp only[Xaf,Xax]
   simp[show b+i-(pre.length+(X.length+1)+mid.length)=0 by omega]
  have c1:evp .chkd [I n,I (b+i:Nat)]=some (I (b+i:Nat)):=Zbc (by omega)
  have c2:evp .chkd [I n,I (a+i:Nat)]=some (I (a+i:Nat)):=Zbc (by omega)
  have l1:evp (.ldd (some 2) 0 2) [aggF (pre++x::X++mid++u::Y++post),I (b+i:Nat)]=some (fv u):=by rw[Zd9 hB,gu]
  have l2:evp (.ldd (some 2) 0 2) [aggF (pre++x::X++mid++u::Y++post),I (a+i:Nat)]=some (fv x):=by rw[Zd9 hA,gx]
  have s1:evp (.std 2 0 2) [aggF (pre++x::X++mid++u::Y++post),I (a+i:Nat),fv u]=some (aggF (pre++u::X++mid++u::Y++post)):=by
   rw[Zo5 hA];congr 3
   rw[show pre++x::X++mid++u::Y++post=pre++x::(X++mid++u::Y++post)by simp,Xcl _ _ (by omega)]
   simp[hai]
  have s2:evp (.std 2 0 2) [aggF (pre++u::X++mid++u::Y++post),I (b+i:Nat),fv x]=some (aggF ((pre++ [u])++X++(mid++ [x])++Y++post)):=by
   rw[Zo5 (by simp;omega)];congr 3
   rw[show pre++u::X++mid++u::Y++post=(pre++u::X++mid)++u::(Y++post)by simp,Xcl _ _ (by simp;omega)]
   simp only[Xaf,Xax]
   simp[show b+i-(pre.length+(X.length+1)+mid.length)=0 by omega]
  have:=ih Y (pre++ [u]) (mid++ [x]) post (i+1) hxy (by omega) (by simp;omega) (by simp;omega) (by simp;omega)
  rw[w.zq76_h1_5];unfold y.zq76_h1_5
  simp only[yy,if_pos (show(i:Int)<(c:Int)by omega),Zed (show a+i<=_ by omega),Zed (show b+i<=_ by omega),c1,c2,l1,l2,s1,s2,Zam (show i<i+1 by omega) (by omega)]
  rw[this]
  simp
theorem v.swp (X Y pre mid post:List Fi)(q:V)(hxy:X.length=Y.length)(n:Nat)(hn:n=(pre++X++mid++Y++post).length)(hn2:n<=1000000000)(a b c:Nat)(ha:a=pre.length)(hb:b=pre.length+X.length+mid.length)(hc:c=X.length):
  vl e 11745 1 [I n,I a,I b,I c,q,aggF (pre++X++mid++Y++post)]=some (aggF (pre++Y++mid++X++post)):=by
 have hl:=hn
 simp only[Xaf]at hl
 rw[w.zq76_h1];unfold y.zq76_h1
 exact v.swp5 n a b c hn2 (by omega) (by omega) (by omega) X Y pre mid post 0 hxy (by omega) (by omega) (by omega) hn.symm
theorem Zgs {α:Type}(l:List α)(k:Nat):l=l.take k++l.drop k:=(Xbl k l).symm
theorem v.rotF8 (n m:Nat)(q:V)(hn2:n<=1000000000):∀(k:Nat) (U W pre suf:List Fi),U.length+W.length<=k->0<U.length->0<W.length->pre.length+U.length=m->(pre++U++W++suf).length=n->
  vl e 11473 8 [I n,I m,q,I U.length,I W.length,aggF (pre++U++W++suf)]=some (aggF (pre++W++U++suf)):=by
 intro k
 induction k with
 |zero=>intro U W pre suf hk hu;omega
 |succ k ih=>
  intro U W pre suf hk hu hw hm hn
  have hl:=hn
  simp only[Xaf]at hl
  rw[w.zq74_h1_8];unfold y.zq74_h1_8
  rcases Xbx U.length W.length with h|h|h
  ·--the part behind is longer
   obtain⟨W1,W2,rfl,hW2⟩:∃W1 W2,W=W1++W2/\W2.length=U.length:=⟨W.take (W.length-U.length),W.drop (W.length-U.length),Zgs _ _,by simp;omega⟩
   simp only[Xaf]at*
   have hs:=v.swp (e:=e) U W2 pre W1 suf q (by omega) n (by simp;omega) hn2 (m-U.length) (m+(W1.length+W2.length)-U.length) U.length (by omega) (by omega) rfl
   have:=ih W2 W1 pre (U++suf) (by omega) (by omega) (by omega) (by omega) (by simp;omega)
   simp only[yy,if_neg (show ¬((U.length:Int)=((W1.length+W2.length:Nat):Int))by omega),if_neg (show ¬(((W1.length+W2.length:Nat):Int)<(U.length:Int))by omega),Ze7 (show U.length<=m by omega) (by omega),Zed (show m+(W1.length+W2.length)<=_ by omega),Ze7 (show U.length<=m+(W1.length+W2.length)by omega) (by omega),Ze7 (show U.length<=W1.length+W2.length by omega) (by omega)]
   rw[show pre++U++(W1++W2)++suf=pre++U++W1++W2++suf by simp,hs]
   simp only[Xak]
   rw[show W1.length+W2.length-U.length=W1.length by omega, <-hW2,show pre++W2++W1++U++suf=pre++W2++W1++(U++suf)by simp,this]
   simp
  ·have hs:=v.swp (e:=e) U W pre [] suf q h n (by simpa using hn.symm) hn2 (m-U.length) m U.length (by omega) (by simp;omega) rfl
   simp only[Xao]at hs
   simp only[yy,if_pos (show(U.length:Int)=(W.length:Int)by omega),Ze7 (show U.length<=m by omega) (by omega)]
   rw[hs];rfl
  ·obtain⟨U1,U2,rfl,hU1⟩:∃U1 U2,U=U1++U2/\U1.length=W.length:=⟨U.take W.length,U.drop W.length,Zgs _ _,by simp;omega⟩
   simp only[Xaf]at*
   have hs:=v.swp (e:=e) U1 W pre U2 suf q (by omega) n (by simp;omega) hn2 (m-(U1.length+U2.length)) m W.length (by omega) (by omega) (by omega)
   have:=ih U2 U1 (pre++W) suf (by omega) (by omega) (by omega) (by simp;omega) (by simp;omega)
   simp only[yy,if_neg (show ¬(((U1.length+U2.length:Nat):Int)=(W.length:Int))by omega),if_pos (show((W.length:Nat):Int)<((U1.length+U2.length:Nat):Int)by omega),Ze7 (show U1.length+U2.length<=m by omega) (by omega),Ze7 (show W.length<=U1.length+U2.length by omega) (by omega)]
   rw[show pre++(U1++U2)++W++suf=pre++U1++U2++W++suf by simp,hs]
   simp only[Xak]
   rw[show U1.length+U2.length-W.length=U2.length by omega, <-hU1,this]
   simp
theorem v.rotF (n a m b:Nat)(q:V)(hn2:n<=1000000000)(U W pre suf:List Fi)(hu:U≠ [])(hw:W≠ [])(ha:a=pre.length)(hm:m=pre.length+U.length)(hb:b=m+W.length)(hn:n=(pre++U++W++suf).length):
  vl e 11473 1 [I n,I a,I m,I b,q,aggF (pre++U++W++suf)]=some (aggF (pre++W++U++suf)):=by
 have hl:=hn
 simp only[Xaf]at hl
 rw[w.zq74_h1];unfold y.zq74_h1
 simp only[yy,Ze7 (show a<=m by omega) (by omega),Ze7 (show m<=b by omega) (by omega)]
 rw[show m-a=U.length by omega,show b-m=W.length by omega]
 exact v.rotF8 n m q hn2 _ U W pre suf (Xag _) (Xaz.2 hu) (Xaz.2 hw) hm.symm hn.symm
end Go.Proofs.YtpmgdngjbdkdfaaGreatDoor
namespace Go.Proofs.YtpmgdngjbdkdfaaGreatDoor
open Go.Abs
set_option maxRecDepth 10000
variable {e:Ev}
theorem at_F {l pre post:List Fi}{x:Fi}{i:Nat}(h:l=pre++x::post)(hi:i=pre.length):evp (.ldd (some 2) 0 2) [aggF l,I i]=some (fv x):=by
 subst hi
 rw[Zd9 (by rw[h];simp)]
 congr 2
 rw[Xb9 h,Xbz (Xag _)]
 simp
theorem Zyr {l pre post:List Fi}{x u:Fi}{i:Nat}(h:l=pre++x::post)(hi:i=pre.length):evp (.std 2 0 2) [aggF l,I i,fv u]=some (aggF (pre++u::post)):=by
 subst hi
 rw[Zo5 (by rw[h];simp),h,Xcl _ _ (Xag _)]
 simp
theorem v.sym31 (n:Nat)(hn2:n<=1000000000):∀(y1 A rest:List Fi) (x:Fi) (i k:Nat),k=A.length->i=k+y1.length+1->(A++x::y1++rest).length=n->
  vl e 11153 31 [I n,I i,I k,aggF (A++x::y1++rest)]=some (aggF (A++y1++x::rest)):=by
 intro y1
 induction y1 with
 |nil=>
  intro A rest x i k hk hi hn
  simp only[Xaf,Xax,Xa7]at hn hi
  rw[w.zq77_h1_31];unfold y.zq77_h1_31
  simp only[yy,Zjr (show 1<=i by omega) (by omega),if_neg (show ¬((k:Int)<((i-1:Nat):Int))by omega)]
  simp
 |cons u y1 ih=>
  intro A rest x i k hk hi hn
  simp only[Xaf,Xax]at hn hi
  have c1:evp .chkd [I n,I (k+1:Nat)]=some (I (k+1:Nat)):=Zbc (by omega)
  have c2:evp .chkd [I n,I k]=some (I k):=Zbc (by omega)
  have l1:evp (.ldd (some 2) 0 2) [aggF (A++x::u::y1++rest),I (k+1:Nat)]=some (fv u):=at_F (pre:=A++ [x]) (post:=y1++rest) (by simp) (by simp[hk])
  have l2:evp (.ldd (some 2) 0 2) [aggF (A++x::u::y1++rest),I k]=some (fv x):=at_F (pre:=A) (post:=u::y1++rest) (by simp) hk
  have s1:evp (.std 2 0 2) [aggF (A++x::u::y1++rest),I k,fv u]=some (aggF (A++u::(u::y1++rest))):=Zyr (x:=x) (by simp) hk
  have s2:evp (.std 2 0 2) [aggF (A++u::(u::y1++rest)),I (k+1:Nat),fv x]=some (aggF ((A++ [u])++x::(y1++rest))):=Zyr (x:=u) (by simp) (by simp[hk])
  have:=ih (A++ [u]) rest x i (k+1) (by simp[hk]) (by omega) (by simp;omega)
  rw[w.zq77_h1_31];unfold y.zq77_h1_31
  simp only[yy,Zjr (show 1<=i by omega) (by omega),if_pos (show(k:Int)<((i-1:Nat):Int)by omega),Zam (show k<k+1 by omega) (by omega),c1,c2,l1,l2,s1,s2]
  rw[show A++ [u]++x::(y1++rest)=A++ [u]++x::y1++rest by simp,this]
  simp
theorem v.sym73 (n:Nat)(hn2:n<=1000000000):∀(x2 A rest:List Fi) (u:Fi) (i k:Nat),i=A.length->k=i+x2.length->(A++x2++u::rest).length=n->
  vl e 11153 73 [I n,I i,I k,aggF (A++x2++u::rest)]=some (aggF (A++u::x2++rest)):=by
 intro x2
 induction x2 using Zro with
 |h0=>
  intro A rest u i k hi hk hn
  simp only[Xaf,Xax,Xa7]at hn hk
  rw[w.zq77_h1_73];unfold y.zq77_h1_73
  simp only[yy,if_neg (show ¬((i:Int)<(k:Int))by omega)]
  simp
 |h1 x2 x ih=>
  intro A rest u i k hi hk hn
  simp only[Xaf,Xax,Xa7]at hn hk
  have c1:evp .chkd [I n,I (k-1:Nat)]=some (I (k-1:Nat)):=Zbc (by omega)
  have c2:evp .chkd [I n,I k]=some (I k):=Zbc (by omega)
  have l1:evp (.ldd (some 2) 0 2) [aggF (A++(x2++ [x])++u::rest),I (k-1:Nat)]=some (fv x):=at_F (pre:=A++x2) (post:=u::rest) (by simp) (by simp;omega)
  have l2:evp (.ldd (some 2) 0 2) [aggF (A++(x2++ [x])++u::rest),I k]=some (fv u):=at_F (pre:=A++x2++ [x]) (post:=rest) (by simp) (by simp;omega)
  have s1:evp (.std 2 0 2) [aggF (A++(x2++ [x])++u::rest),I k,fv x]=some (aggF ((A++x2++ [x])++x::rest)):=Zyr (x:=u) (by simp) (by simp;omega)
  have s2:evp (.std 2 0 2) [aggF ((A++x2++ [x])++x::rest),I (k-1:Nat),fv u]=some (aggF ((A++x2)++u::(x::rest))):=Zyr (x:=x) (by simp) (by simp;omega)
  have:=ih A (x::rest) u i (k-1) hi (by omega) (by simp;omega)
  rw[w.zq77_h1_73];unfold y.zq77_h1_73
  simp only[yy,Zjr (show 1<=k by omega) (by omega),if_pos (show(i:Int)<(k:Int)by omega),c1,c2,l1,l2,s1,s2]
  rw[this]
  simp
theorem Zi2 {l:List Fi}{P:Fi->Prop}{p:Nat}(h:∀k (h:k<l.length),k<p->P l[k]):∀t∈l.take p,P t:=by
 intro t ht
 obtain⟨k,hk,rfl⟩:=Xb3.1 ht
 simp only[Xbr]at hk
 rw[List.getElem_take]
 exact h k (by omega) (by omega)
theorem Zf6 {l:List Fi}{P:Fi->Prop}{p:Nat}(h:∀k (h:k<l.length),p<=k->P l[k]):∀t∈l.drop p,P t:=by
 intro t ht
 obtain⟨k,hk,rfl⟩:=Xb3.1 ht
 simp only[Xct]at hk
 rw[List.getElem_drop]
 exact h (p+k) (by omega) (by omega)
section
variable {G:Fi->Prop}{cmp:Fi->Fi->Int}(ho:Ord e G cmp)
include ho
theorem Zyg (x:Fi):Le cmp x x:=fun h=>ho.asy x x h h
theorem Zfi {l:List Fi}(hs:So cmp l){i j:Nat}(hij:i<=j)(hj:j<l.length):Le cmp (l[i]'(by omega)) l[j]:=by
 rcases Xbm hij with h|h
 ·exact Xbe.1 hs i j (by omega) hj h
 ·subst h;exact Zyg ho _
theorem v.sym12 (n:Nat)(hn2:n<=1000000000)(pre ys post:List Fi)(x:Fi)(hG:∀f∈pre++x::ys++post,G f)(hs:So cmp ys)(hn:(pre++x::ys++post).length=n):∀(d p q:Nat),q-p<=d->p<=q->q<=ys.length->(∀k (h:k<ys.length),k<p->cmp ys[k] x<0)->(∀k (h:k<ys.length),q<=k-> ¬cmp ys[k] x<0)->
  ∃p',p'<=ys.length/\(∀k (h:k<ys.length),k<p'->cmp ys[k] x<0)/\(∀k (h:k<ys.length),p'<=k-> ¬cmp ys[k] x<0)/\
  vl e 11153 12 [I n,I pre.length,cmpV,I (pre.length+1+p:Nat),I (pre.length+1+q:Nat),aggF (pre++x::ys++post)]=vl e 11153 31 [I n,I (pre.length+1+p':Nat),I pre.length,aggF (pre++x::ys++post)]:=by
 have hl:=hn
 simp only[Xaf,Xax]at hl
 intro d
 induction d with
 |zero=>
  intro p q hd hpq hq h1 h2
  have:p=q:=by omega
  subst this
  refine⟨p,hq,h1,h2, ?_⟩
  rw[w.zq77_h1_12];unfold y.zq77_h1_12
  simp only[yy,if_neg (show ¬(((pre.length+1+p:Nat):Int)<((pre.length+1+p:Nat):Int))by omega)]
 |succ d ih=>
  intro p q hd hpq hq h1 h2
  rcases Xbm hpq with hlt|rfl
  rotate_left
  ·exact ih p p (by omega) (Xag _) hq h1 h2
  obtain⟨t,ht,ht1,ht2⟩:∃t,(pre.length+1+p+(pre.length+1+q))/2=pre.length+1+t/\p<=t/\t<q:=⟨(pre.length+1+p+(pre.length+1+q))/2-(pre.length+1),by omega,by omega,by omega⟩
  have htl:t<ys.length:=by omega
  have c1:evp .chkd [I n,I (pre.length+1+t:Nat)]=some (I (pre.length+1+t:Nat)):=Zbc (by omega)
  have c2:evp .chkd [I n,I pre.length]=some (I pre.length):=Zbc (by omega)
  have l1:evp (.ldd (some 2) 0 2) [aggF (pre++x::ys++post),I (pre.length+1+t:Nat)]=some (fv ys[t]):=at_F (pre:=pre++x::ys.take t) (post:=ys.drop (t+1)++post) (by
   have:=Xap htl
   rw[Xaj pre,Xbq,Xaj,Xbq, <-Xbq (a:=ys[t]), <-this, <-Xaj (ys.take t),Xbl]) (by simp;omega)
  have l2:evp (.ldd (some 2) 0 2) [aggF (pre++x::ys++post),I pre.length]=some (fv x):=at_F (pre:=pre) (post:=ys++post) (by simp) rfl
  have hc:=ho.run ys[t] x (hG _ (by simp)) (hG _ (by simp))
  by_cases hx:cmp ys[t] x<0
  ·obtain⟨p',r1,r2,r3,r4⟩:=ih (t+1) q (by omega) (by omega) hq (fun k hk hkt=>by
    exact Zrg ho (Zfi ho hs (show k<=t by omega) htl) hx) h2
   refine⟨p',r1,r2,r3, ?_⟩
   rw[w.zq77_h1_12];unfold y.zq77_h1_12
   simp only[yy,if_pos (show((pre.length+1+p:Nat):Int)<((pre.length+1+q:Nat):Int)by omega),Zed (show pre.length+1+p+(pre.length+1+q)<=_ by omega),Zod (show pre.length+1+p+(pre.length+1+q)<=_ by omega),Zit,ht,Znr (show pre.length+1+t<=_ by omega),c1,c2,l1,l2,cv,hc,if_pos hx,Zam (show pre.length+1+t<n by omega) (by omega)]
   exact r4
  ·obtain⟨p',r1,r2,r3,r4⟩:=ih p t (by omega) (by omega) (by omega) h1 (fun k hk hkt h=>hx (Zrg ho (Zfi ho hs hkt hk) h))
   refine⟨p',r1,r2,r3, ?_⟩
   rw[w.zq77_h1_12];unfold y.zq77_h1_12
   simp only[yy,if_pos (show((pre.length+1+p:Nat):Int)<((pre.length+1+q:Nat):Int)by omega),Zed (show pre.length+1+p+(pre.length+1+q)<=_ by omega),Zod (show pre.length+1+p+(pre.length+1+q)<=_ by omega),Zit,ht,Znr (show pre.length+1+t<=_ by omega),c1,c2,l1,l2,cv,hc,if_neg hx]
   exact r4
theorem v.sym54 (n:Nat)(hn2:n<=1000000000)(pre xs post:List Fi)(u:Fi)(hG:∀f∈pre++xs++u::post,G f)(hs:So cmp xs)(hn:(pre++xs++u::post).length=n)(m:Nat)(hm:m=pre.length+xs.length):∀(d p q:Nat),q-p<=d->p<=q->q<=xs.length->(∀k (h:k<xs.length),k<p-> ¬cmp u xs[k]<0)->(∀k (h:k<xs.length),q<=k->cmp u xs[k]<0)->
  ∃p',p'<=xs.length/\(∀k (h:k<xs.length),k<p'-> ¬cmp u xs[k]<0)/\(∀k (h:k<xs.length),p'<=k->cmp u xs[k]<0)/\
  vl e 11153 54 [I n,I m,cmpV,I (pre.length+p:Nat),I (pre.length+q:Nat),aggF (pre++xs++u::post)]=vl e 11153 73 [I n,I (pre.length+p':Nat),I m,aggF (pre++xs++u::post)]:=by
 have hl:=hn
 simp only[Xaf,Xax]at hl
 intro d
 induction d with
 |zero=>
  intro p q hd hpq hq h1 h2
  have:p=q:=by omega
  subst this
  refine⟨p,hq,h1,h2, ?_⟩
  rw[w.zq77_h1_54];unfold y.zq77_h1_54
  simp only[yy,if_neg (show ¬(((pre.length+p:Nat):Int)<((pre.length+p:Nat):Int))by omega)]
 |succ d ih=>
  intro p q hd hpq hq h1 h2
  rcases Xbm hpq with hlt|rfl
  rotate_left
  ·exact ih p p (by omega) (Xag _) hq h1 h2
  obtain⟨t,ht,ht1,ht2⟩:∃t,(pre.length+p+(pre.length+q))/2=pre.length+t/\p<=t/\t<q:=⟨(pre.length+p+(pre.length+q))/2-pre.length,by omega,by omega,by omega⟩
  have htl:t<xs.length:=by omega
  have c1:evp .chkd [I n,I (pre.length+t:Nat)]=some (I (pre.length+t:Nat)):=Zbc (by omega)
  have c2:evp .chkd [I n,I m]=some (I m):=Zbc (by omega)
  have l1:evp (.ldd (some 2) 0 2) [aggF (pre++xs++u::post),I (pre.length+t:Nat)]=some (fv xs[t]):=at_F (pre:=pre++xs.take t) (post:=xs.drop (t+1)++u::post) (by
   have:=Xap htl
   rw[Xaj,Xaj, <-Xbq, <-this, <-Xaj (xs.take t),Xbl]) (by simp;omega)
  have l2:evp (.ldd (some 2) 0 2) [aggF (pre++xs++u::post),I m]=some (fv u):=at_F (pre:=pre++xs) (post:=post) rfl (by simp[hm])
  have hc:=ho.run u xs[t] (hG _ (by simp)) (hG _ (by simp))
  by_cases hx:cmp u xs[t]<0
  ·obtain⟨p',r1,r2,r3,r4⟩:=ih p t (by omega) (by omega) (by omega) h1 (fun k hk hkt=>Z03 ho hx (Zfi ho hs hkt hk))
   refine⟨p',r1,r2,r3, ?_⟩
   rw[w.zq77_h1_54];unfold y.zq77_h1_54
   simp only[yy,if_pos (show((pre.length+p:Nat):Int)<((pre.length+q:Nat):Int)by omega),Zed (show pre.length+p+(pre.length+q)<=_ by omega),Zod (show pre.length+p+(pre.length+q)<=_ by omega),Zit,ht,Znr (show pre.length+t<=_ by omega),c1,c2,l1,l2,cv,hc,if_pos hx]
   exact r4
  ·obtain⟨p',r1,r2,r3,r4⟩:=ih (t+1) q (by omega) (by omega) hq (fun k hk hkt h=>hx (Z03 ho h (Zfi ho hs (show k<=t by omega) htl))) h2
   refine⟨p',r1,r2,r3, ?_⟩
   rw[w.zq77_h1_54];unfold y.zq77_h1_54
   simp only[yy,if_pos (show((pre.length+p:Nat):Int)<((pre.length+q:Nat):Int)by omega),Zed (show pre.length+p+(pre.length+q)<=_ by omega),Zod (show pre.length+p+(pre.length+q)<=_ by omega),Zit,ht,Znr (show pre.length+t<=_ by omega),c1,c2,l1,l2,cv,hc,if_neg hx,Zam (show pre.length+t<n by omega) (by omega)]
   exact r4
end
end Go.Proofs.YtpmgdngjbdkdfaaGreatDoor
namespace Go.Proofs.YtpmgdngjbdkdfaaGreatDoor
open Go.Abs
set_option maxRecDepth 10000
variable {e:Ev}
section
variable {G:Fi->Prop}{cmp:Fi->Fi->Int}(ho:Ord e G cmp)
include ho
theorem v.sym106 (n:Nat)(hn2:n<=1000000000)(L:List Fi)(hL:L.length=n)(hG:∀f∈L,G f)(a m b mm nn lo hi:Nat)(hnn:nn<=2000000000)(hhi:hi<=n)(hp:∀c,lo<=c->c<hi->c+1<=nn/\nn-1-c<n)
  (hmono:∀c c' (_:lo<=c) (_:c<=c') (_:c'<hi),¬cmp (L.getD (nn-1-c') ([],[])) (L.getD c' ([],[]))<0-> ¬cmp (L.getD (nn-1-c) ([],[])) (L.getD c ([],[]))<0):∀(d s r:Nat),r-s<=d->lo<=s->s<=r->r<=hi->(∀c,lo<=c->c<s-> ¬cmp (L.getD (nn-1-c) ([],[])) (L.getD c ([],[]))<0)->(∀c,r<=c->c<hi->cmp (L.getD (nn-1-c) ([],[])) (L.getD c ([],[]))<0)->
  ∃s',lo<=s'/\s'<=hi/\(∀c,lo<=c->c<s'-> ¬cmp (L.getD (nn-1-c) ([],[])) (L.getD c ([],[]))<0)/\(∀c,s'<=c->c<hi->cmp (L.getD (nn-1-c) ([],[])) (L.getD c ([],[]))<0)/\
   vl e 11153 106 [I n,I a,I m,I b,cmpV,I mm,I nn,I s,I r,I (nn-1:Nat),aggF L]=vl e 11153 106 [I n,I a,I m,I b,cmpV,I mm,I nn,I s',I s',I (nn-1:Nat),aggF L]:=by
 intro d
 induction d with
 |zero=>
  intro s r hd hls hsr hrh h1 h2
  have:s=r:=by omega
  subst this
  exact⟨s,hls,hrh,h1,h2,rfl⟩
 |succ d ih=>
  intro s r hd hls hsr hrh h1 h2
  rcases Xbm hsr with hlt|rfl
  rotate_left
  ·exact⟨s,hls,hrh,h1,h2,rfl⟩
  obtain⟨t,ht,ht1,ht2⟩:∃t,(s+r)/2=t/\s<=t/\t<r:=⟨_,rfl,by omega,by omega⟩
  obtain⟨hp1,hp2⟩:=hp t (by omega) (by omega)
  have c1:evp .chkd [I n,I (nn-1-t:Nat)]=some (I (nn-1-t:Nat)):=Zbc (by omega)
  have c2:evp .chkd [I n,I t]=some (I t):=Zbc (by omega)
  have g1:nn-1-t<L.length:=by omega
  have g2:t<L.length:=by omega
  have e1:L.getD (nn-1-t) ([],[])=L[nn-1-t]:=by simp[List.getD,g1]
  have e2:L.getD t ([],[])=L[t]:=by simp[List.getD,g2]
  have l1:=Zd9 g1
  have l2:=Zd9 g2
  have hc:=ho.run L[nn-1-t] L[t] (hG _ (Xau g1)) (hG _ (Xau g2))
  by_cases hx:cmp L[nn-1-t] L[t]<0
  ·obtain⟨s',r1,r2,r3,r4,r5⟩:=ih s t (by omega) hls (by omega) (by omega) h1 (fun c hc1 hc2=>by
    refine Classical.byContradiction fun hno=> ?_
    have:=hmono t c (by omega) hc1 hc2 hno
    rw[e1,e2]at this
    exact this hx)
   refine⟨s',r1,r2,r3,r4, ?_⟩
   rw[w.zq77_h1_106];unfold y.zq77_h1_106
   simp only[yy,if_pos (show(s:Int)<(r:Int)by omega),Zed (show s+r<=_ by omega),Zod (show s+r<=_ by omega),Zit,ht,Znr (show t<=_ by omega),Ze7 (show t<=nn-1 by omega) (by omega),c1,c2,l1,l2,cv,hc,if_pos hx]
   exact r5
  ·obtain⟨s',r1,r2,r3,r4,r5⟩:=ih (t+1) r (by omega) (by omega) (by omega) hrh (fun c hc1 hc2=>by
    refine hmono c t hc1 (by omega) (by omega) ?_
    rw[e1,e2];exact hx) h2
   refine⟨s',r1,r2,r3,r4, ?_⟩
   rw[w.zq77_h1_106];unfold y.zq77_h1_106
   simp only[yy,if_pos (show(s:Int)<(r:Int)by omega),Zed (show s+r<=_ by omega),Zod (show s+r<=_ by omega),Zit,ht,Znr (show t<=_ by omega),Ze7 (show t<=nn-1 by omega) (by omega),c1,c2,l1,l2,cv,hc,if_neg hx,Zam (show t<n by omega) (by omega)]
   exact r5
omit ho in
theorem v.sym129 (n k:Nat)(hn2:n<=1000000000)
  (hrec:∀(pre xs ys suf:List Fi),xs≠ []->ys≠ []->xs.length+ys.length<=k->So cmp xs->So cmp ys->(∀f∈pre++xs++ys++suf,G f)->(pre++xs++ys++suf).length=n->
   ∃zs:List Fi,zs.Perm (xs++ys)/\So cmp zs/\vl e 11153 1 [I n,I pre.length,I (pre.length+xs.length:Nat),I (pre.length+xs.length+ys.length:Nat),cmpV,aggF (pre++xs++ys++suf)]=some (aggF (pre++zs++suf)))
  (pre x1 y1 x2 y2 suf:List Fi) (h1:So cmp x1) (h2:So cmp y1) (h3:So cmp x2) (h4:So cmp y2) (hk1:x1.length+y1.length<=k) (hk2:x2.length+y2.length<=k) (hG:∀f∈pre++(x1++y1)++(x2++y2)++suf,G f) (hn:(pre++(x1++y1)++(x2++y2)++suf).length=n)
  (a b mm s en:Nat) (ha:a=pre.length) (hs:s=a+x1.length) (hm:mm=a+x1.length+y1.length) (he:en=mm+x2.length) (hb:b=mm+x2.length+y2.length):
  ∃z1 z2,z1.Perm (x1++y1)/\z2.Perm (x2++y2)/\So cmp z1/\So cmp z2/\vl e 11153 129 [I n,I a,I b,cmpV,I mm,I s,I en,aggF (pre++(x1++y1)++(x2++y2)++suf)]=some (aggF (pre++(z1++z2)++suf)):=by
 have hl:=hn
 simp only[Xaf]at hl
 --the half behind,with any half ahead
 have back:∀z1:List Fi,z1.Perm (x1++y1)-> ∃z2,z2.Perm (x2++y2)/\So cmp z2/\(if mm<en/\en<b then vl e 11153 1 [I n,I mm,I en,I b,cmpV,aggF (pre++z1++(x2++y2)++suf)]else some (aggF (pre++z1++(x2++y2)++suf)))=some (aggF (pre++(z1++z2)++suf)):=by
  intro z1 hz1
  have hzl:z1.length=x1.length+y1.length:=by rw[hz1.length_eq,Xaf]
  by_cases hc:mm<en/\en<b
  ·obtain⟨z2,r1,r2,r3⟩:=hrec (pre++z1) x2 y2 suf (Xaz.1 (by omega)) (Xaz.1 (by omega)) hk2 h3 h4 (fun f hf=>hG f (by
    have:(pre++z1++x2++y2++suf).Perm (pre++(x1++y1)++(x2++y2)++suf):=by
     have:=((hz1.append_left pre).append_right (x2++y2)).append_right suf
     simpa using this
    exact this.mem_iff.1 hf)) (by simp;omega)
   refine⟨z2,r1,r2, ?_⟩
   rw[if_pos hc]
   rw[show(pre++z1).length=mm by simp;omega,show mm+x2.length+y2.length=b by omega,show mm+x2.length=en by omega]at r3
   rw[show pre++z1++(x2++y2)++suf=pre++z1++x2++y2++suf by simp,r3]
   simp
  ·rw[if_neg hc]
   refine⟨x2++y2, .refl _, ?_,by simp⟩
   by_cases h0:x2=[]
   ·subst h0;simpa using h4
   ·have hx2:=Xaz.2 h0
    have:y2=[]:=Xbd (by omega)
    subst this;simpa using h3
 rw[w.zq77_h1_129];unfold y.zq77_h1_129
 by_cases hc1:a<s/\s<mm
 ·obtain⟨z1,r1,r2,r3⟩:=hrec pre x1 y1 (x2++y2++suf) (Xaz.1 (by omega)) (Xaz.1 (by omega)) hk1 h1 h2 (fun f hf=>hG f (by simpa using hf)) (by simp;omega)
  rw[show pre++x1++y1++(x2++y2++suf)=pre++(x1++y1)++(x2++y2)++suf by simp,show pre++z1++(x2++y2++suf)=pre++z1++(x2++y2)++suf by simp, <-ha, <-hs,show s+y1.length=mm by omega]at r3
  obtain⟨z2,q1,q2,q3⟩:=back z1 r1
  refine⟨z1,z2,r1,q1,r2,q2, ?_⟩
  rw[<-q3]
  simp only[yy,if_pos (show(a:Int)<(s:Int)by omega),if_pos (show(s:Int)<(mm:Int)by omega),r3]
  by_cases hc2:mm<en
  ·by_cases hc3:en<b
   ·simp only[yy,if_pos (show(mm:Int)<(en:Int)by omega),if_pos (show(en:Int)<(b:Int)by omega),if_pos (show mm<en/\en<b from⟨hc2,hc3⟩)]
    cases vl e 11153 1 [I n,I mm,I en,I b,cmpV,aggF (pre++z1++(x2++y2)++suf)]<;>rfl
   ·simp only[yy,if_pos (show(mm:Int)<(en:Int)by omega),if_neg (show ¬(en:Int)<(b:Int)by omega),if_neg (show ¬(mm<en/\en<b)by omega)]
  ·simp only[yy,if_neg (show ¬(mm:Int)<(en:Int)by omega),if_neg (show ¬(mm<en/\en<b)by omega)]
 ·have hz:So cmp (x1++y1):=by
   by_cases h0:x1=[]
   ·subst h0;simpa using h2
   ·have hx:=Xaz.2 h0
    have:y1=[]:=Xbd (by omega)
    subst this;simpa using h1
  obtain⟨z2,q1,q2,q3⟩:=back (x1++y1) (.refl _)
  refine⟨x1++y1,z2, .refl _,q1,hz,q2, ?_⟩
  rw[<-q3]
  by_cases hca:a<s
  ·have hcb: ¬s<mm:=by omega
   by_cases hc2:mm<en
   ·by_cases hc3:en<b
    ·simp only[yy,if_pos (show(a:Int)<(s:Int)by omega),if_neg (show ¬(s:Int)<(mm:Int)by omega),if_pos (show(mm:Int)<(en:Int)by omega),if_pos (show(en:Int)<(b:Int)by omega),if_pos (show mm<en/\en<b from⟨hc2,hc3⟩)]
     cases vl e 11153 1 [I n,I mm,I en,I b,cmpV,aggF (pre++(x1++y1)++(x2++y2)++suf)]<;>rfl
    ·simp only[yy,if_pos (show(a:Int)<(s:Int)by omega),if_neg (show ¬(s:Int)<(mm:Int)by omega),if_pos (show(mm:Int)<(en:Int)by omega),if_neg (show ¬(en:Int)<(b:Int)by omega),if_neg (show ¬(mm<en/\en<b)by omega)]
   ·simp only[yy,if_pos (show(a:Int)<(s:Int)by omega),if_neg (show ¬(s:Int)<(mm:Int)by omega),if_neg (show ¬(mm:Int)<(en:Int)by omega),if_neg (show ¬(mm<en/\en<b)by omega)]
  ·by_cases hc2:mm<en
   ·by_cases hc3:en<b
    ·simp only[yy,if_neg (show ¬(a:Int)<(s:Int)by omega),if_pos (show(mm:Int)<(en:Int)by omega),if_pos (show(en:Int)<(b:Int)by omega),if_pos (show mm<en/\en<b from⟨hc2,hc3⟩)]
     cases vl e 11153 1 [I n,I mm,I en,I b,cmpV,aggF (pre++(x1++y1)++(x2++y2)++suf)]<;>rfl
    ·simp only[yy,if_neg (show ¬(a:Int)<(s:Int)by omega),if_pos (show(mm:Int)<(en:Int)by omega),if_neg (show ¬(en:Int)<(b:Int)by omega),if_neg (show ¬(mm<en/\en<b)by omega)]
   ·simp only[yy,if_neg (show ¬(a:Int)<(s:Int)by omega),if_neg (show ¬(mm:Int)<(en:Int)by omega),if_neg (show ¬(mm<en/\en<b)by omega)]
end
end Go.Proofs.YtpmgdngjbdkdfaaGreatDoor
namespace Go.Proofs.YtpmgdngjbdkdfaaGreatDoor
open Go.Abs
set_option maxRecDepth 10000
variable {e:Ev}
theorem v.symE (n a m b:Nat)(ha:a+1<m)(hb:m+1<b)(hbn:b<=1000000000)(row:V):vl e 11153 1 [I n,I a,I m,I b,cmpV,row]=
  vl e 11153 106 [I n,I a,I m,I b,cmpV,I ((a+b)/2:Nat),I ((a+b)/2+m:Nat),I (if(a+b)/2<m then(a+b)/2+m-b else a:Nat),I (if(a+b)/2<m then(a+b)/2 else m:Nat),I ((a+b)/2+m-1:Nat),row]:=by
 obtain⟨mm,hmm⟩:∃mm,mm=(a+b)/2:=⟨_,rfl⟩
 have e1:IntKind.i64.wrap ((m:Int)-(a:Int))=((m-a:Nat):Int):=Ze7 (by omega) (by omega)
 have e2:IntKind.i64.wrap ((b:Int)-(m:Int))=((b-m:Nat):Int):=Ze7 (by omega) (by omega)
 have e3:IntKind.i64.wrap ((a:Int)+(b:Int))=((a+b:Nat):Int):=Zed (by omega)
 have e4:IntKind.i64.wrap ((mm:Int)+(m:Int))=((mm+m:Nat):Int):=Zed (by omega)
 have e5:IntKind.i64.wrap (((mm+m:Nat):Int)-1)=((mm+m-1:Nat):Int):=Zjr (by omega) (by omega)
 have n1: ¬((m-a:Nat):Int)=1:=by omega
 have n2: ¬((b-m:Nat):Int)=1:=by omega
 have u1:evp (.i2i .u64) [I (a+b:Nat)]=some (.int .u64 (a+b:Nat)):=Zod (by omega)
 have u2:evp (.i2i .i64) [.int .u64 (mm:Int)]=some (I mm):=Znr (by omega)
 have hh:evp (.bin .shr .no) [.int .u64 ((a+b:Nat):Int), .int .u64 1]=some (.int .u64 (mm:Int)):=by rw[Zit,hmm]
 rw[<-hmm,w.zq77_h1];unfold y.zq77_h1
 by_cases hc:mm<m
 ·have e6:IntKind.i64.wrap (((mm+m:Nat):Int)-(b:Int))=((mm+m-b:Nat):Int):=Ze7 (by omega) (by omega)
  simp only[yy,e1,e2,e3,e4,n1,n2,u1,hh,u2,if_false,if_pos (show(mm:Int)<(m:Int)by omega),e6]
  rw[w.zq77_h1_102];unfold y.zq77_h1_102
  simp only[yy,e5]
  rw[if_pos hc,if_pos hc]
 ·simp only[yy,e1,e2,e3,e4,n1,n2,u1,hh,u2,if_false,if_neg (show ¬(mm:Int)<(m:Int)by omega)]
  rw[w.zq77_h1_102];unfold y.zq77_h1_102
  simp only[yy,e5]
  rw[if_neg hc,if_neg hc]
section
variable {G:Fi->Prop}{cmp:Fi->Fi->Int}(ho:Ord e G cmp)
include ho
theorem v.symA (n:Nat)(hn2:n<=1000000000)(pre xs ys suf:List Fi)(hx:xs≠ [])(hy:ys≠ [])(hsx:So cmp xs)(hsy:So cmp ys)(hG:∀f∈pre++xs++ys++suf,G f)(hn:(pre++xs++ys++suf).length=n)(h1:xs.length=1):∃zs:List Fi,zs.Perm (xs++ys)/\So cmp zs/\vl e 11153 1 [I n,I pre.length,I (pre.length+xs.length:Nat),I (pre.length+xs.length+ys.length:Nat),cmpV,aggF (pre++xs++ys++suf)]=some (aggF (pre++zs++suf)):=by
 have hxp:=Xaz.2 hx
 have hyp:=Xaz.2 hy
 have hl:=hn
 simp only[Xaf]at hl
 obtain⟨a,ha⟩:∃a,a=pre.length:=⟨_,rfl⟩
 obtain⟨m,hm⟩:∃m,m=pre.length+xs.length:=⟨_,rfl⟩
 obtain⟨b,hb⟩:∃b,b=pre.length+xs.length+ys.length:=⟨_,rfl⟩
 rw[<-hb, <-hm, <-ha]
 rw[w.zq77_h1];unfold y.zq77_h1
 match xs,h1 with
 | [x],_=>
 simp only[Xax,Xa7]at*
 obtain⟨p,r1,r2,r3,r4⟩:=v.sym12 ho n hn2 pre ys suf x (by simpa using hG) hsy (by simpa using hn) ys.length 0 ys.length (by omega) (by omega) (Xag _) (fun k _ h=>absurd h (by omega)) (fun k h1 h2=>absurd h1 (by omega))
 have r5:=v.sym31 (e:=e) n hn2 (ys.take p) pre (ys.drop p++suf) x (pre.length+1+p) pre.length rfl (by simp;omega) (by rw[<-hn];simp;omega)
 have q1:=Zi2 (P:=fun t=>cmp t x<0) r2
 have q2:=Zf6 (P:=fun t=> ¬cmp t x<0) r3
 refine⟨ys.take p++x::ys.drop p, ?_, ?_, ?_⟩
 ·exact Xfk.trans (by simp)
 ·refine Xb7.2 ⟨hsy.sublist (Xfh _ _),Xci.2 ⟨fun t ht=>q2 t ht,hsy.sublist (Xeo _ _)⟩,fun u hu t ht=> ?_⟩
  rcases Xa0.1 ht with rfl|ht
  ·exact ho.asy _ _ (q1 u hu)
  ·exact ho.asy _ _ (Z03 ho (q1 u hu) (q2 t ht))
 ·simp only[yy,Ze7 (show a<=m by omega) (by omega),if_pos (show((m-a:Nat):Int)=1 by omega)]
  rw[show pre++ [x]++ys++suf=pre++x::ys++suf by simp,show m=pre.length+1+0 by omega,show b=pre.length+1+ys.length by omega,ha,r4,
   show pre++x::ys++suf=pre++x::ys.take p++(ys.drop p++suf)by rw[Xaj,Xbq,Xaj pre,Xbq, <-Xaj (ys.take p),Xbl],r5]
  simp
theorem v.symB (n:Nat)(hn2:n<=1000000000)(pre xs ys suf:List Fi)(hx:xs≠ [])(hy:ys≠ [])(hsx:So cmp xs)(hsy:So cmp ys)(hG:∀f∈pre++xs++ys++suf,G f)(hn:(pre++xs++ys++suf).length=n)(h1: ¬xs.length=1)(h2:ys.length=1):∃zs:List Fi,zs.Perm (xs++ys)/\So cmp zs/\vl e 11153 1 [I n,I pre.length,I (pre.length+xs.length:Nat),I (pre.length+xs.length+ys.length:Nat),cmpV,aggF (pre++xs++ys++suf)]=some (aggF (pre++zs++suf)):=by
 have hxp:=Xaz.2 hx
 have hyp:=Xaz.2 hy
 have hl:=hn
 simp only[Xaf]at hl
 obtain⟨a,ha⟩:∃a,a=pre.length:=⟨_,rfl⟩
 obtain⟨m,hm⟩:∃m,m=pre.length+xs.length:=⟨_,rfl⟩
 obtain⟨b,hb⟩:∃b,b=pre.length+xs.length+ys.length:=⟨_,rfl⟩
 rw[<-hb, <-hm, <-ha]
 rw[w.zq77_h1];unfold y.zq77_h1
 match ys,h2 with
 | [u],_=>
 simp only[Xax,Xa7]at*
 obtain⟨p,r1,r2,r3,r4⟩:=v.sym54 ho n hn2 pre xs suf u (by simpa using hG) hsx (by simpa using hn) m hm xs.length 0 xs.length (by omega) (by omega) (Xag _) (fun k _ h=>absurd h (by omega)) (fun k h1 h2=>absurd h1 (by omega))
 have r5:=v.sym73 (e:=e) n hn2 (xs.drop p) (pre++xs.take p) suf u (pre.length+p) m (by simp;omega) (by simp;omega) (by rw[<-hn];simp)
 have q1:=Zi2 (P:=fun t=> ¬cmp u t<0) r2
 have q2:=Zf6 (P:=fun t=>cmp u t<0) r3
 refine⟨xs.take p++u::xs.drop p, ?_, ?_, ?_⟩
 ·refine Xfk.trans ?_
  rw[Xbl]
  exact Xd4 (l₁:=[u])
 ·refine Xb7.2 ⟨hsx.sublist (Xfh _ _),Xci.2 ⟨fun t ht=>ho.asy _ _ (q2 t ht),hsx.sublist (Xeo _ _)⟩,fun s hs t ht=> ?_⟩
  rcases Xa0.1 ht with rfl|ht
  ·exact q1 s hs
  ·exact ho.tr _ _ _ (q1 s hs) (ho.asy _ _ (q2 t ht))
 ·simp only[yy,Ze7 (show a<=m by omega) (by omega),if_neg (show ¬((m-a:Nat):Int)=1 by omega),Ze7 (show m<=b by omega) (by omega),if_pos (show((b-m:Nat):Int)=1 by omega)]
  rw[<-hm,Xc5, <-ha]at r4
  rw[<-ha]at r5
  rw[show pre++xs++ [u]++suf=pre++xs++u::suf by simp,r4,show pre++xs++u::suf=pre++xs.take p++xs.drop p++u::suf by rw[Xaj pre (xs.take p),Xbl],r5]
  simp
theorem v.symC (n:Nat)(hn2:n<=1000000000)(pre xs ys suf:List Fi)(hx:xs≠ [])(hy:ys≠ [])(hsx:So cmp xs)(hsy:So cmp ys)(hG:∀f∈pre++xs++ys++suf,G f)(hn:(pre++xs++ys++suf).length=n)
  (k:Nat) (ih:∀(pre xs ys suf:List Fi),xs≠ []->ys≠ []->xs.length+ys.length<=k->So cmp xs->So cmp ys->(∀f∈pre++xs++ys++suf,G f)->(pre++xs++ys++suf).length=n->
  ∃zs:List Fi,zs.Perm (xs++ys)/\So cmp zs/\vl e 11153 1 [I n,I pre.length,I (pre.length+xs.length:Nat),I (pre.length+xs.length+ys.length:Nat),cmpV,aggF (pre++xs++ys++suf)]=some (aggF (pre++zs++suf))) (hk:xs.length+ys.length<=k+1) (h1: ¬xs.length=1) (h2: ¬ys.length=1):∃zs:List Fi,zs.Perm (xs++ys)/\So cmp zs/\vl e 11153 1 [I n,I pre.length,I (pre.length+xs.length:Nat),I (pre.length+xs.length+ys.length:Nat),cmpV,aggF (pre++xs++ys++suf)]=some (aggF (pre++zs++suf)):=by
 have hxp:=Xaz.2 hx
 have hyp:=Xaz.2 hy
 have hl:=hn
 simp only[Xaf]at hl
 obtain⟨a,ha⟩:∃a,a=pre.length:=⟨_,rfl⟩
 obtain⟨m,hm⟩:∃m,m=pre.length+xs.length:=⟨_,rfl⟩
 obtain⟨b,hb⟩:∃b,b=pre.length+xs.length+ys.length:=⟨_,rfl⟩
 rw[<-hb, <-hm, <-ha]
 --the general case
 obtain⟨mm,hmm⟩:∃mm,mm=(a+b)/2:=⟨_,rfl⟩
 obtain⟨nn,hnn⟩:∃nn,nn=mm+m:=⟨_,rfl⟩
 obtain⟨L,hL⟩:∃L,L=pre++xs++ys++suf:=⟨_,rfl⟩
 obtain⟨lo,hlo⟩:∃lo,lo=if mm<m then nn-b else a:=⟨_,rfl⟩
 obtain⟨hi,hhi⟩:∃hi,hi=if mm<m then mm else m:=⟨_,rfl⟩
 have hb1:lo<=hi/\a<=lo/\hi<=m/\hi<=mm/\nn<=lo+b/\m<=nn-hi/\hi<=nn:=by
  by_cases hc:mm<m
  ·rw[if_pos hc]at hlo hhi;omega
  ·rw[if_neg hc]at hlo hhi;omega
 have dx:∀c (h:c-a<xs.length),a<=c->L.getD c ([],[])=xs[c-a]:=by
  intro c h hac
  have:c<L.length:=by rw[hL,hn];omega
  rw[Xfb,Xad this,Xb1,Xb9 hL]
  rw[Xcj (by simp;omega),Xcj (by simp;omega),Xbz (by omega)]
  simp only[ha]
 have dy:∀c (h:c-m<ys.length),m<=c->L.getD c ([],[])=ys[c-m]:=by
  intro c h hac
  have:c<L.length:=by rw[hL,hn];omega
  rw[Xfb,Xad this,Xb1,Xb9 hL]
  rw[Xcj (by simp;omega),Xbz (by simp;omega)]
  simp only[Xaf,hm]
 obtain⟨s,s1,s2,s3,s4,s5⟩:=v.sym106 ho n hn2 L (by rw[hL,hn]) (by rw[hL];exact hG) a m b mm nn lo hi (by omega) (by omega) (fun c _ _=>by omega) (fun c c' k1 k2 k3 hle=>by
  have f1:=dx c (by omega) (by omega)
  have f2:=dx c' (by omega) (by omega)
  have f3:=dy (nn-1-c) (by omega) (by omega)
  have f4:=dy (nn-1-c') (by omega) (by omega)
  rw[f4,f2]at hle
  rw[f1,f3]
  have g1:Le cmp (xs[c-a]'(by omega)) (xs[c'-a]'(by omega)):=Zfi ho hsx (by omega) (by omega)
  have g2:Le cmp (ys[nn-1-c'-m]'(by omega)) (ys[nn-1-c-m]'(by omega)):=Zfi ho hsy (by omega) (by omega)
  exact ho.tr _ _ _ (ho.tr _ _ _ g1 hle) g2) (hi-lo) lo hi (Xag _) (Xag _) hb1.1 (Xag _) (fun c k1 k2=>absurd k1 (by omega)) (fun c k1 k2=>absurd k1 (by omega))
 obtain⟨en,hen⟩:∃en,en=nn-s:=⟨_,rfl⟩
 obtain⟨x1,x2,hx12,hx1⟩:∃x1 x2,xs=x1++x2/\x1.length=s-a:=⟨xs.take (s-a),xs.drop (s-a),Zgs _ _,by simp;omega⟩
 obtain⟨y1,y2,hy12,hy1⟩:∃y1 y2,ys=y1++y2/\y1.length=en-m:=⟨ys.take (en-m),ys.drop (en-m),Zgs _ _,by simp;omega⟩
 have hxl:xs.length=x1.length+x2.length:=by rw[hx12,Xaf]
 have hyl:ys.length=y1.length+y2.length:=by rw[hy12,Xaf]
 have sx:=Xb7.1 (hx12▸hsx)
 have sy:=Xb7.1 (hy12▸hsy)
 have c12:∀u∈x1, ∀t∈y2,Le cmp u t:=by
  intro u hu t ht
  obtain⟨i,hi',rfl⟩:=Xb3.1 hu
  obtain⟨j,hj,rfl⟩:=Xb3.1 ht
  have hlt:lo<s:=by
   refine Nat.lt_of_le_of_ne s1 fun h=> ?_
   by_cases hc:mm<m
   ·rw[if_pos hc]at hlo;omega
   ·rw[if_neg hc]at hlo;omega
  have hP:=s3 (s-1) (by omega) (by omega)
  rw[dx (s-1) (by omega) (by omega),dy (nn-1-(s-1)) (by omega) (by omega)]at hP
  have g1:Le cmp (xs[i]'(by omega)) (xs[s-1-a]'(by omega)):=Zfi ho hsx (by omega) (by omega)
  have g2:Le cmp (ys[nn-1-(s-1)-m]'(by omega)) (ys[y1.length+j]'(by omega)):=Zfi ho hsy (by omega) (by omega)
  have g3:=ho.tr _ _ _ (ho.tr _ _ _ g1 hP) g2
  have f1:xs[i]'(by omega)=x1[i]:=by rw[Xb9 hx12,Xcj hi']
  have f2:ys[y1.length+j]'(by omega)=y2[j]:=by rw[Xb9 hy12,Xbz (by omega)];simp
  rw[f1,f2]at g3
  exact g3
 have c21:∀t∈y1, ∀u∈x2,Le cmp t u:=by
  intro t ht u hu
  obtain⟨i,hi',rfl⟩:=Xb3.1 hu
  obtain⟨j,hj,rfl⟩:=Xb3.1 ht
  have hlt:s<hi:=by
   refine Nat.lt_of_le_of_ne s2 fun h=> ?_
   by_cases hc:mm<m
   ·rw[if_pos hc]at hhi;omega
   ·rw[if_neg hc]at hhi;omega
  have hP:=s4 s (Xag _) hlt
  rw[dx s (by omega) (by omega),dy (nn-1-s) (by omega) (by omega)]at hP
  have g1:Le cmp (xs[s-a]'(by omega)) (xs[x1.length+i]'(by omega)):=Zfi ho hsx (by omega) (by omega)
  have g2:Le cmp (ys[j]'(by omega)) (ys[nn-1-s-m]'(by omega)):=Zfi ho hsy (by omega) (by omega)
  have g3:=ho.tr _ _ _ (ho.tr _ _ _ g2 (ho.asy _ _ hP)) g1
  have f1:xs[x1.length+i]'(by omega)=x2[i]:=by rw[Xb9 hx12,Xbz (by omega)];simp
  have f2:ys[j]'(by omega)=y1[j]:=by rw[Xb9 hy12,Xcj hj]
  rw[f1,f2]at g3
  exact g3
 have hrow:L=pre++x1++x2++y1++(y2++suf):=by rw[hL,hx12,hy12];simp
 have hperm:(x1++y1++(x2++y2)).Perm (xs++ys):=by
  rw[hx12,hy12]
  have:(y1++x2).Perm (x2++y1):=Xd4
  have:=(this.append_left x1).append_right y2
  simpa using this
 obtain⟨z1,z2,p1,p2,p3,p4,p5⟩:=v.sym129 (e:=e) (G:=G) (cmp:=cmp) n k hn2 ih pre x1 y1 x2 y2 suf sx.1 sy.1 sx.2.1 sy.2.1 (by omega) (by omega) (fun f hf=>hG f (by
  have:=((hperm.append_left pre).append_right suf).mem_iff (a:=f)
  simp only[Xaj]at this hf⊢
  exact this.1 hf)) (by rw[<-hn,hx12,hy12];simp;omega) a b mm s en ha (by omega) (by omega) (by omega) (by omega)
 have hrot:(if s<m/\m<en then vl e 11473 1 [I n,I s,I m,I en,cmpV,aggF L]else some (aggF L))=some (aggF (pre++(x1++y1)++(x2++y2)++suf)):=by
  by_cases hc:s<m/\m<en
  ·rw[if_pos hc]
   have:=v.rotF (e:=e) n s m en cmpV hn2 x2 y1 (pre++x1) (y2++suf) (Xaz.1 (by omega)) (Xaz.1 (by omega)) (by simp;omega) (by simp;omega) (by omega) (by rw[<-hn,hx12,hy12];simp)
   rw[hrow,this];simp
  ·rw[if_neg hc,hrow]
   have:x2=[] \/y1=[]:=by
    by_cases h0:x2=[]
    ·exact .inl h0
    ·have:=Xaz.2 h0
     exact .inr (Xbd (by omega))
   rcases this with rfl|rfl<;>simp
 have fin:vl e 11153 106 [I n,I a,I m,I b,cmpV,I mm,I nn,I lo,I hi,I (nn-1:Nat),aggF L]=some (aggF (pre++(z1++z2)++suf)):=by
  rw[s5,w.zq77_h1_106];unfold y.zq77_h1_106
  simp only[yy,if_neg (show ¬(s:Int)<(s:Int)by omega),Ze7 (show s<=nn by omega) (by omega), <-hen]
  by_cases hc1:s<m
  ·by_cases hc2:m<en
   ·rw[if_pos ⟨hc1,hc2⟩]at hrot
    simp only[yy,if_pos (show(s:Int)<(m:Int)by omega),if_pos (show(m:Int)<(en:Int)by omega),hrot]
    exact p5
   ·rw[if_neg (by omega)]at hrot
    have hrot:=V.agg.inj (Option.some.inj hrot)
    simp only[yy,if_pos (show(s:Int)<(m:Int)by omega),if_neg (show ¬(m:Int)<(en:Int)by omega)]
    rw[aggF,hrot];exact p5
  ·rw[if_neg (by omega)]at hrot
   have hrot:=V.agg.inj (Option.some.inj hrot)
   simp only[yy,if_neg (show ¬(s:Int)<(m:Int)by omega)]
   rw[aggF,hrot];exact p5
 refine⟨z1++z2,(p1.append p2).trans hperm, ?_, ?_⟩
 ·refine Xb7.2 ⟨p3,p4,fun u hu t ht=> ?_⟩
  rcases Xay.1 (p1.mem_iff.1 hu)with hu|hu<;>rcases Xay.1 (p2.mem_iff.1 ht)with ht|ht
  ·exact sx.2.2 u hu t ht
  ·exact c12 u hu t ht
  ·exact c21 u hu t ht
  ·exact sy.2.2 u hu t ht
 ·rw[<-hL,v.symE n a m b (by omega) (by omega) (by omega) (aggF L), <-hmm, <-hnn, <-hlo, <-hhi]
  exact fin
theorem v.sym (n:Nat)(hn2:n<=1000000000):∀(k:Nat) (pre xs ys suf:List Fi),xs≠ []->ys≠ []->xs.length+ys.length<=k->So cmp xs->So cmp ys->(∀f∈pre++xs++ys++suf,G f)->(pre++xs++ys++suf).length=n->
  ∃zs:List Fi,zs.Perm (xs++ys)/\So cmp zs/\vl e 11153 1 [I n,I pre.length,I (pre.length+xs.length:Nat),I (pre.length+xs.length+ys.length:Nat),cmpV,aggF (pre++xs++ys++suf)]=some (aggF (pre++zs++suf)):=by
 intro k
 induction k with
 |zero=>intro pre xs ys suf hx hy hk;have:=Xaz.2 hx;omega
 |succ k ih=>
  intro pre xs ys suf hx hy hk hsx hsy hG hn
  by_cases h1:xs.length=1
  ·exact v.symA ho n hn2 pre xs ys suf hx hy hsx hsy hG hn h1
  by_cases h2:ys.length=1
  ·exact v.symB ho n hn2 pre xs ys suf hx hy hsx hsy hG hn h1 h2
  exact v.symC ho n hn2 pre xs ys suf hx hy hsx hsy hG hn k ih hk h1 h2
end
end Go.Proofs.YtpmgdngjbdkdfaaGreatDoor
namespace Go.Proofs.YtpmgdngjbdkdfaaGreatDoor
open Go.Abs
set_option maxRecDepth 10000
variable {e:Ev}
inductive Bk (cmp:Fi->Fi->Int)(bs:Nat):List Fi->Prop
 |last {l:List Fi} (h:l.length<=bs) (hs:So cmp l):Bk cmp bs l
 |cons {x r:List Fi} (h:x.length=bs) (hs:So cmp x) (hr:Bk cmp bs r):Bk cmp bs (x++r)
theorem v.ins0 (n a:Nat)(ha:a<=1000000000)(l:List Fi):vl e 11137 1 [I n,I a,I a,cmpV,aggF l]=some (aggF l):=by
 rw[w.zq73_h1];unfold y.zq73_h1
 simp only[yy,Zam (show a<a+1 by omega) (by omega)]
 rw[w.zq73_h1_5];unfold y.zq73_h1_5
 simp only[yy,if_neg (show ¬((a+1:Nat):Int)<(a:Int)by omega)]
section
variable {G:Fi->Prop}{cmp:Fi->Fi->Int}(ho:Ord e G cmp)
include ho
theorem v.stab8 (n:Nat)(hn2:n<=1000000000):∀(k:Nat) (D R:List Fi),R.length<=k->(∀f∈D++R,G f)->(D++R).length=n->
  ∃R':List Fi,R'.Perm R/\Bk cmp 20 R'/\vl e 10849 8 [I n,I n,cmpV,I 20,I D.length,I (D.length+20:Nat),aggF (D++R)]=vl e 10849 24 [I n,I n,cmpV,I 20,aggF (D++R')]:=by
 intro k
 induction k with
 |zero=>
  intro D R hk hG hn
  have:R=[]:=Xbd (by omega)
  subst this
  simp only[Xao]at*
  refine⟨[], .refl _, .last (by simp) (by simp[So]), ?_⟩
  rw[w.zq75_h1_8];unfold y.zq75_h1_8
  have:=v.ins0 (e:=e) n D.length (by omega) D
  rw[hn]at this
  simp only[yy,hn,if_neg (show ¬((n+20:Nat):Int)<=(n:Int)by omega),this,Xao]
 |succ k ih=>
  intro D R hk hG hn
  have hl:=hn
  simp only[Xaf]at hl
  rw[w.zq75_h1_8];unfold y.zq75_h1_8
  by_cases hc:D.length+20<=n
  ·obtain⟨x,r,hR,hx⟩:∃x r,R=x++r/\x.length=20:=⟨R.take 20,R.drop 20,Zgs _ _,by simp;omega⟩
   subst hR
   simp only[Xaf]at*
   obtain⟨S,q1,q2,q3⟩:=v.ins ho D x r (by simpa using hG) (by simp;omega) (Xaz.1 (by omega))
   have hS:S.length=20:=by rw[q1.length_eq,hx]
   obtain⟨R',r1,r2,r3⟩:=ih (D++S) r (by omega) (fun f hf=>hG f (by
    have:=((q1.append_left D).append_right r).mem_iff (a:=f)
    simp only[Xaj]at this hf
    exact this.1 hf)) (by simp;omega)
   refine⟨S++R',q1.append r1, .cons hS q2 r2, ?_⟩
   rw[show(D++x++r).length=n by simp;omega,hx]at q3
   rw[show(D++S).length=D.length+20 by simp;omega]at r3
   simp only[yy,if_pos (show((D.length+20:Nat):Int)<=(n:Int)by omega)]
   rw[show D++(x++r)=D++x++r by simp,q3]
   have e20:IntKind.i64.wrap (((D.length+20:Nat):Int)+20)=((D.length+20+20:Nat):Int):=Zed (b:=20) (by omega)
   simp only[Xak,e20]
   rw[r3];simp
  ·by_cases h0:R=[]
   ·subst h0
    simp only[Xao,Xa7]at*
    refine⟨[], .refl _, .last (by simp) (by simp[So]), ?_⟩
    have:=v.ins0 (e:=e) n D.length (by omega) D
    rw[hn]at this
    simp only[yy,hn,if_neg (show ¬((n+20:Nat):Int)<=(n:Int)by omega),this,Xao]
   ·obtain⟨S,q1,q2,q3⟩:=v.ins ho D R [] (by simpa using hG) (by simp;omega) h0
    refine⟨S,q1, .last (by rw[q1.length_eq];omega) q2, ?_⟩
    simp only[Xao]at q3
    rw[hn,show D.length+R.length=n by omega]at q3
    simp only[yy,if_neg (show ¬((D.length+20:Nat):Int)<=(n:Int)by omega),q3]
theorem v.stab36 (n:Nat)(hn2:n<=1000000000)(bs:Nat)(hbs:0<bs)(hb2:bs<=n):∀(k:Nat) (D R:List Fi),R.length<=k->Bk cmp bs R->(∀f∈D++R,G f)->(D++R).length=n->
  ∃R':List Fi,R'.Perm R/\Bk cmp (2*bs) R'/\vl e 10849 36 [I n,I n,cmpV,I bs,I D.length,I (D.length+2*bs:Nat),aggF (D++R)]=vl e 10849 24 [I n,I n,cmpV,I (2*bs:Nat),aggF (D++R')]:=by
 have m2:IntKind.i64.wrap (2*(bs:Int))=((2*bs:Nat):Int):=Z3h (a:=2) (by omega)
 have m3:IntKind.i64.wrap ((bs:Int)*2)=((2*bs:Nat):Int):=by rw[Int.mul_comm];exact m2
 have w2:evp (.bin .mul .no) [.int .i64 2,I bs]=some (I (2*bs:Nat)):=by rw[Zj8,m2]
 have w3:evp (.bin .mul .no) [I bs, .int .i64 2]=some (I (2*bs:Nat)):=by rw[Zj8,m3]
 intro k
 induction k with
 |zero=>
  intro D R hk hB hG hn
  have:R=[]:=Xbd (by omega)
  subst this
  simp only[Xao]at*
  refine⟨[], .refl _, .last (by simp) (by simp[So]), ?_⟩
  rw[w.zq75_h1_36];unfold y.zq75_h1_36
  simp only[yy,if_neg (show ¬((D.length+2*bs:Nat):Int)<=(n:Int)by omega),Zed (show D.length+bs<=_ by omega),if_neg (show ¬((D.length+bs:Nat):Int)<(n:Int)by omega),w3,Xao]
 |succ k ih=>
  intro D R hk hB hG hn
  have hl:=hn
  simp only[Xaf]at hl
  rw[w.zq75_h1_36];unfold y.zq75_h1_36
  by_cases hc:D.length+2*bs<=n
  ·obtain⟨x,z,r,hR,hx,hz,sx,sz,hBr⟩:∃x z r,R=x++z++r/\x.length=bs/\z.length=bs/\So cmp x/\So cmp z/\Bk cmp bs r:=by
    cases hB with
    |last h hs=>omega
    | @cons x r h hs hr=>
     cases hr with
     |last h2 hs2=>exact⟨x,r,[],by simp,h,by simp at hl;omega,hs,hs2, .last (by simp) (by simp[So])⟩
     | @cons z r' h2 hs2 hr2=>exact⟨x,z,r',by simp,h,h2,hs,hs2,hr2⟩
   subst hR
   simp only[Xaf]at*
   obtain⟨S,q1,q2,q3⟩:=v.sym ho n hn2 (x.length+z.length) D x z r (Xaz.1 (by omega)) (Xaz.1 (by omega)) (Xag _) sx sz (by simpa using hG) (by simp;omega)
   have hS:S.length=2*bs:=by rw[q1.length_eq,Xaf];omega
   obtain⟨R',r1,r2,r3⟩:=ih (D++S) r (by omega) hBr (fun f hf=>hG f (by
    have:=((q1.append_left D).append_right r).mem_iff (a:=f)
    simp only[Xaj]at this hf⊢
    exact this.1 hf)) (by simp;omega)
   refine⟨S++R',q1.append r1, .cons hS q2 r2, ?_⟩
   rw[show D.length+x.length+z.length=D.length+2*bs by omega,hx]at q3
   rw[show(D++S).length=D.length+2*bs by simp;omega]at r3
   simp only[yy,if_pos (show((D.length+2*bs:Nat):Int)<=(n:Int)by omega),Zed (show D.length+bs<=_ by omega),w2,Zed (show D.length+2*bs+2*bs<=_ by omega)]
   rw[show D++(x++z++r)=D++x++z++r by simp,q3]
   simp only[Xak]
   rw[r3];simp
  ·by_cases hm:D.length+bs<n
   ·obtain⟨x,z,hR,hx,hz,sx,sz⟩:∃x z,R=x++z/\x.length=bs/\0<z.length/\So cmp x/\So cmp z:=by
     cases hB with
     |last h hs=>omega
     | @cons x r h hs hr=>
      cases hr with
      |last h2 hs2=>exact⟨x,r,rfl,h,by simp at hl;omega,hs,hs2⟩
      | @cons z r' h2 hs2 hr2=>simp at hl;omega
    subst hR
    simp only[Xaf]at*
    obtain⟨S,q1,q2,q3⟩:=v.sym ho n hn2 (x.length+z.length) D x z [] (Xaz.1 (by omega)) (Xaz.1 (by omega)) (Xag _) sx sz (by simpa using hG) (by simp;omega)
    refine⟨S,q1, .last (by rw[q1.length_eq,Xaf];omega) q2, ?_⟩
    rw[show D.length+x.length+z.length=n by omega,hx]at q3
    simp only[Xao]at q3
    simp only[yy,if_neg (show ¬((D.length+2*bs:Nat):Int)<=(n:Int)by omega),Zed (show D.length+bs<=_ by omega),if_pos (show((D.length+bs:Nat):Int)<(n:Int)by omega),w3]
    rw[show D++(x++z)=D++x++z by simp,q3]
    rfl
   ·refine⟨R, .refl _, .last (by omega) ?_, ?_⟩
    ·cases hB with
     |last h hs=>exact hs
     | @cons x r h hs hr=>
      simp only[Xaf]at hl
      have:r=[]:=Xbd (by omega)
      subst this;simpa using hs
    ·simp only[yy,if_neg (show ¬((D.length+2*bs:Nat):Int)<=(n:Int)by omega),Zed (show D.length+bs<=_ by omega),if_neg (show ¬((D.length+bs:Nat):Int)<(n:Int)by omega),w3]
theorem v.stab24 (n:Nat)(hn2:n<=1000000000):∀(k bs:Nat) (l:List Fi),0<bs->n-bs<=k->Bk cmp bs l->(∀f∈l,G f)->l.length=n->
  ∃S:List Fi,S.Perm l/\So cmp S/\vl e 10849 24 [I n,I n,cmpV,I bs,aggF l]=some (aggF S):=by
 intro k
 have fin:∀(bs:Nat) (l:List Fi),n<=bs->0<bs->Bk cmp bs l->l.length=n-> ∃S:List Fi,S.Perm l/\So cmp S/\vl e 10849 24 [I n,I n,cmpV,I bs,aggF l]=some (aggF S):=by
  intro bs l hbs hb0 hB hn
  refine⟨l, .refl _, ?_, ?_⟩
  ·cases hB with
   |last h hs=>exact hs
   | @cons x r h hs hr=>
    simp only[Xaf]at hn
    have:r=[]:=Xbd (by omega)
    subst this;simpa using hs
  ·rw[w.zq75_h1_24];unfold y.zq75_h1_24
   simp only[yy,if_neg (show ¬(bs:Int)<(n:Int)by omega)]
 induction k with
 |zero=>intro bs l hb0 hk hB hG hn;exact fin bs l (by omega) hb0 hB hn
 |succ k ih=>
  intro bs l hb0 hk hB hG hn
  by_cases hc:bs<n
  ·obtain⟨R',r1,r2,r3⟩:=v.stab36 ho n hn2 bs hb0 (by omega) l.length [] l (Xag _) hB (by simpa using hG) (by simpa using hn)
   obtain⟨S,q1,q2,q3⟩:=ih (2*bs) R' (by omega) (by omega) r2 (fun f hf=>hG f (r1.mem_iff.1 hf)) (by rw[r1.length_eq,hn])
   refine⟨S,q1.trans r1,q2, ?_⟩
   have m2:IntKind.i64.wrap (2*(bs:Int))=((2*bs:Nat):Int):=Z3h (a:=2) (by omega)
   rw[w.zq75_h1_24];unfold y.zq75_h1_24
   simp only[Xa7,Xba,Xan]at r3
   simp only[yy,if_pos (show(bs:Int)<(n:Int)by omega),Zj8,m2]
   exact r3.trans q3
  ·exact fin bs l (by omega) hb0 hB hn
theorem v.sort (l:List Fi)(hG:∀f∈l,G f)(hn2:l.length<=1000000000):
  ∃S:List Fi,S.Perm l/\So cmp S/\vl e 10544 1 [I l.length,cmpV,aggF l]=some (aggF S):=by
 obtain⟨R',r1,r2,r3⟩:=v.stab8 ho l.length hn2 l.length [] l (Xag _) (by simpa using hG) (by simp)
 obtain⟨S,q1,q2,q3⟩:=v.stab24 ho l.length hn2 l.length 20 R' (by omega) (by omega) r2 (fun f hf=>hG f (r1.mem_iff.1 hf)) r1.length_eq
 refine⟨S,q1.trans r1,q2, ?_⟩
 rw[w.zq72_h0];unfold y.zq72_h0
 have:vl e 10849 1 [I l.length,I l.length,cmpV,aggF l]=some (aggF S):=by
  rw[w.zq75_h1];unfold y.zq75_h1
  exact r3.trans q3
 simp only[yy,this]
end
end Go.Proofs.YtpmgdngjbdkdfaaGreatDoor
namespace Go.Proofs.YtpmgdngjbdkdfaaGreatDoor
open Go.Abs
set_option maxRecDepth 10000
theorem Zbe (c:UInt8)(s:Bytes):Zae c s≠ []:=by
 cases s with
 |nil=>simp[Zae]
 |cons b r=>simp only[Zae];split<;>(try split)<;>simp
def addH (cur:Bytes):List Bytes->List Bytes
 | []=> [cur]
 |x::xs=>(cur++x)::xs
theorem Zr7 {l:List Bytes}(h:l≠ []):addH [] l=l:=by
 cases l with
 |nil=>exact absurd rfl h
 |cons x xs=>rfl
theorem Znk (c:UInt8)(r cur:Bytes):addH cur (Zae c (c::r))=cur::Zae c r:=by simp[Zae,addH]
theorem Zo4 {c b:UInt8}(h:b≠c)(r cur:Bytes):addH cur (Zae c (b::r))=addH (cur++ [b]) (Zae c r):=by
 simp only[Zae,if_neg h]
 cases h':Zae c r with
 |nil=>exact absurd h' (Zbe _ _)
 |cons x xs=>simp[addH]
theorem Zx4 {α:Type}{l:List α}{i f:Nat}(h:i<l.length)(hf:f<=i):(l.take (i+1)).drop f=(l.take i).drop f++ [l[i]]:=by
 rw[List.take_add_one,Xad h,Option.toList_some,Xby (by simp;omega)]
theorem Zgk (c:UInt8)(b:Bytes):∀a:Bytes,Zae c (a++c::b)=Zae c a++Zae c b
 | []=>by simp[Zae]
 |x::a=>by
  have ih:=Zgk c b a
  simp only[Xbq,Zae]
  split
  ·rw[ih];rfl
  ·rw[ih]
   cases h:Zae c a with
   |nil=>exact absurd h (Zbe _ _)
   |cons y ys=>rfl
variable {e:Ev}
theorem v.hasPrefix0 (s p:Bytes):vl e 97 0 [.str s, .str p]=some (.bool (decide (s.take p.length=p))):=by
 rw[w.zq8];unfold y.zq8
 by_cases h:p.length<=s.length
 ·simp only[yy,if_pos (show(p.length:Int)<=(s.length:Int)by omega),Zk1 h]
 ·simp only[yy,if_neg (show ¬((p.length:Int)<=(s.length:Int))by omega)]
  exact Z5i fun h1=>by have:=congrArg List.length h1;simp at this;omega
theorem Z0y {s p:Bytes}(h:s.take p.length=p):p.length<=s.length:=by have:=congrArg List.length h;simp at this;omega
theorem v.cutPrefix (s p:Bytes):vl e 60 0 [.str s, .str p]=some (.tup [.str (if s.take p.length=p then s.drop p.length else s), .bool (decide (s.take p.length=p))]):=by
 rw[w.zq79];unfold y.zq79
 have h1:vl e 77 0 [.str s, .str p]=some (.tup [.str (if s.take p.length=p then s.drop p.length else s), .bool (decide (s.take p.length=p))]):=by
  rw[w.zq7];unfold y.zq7
  by_cases h:s.take p.length=p
  ·simp only[yy,v.hasPrefix0,if_pos h,Zk5 (Z0y h)];rw[decide_eq_true h]
  ·simp only[yy,v.hasPrefix0,if_neg h];rw[decide_eq_false h]
 simp only[yy,h1]
end Go.Proofs.YtpmgdngjbdkdfaaGreatDoor
namespace Go.Proofs.YtpmgdngjbdkdfaaGreatDoor
open Go.Abs
set_option maxRecDepth 10000
theorem Zc4 (c:UInt8):∀s:Bytes,(Zae c s).length<=s.length+1
 | []=>by simp[Zae]
 |b::r=>by
  have:=Zc4 c r
  simp only[Zae]
  split
  ·simp;omega
  ·split
   ·simp
   ·rename_i x xs h;rw[h]at this;simp at this⊢;omega
def tot (k:Nat):List Bytes->Nat
 | []=>0
 |x::r=>x.length+k+tot k r
theorem Zu5 (k:Nat):∀{l:List Bytes} {x:Bytes},x∈l->x.length+k<=tot k l
 |y::r,x,h=>by
  rcases Xa0.1 h with rfl|h
  ·simp[tot]
  ·have:=Zu5 k h;simp[tot];omega
theorem Zjl (c:UInt8):∀s:Bytes,tot 1 (Zae c s)=s.length+1
 | []=>by simp[Zae,tot]
 |b::r=>by
  have ih:=Zjl c r
  simp only[Zae]
  split
  ·simp[tot,ih];omega
  ·split
   ·rename_i h;exact absurd h (Zbe _ _)
   ·rename_i x xs h;rw[h]at ih;simp[tot]at ih⊢;omega
def Zhr (sep:Bytes):List Bytes->Bytes
 | []=> []
 | [x]=>x
 |x::y::r=>x++sep++Zhr sep (y::r)
theorem Zm5 (sep:Bytes):∀l:List Bytes,Lib.join l sep=Zhr sep l
 | []=>rfl
 | [x]=>by simp[Lib.join,List.intercalate,Zhr]
 |x::y::r=>by
  have ih:=Zm5 sep (y::r)
  simp only[Lib.join,List.intercalate]at ih⊢
  rw[Zhr, <-ih];simp[List.intersperse]
theorem Zec {c:UInt8}:∀{s:Bytes},c∉s->Zae c s=[s]
 | [],_=>rfl
 |b::r,h=>by
  simp only[Xa0,not_or]at h
  simp only[Zae,if_neg (Ne.symm h.1),Zec h.2]
def cmpB (a b:Bytes):Int:=if Op.bytesLess a b then-1 else if Op.bytesLess b a then 1 else 0
theorem Zc9 {a b:Bytes}:cmpB a b=0<->a=b:=by
 unfold cmpB
 cases h:Op.bytesLess a b
 ·cases h':Op.bytesLess b a
  ·simp[Zli h h']
  ·simp;rintro rfl;rw[Zbu]at h';cases h'
 ·simp;rintro rfl;rw[Zbu]at h;cases h
theorem Zoz (a b:Bytes):cmpB b a= -cmpB a b:=by
 unfold cmpB
 cases h:Op.bytesLess a b
 ·cases h':Op.bytesLess b a<;>simp
 ·simp[Zkb h]
theorem Zif {a b:Bytes}:cmpB a b<0<->Op.bytesLess a b=true:=by
 unfold cmpB
 cases h:Op.bytesLess a b
 ·cases h':Op.bytesLess b a<;>simp
 ·simp
theorem Zsl {a b c:Bytes}(h1:cmpB a b<0)(h2:cmpB b c<0):cmpB a c<0:=Zif.2 (Zeq (Zif.1 h1) (Zif.1 h2))
theorem Zso (a b:Bytes):cmpB a b= -1 \/cmpB a b=0 \/cmpB a b=1:=by
 unfold cmpB;split
 ·exact .inl rfl
 ·split
  ·exact .inr (.inr rfl)
  ·exact .inr (.inl rfl)
def cmpL :List Bytes->List Bytes->Int
 | [],[]=>0
 | [],_::_=> -1
 |_::_,[]=>1
 |a::r,b::s=>if cmpB a b=0 then cmpL r s else cmpB a b
theorem cmpL_zero :∀{a b:List Bytes},cmpL a b=0<->a=b
 | [],[]=>by simp[cmpL]
 | [],_::_=>by simp[cmpL]
 |_::_,[]=>by simp[cmpL]
 |a::r,b::s=>by
  simp only[cmpL]
  split
  ·rename_i h;rw[cmpL_zero,Xb8,Zc9.1 h];simp
  ·rename_i h
   simp only[h,false_iff]
   intro he
   simp only[Xb8]at he
   exact h (Zc9.2 he.1)
theorem Zhe :∀(a b:List Bytes),cmpL b a= -cmpL a b
 | [],[]=>rfl
 | [],_::_=>rfl
 |_::_,[]=>rfl
 |a::r,b::s=>by
  simp only[cmpL]
  rw[Zoz a b,Zhe r s]
  by_cases h:cmpB a b=0
  ·simp[h]
  ·simp[h]
theorem Zk2 :∀{a b c:List Bytes},cmpL a b<0->cmpL b c<0->cmpL a c<0
 | [],[],_,h,_=>by simp[cmpL]at h
 |_::_,[],_,h,_=>by simp[cmpL]at h
 |_,_::_,[],_,h=>by simp[cmpL]at h
 | [],_::_,_::_,_,_=>by simp[cmpL]
 |a::r,b::s,c::t,h1,h2=>by
  simp only[cmpL]at h1 h2⊢
  by_cases e1:cmpB a b=0
  ·have:=Zc9.1 e1;subst this
   rw[if_pos e1]at h1
   by_cases e2:cmpB a c=0
   ·rw[if_pos e2]at h2⊢;exact Zk2 h1 h2
   ·rw[if_neg e2]at h2⊢;exact h2
  ·rw[if_neg e1]at h1
   by_cases e2:cmpB b c=0
   ·have:=Zc9.1 e2;subst this
    rw[if_neg e1];exact h1
   ·rw[if_neg e2]at h2
    have:=Zsl h1 h2
    rw[if_neg (by omega)];exact this
theorem Zkh :∀(a b:List Bytes),cmpL a b= -1 \/cmpL a b=0 \/cmpL a b=1
 | [],[]=>by simp[cmpL]
 | [],_::_=>by simp[cmpL]
 |_::_,[]=>by simp[cmpL]
 |a::r,b::s=>by
  simp only[cmpL]
  split
  ·exact Zkh r s
  ·exact Zso a b
def Zai (c:UInt8):List Bytes->Bytes
 | []=> []
 | [x]=>x
 |x::y::r=>x++c::Zai c (y::r)
theorem Za5 (c:UInt8):∀s:Bytes,Zai c (Zae c s)=s
 | []=>rfl
 |b::r=>by
  simp only[Zae]
  have ih:=Za5 c r
  split
  ·rename_i h
   subst h
   cases h':Zae b r with
   |nil=>exact absurd h' (Zbe _ _)
   |cons x xs=>rw[h']at ih;simp[Zai,ih]
  ·cases h':Zae c r with
   |nil=>exact absurd h' (Zbe _ _)
   |cons x xs=>
    rw[h']at ih
    cases xs with
    |nil=>simp[Zai]at ih⊢;exact ih
    |cons y ys=>simp only[Zai]at ih⊢;rw[<-ih];rfl
def Zcc (p:Bytes):List Bytes:=if p=[]then []else Zae 47 p
theorem Zsy {p q:Bytes}(h:Zcc p=Zcc q):p=q:=by
 unfold Zcc at h
 split at h
 ·rename_i h1
  split at h
  ·rename_i h2;rw[h1,h2]
  ·exact absurd h.symm (Zbe _ _)
 ·split at h
  ·exact absurd h (Zbe _ _)
  ·have:=congrArg (Zai 47) h;rwa[Za5,Za5]at this
def pcmp (p q:Bytes):Int:=cmpL (Zcc p) (Zcc q)
theorem Znx {p q:Bytes}:pcmp p q=0<->p=q:=cmpL_zero.trans ⟨Zsy,fun h=>by rw[h]⟩
theorem Ze9 (p q:Bytes):pcmp q p= -pcmp p q:=Zhe _ _
theorem Zsp {p q r:Bytes}(h1:pcmp p q<0)(h2:pcmp q r<0):pcmp p r<0:=Zk2 h1 h2
theorem Zkz (p q:Bytes):pcmp p q= -1 \/pcmp p q=0 \/pcmp p q=1:=Zkh _ _
def Zbl (s:Bytes):Bool:= !decide (s=[])&& !decide (s=[46])&& !decide (s=[46,46])&& !decide ((0:UInt8)∈s)&& !decide ((47:UInt8)∈s)
def Zc8 (p:Bytes):Bool:=decide (p.length<=128)&&decide ((Zae 47 p).length<=16)&&(Zae 47 p).all Zbl
def Zch (d p:Bytes):Option Bytes:=if d=[]then(if p=[]then none else some p)else if p.take (d.length+1)=d++ [47]/\p.drop (d.length+1)≠ []then some (p.drop (d.length+1))else none
theorem Zbf (c:UInt8){s x:Bytes}(h:x∈Zae c s):x.length<=s.length:=by
 have:=Zu5 1 h
 rw[Zjl]at this;omega
theorem Zfx {p:Bytes}(h:Zc8 p=true):∀x∈Zae 47 p,Zbl x=true:=by
 simp only[Zc8,Xai]at h
 exact fun x hx=>Xal.1 h.2 x hx
theorem Zht {s:Bytes}(h:Zbl s=true):s≠ []:=by rintro rfl;simp[Zbl]at h
theorem Zgr {s:Bytes}(h:Zbl s=true):(47:UInt8)∉s:=by
 simp only[Zbl,Xai,Xbh,decide_eq_false_iff_not]at h
 exact h.2
theorem Z0h {p:Bytes}(h:Zc8 p=true):p≠ []:=by rintro rfl;simp[Zc8,Zae,Zbl]at h
theorem Zmk {p:Bytes}(h:Zc8 p=true):p.length<=128:=by
 simp only[Zc8,Xai,decide_eq_true_eq]at h
 exact h.1.1
theorem Zc1 (c:UInt8)(x:Bytes):∀l:List Bytes,l≠ []->Zai c (x::l)=x++c::Zai c l
 | [],h=>absurd rfl h
 |_::_,_=>rfl
theorem Zdu (c:UInt8):∀a b:List Bytes,a≠ []->b≠ []->Zai c (a++b)=Zai c a++c::Zai c b
 | [],_,h,_=>absurd rfl h
 | [x],b,_,hb=>by rw[Xc2,Zc1 _ _ _ hb];rfl
 |x::y::r,b,_,hb=>by
  have:=Zdu c (y::r) b (by simp) hb
  rw[Xbq,Zc1 _ _ _ (by simp),this]
  simp[Zai]
theorem Zft {D:List Bytes}(h:D≠ [])(hp:∀x∈D,Zbl x=true):Zai 47 D≠ []:=by
 cases D with
 |nil=>exact absurd rfl h
 |cons x r=>
  have:=Zht (hp x (by simp))
  cases r with
  |nil=>exact this
  |cons z r=>simp[Zai]
theorem Zhk {D:List Bytes}(h:D≠ [])(hp:∀x∈D,Zbl x=true):Zae 47 (Zai 47 D)=D:=by
 induction D with
 |nil=>exact absurd rfl h
 |cons x r ih=>
  cases r with
  |nil=>exact Zec (Zgr (hp x (by simp)))
  |cons z r=>
   rw[Zc1 _ _ _ (by simp),Zgk,ih (by simp) fun u hu=>hp u (by simp[hu]),Zec (Zgr (hp x (by simp)))];rfl
theorem Zlv {D R:List Bytes}{p:Bytes}(hD:∀x∈D,Zbl x=true)(hR:∀x∈R,Zbl x=true)(hRn:R≠ [])(hp:Zae 47 p=D++R):Zch (Zai 47 D) p=some (Zai 47 R):=by
 have hj:=Za5 47 p
 rw[hp]at hj
 have hr:=Zft hRn hR
 by_cases h:D=[]
 ·subst h
  simp only[Xba]at hj
  unfold Zch
  rw[if_pos (show Zai 47 []=[]from rfl),if_neg (by rw[<-hj];exact hr),hj]
 ·rw[Zdu 47 D R h hRn]at hj
  unfold Zch
  rw[if_neg (Zft h hD), <-hj]
  have e1:(Zai 47 D++47::Zai 47 R)=(Zai 47 D++ [47])++Zai 47 R:=by simp
  have e2:(Zai 47 D).length+1=(Zai 47 D++ [47]).length:=by simp
  rw[e1,e2,List.take_left,Xc9,if_pos ⟨rfl,hr⟩]
theorem Zhl {D:List Bytes}{p r:Bytes}(hD:∀x∈D,Zbl x=true)(h:Zch (Zai 47 D) p=some r):∃R,R≠ []/\Zae 47 p=D++R:=by
 unfold Zch at h
 by_cases h0:D=[]
 ·exact⟨Zae 47 p,Zbe _ _,by rw[h0];rfl⟩
 ·rw[if_neg (Zft h0 hD)]at h
  split at h
  ·rename_i hc
   refine⟨Zae 47 (p.drop ((Zai 47 D).length+1)),Zbe _ _, ?_⟩
   have:p=Zai 47 D++47::p.drop ((Zai 47 D).length+1):=by
    conv=>lhs;rw[<-Xbl ((Zai 47 D).length+1) p,hc.1]
    simp
   conv=>lhs;rw[this]
   rw[Zgk,Zhk h0 hD]
  ·cases h
theorem Zov {d p r:Bytes}(h:Zch d p=some r):r.length<=p.length:=by
 unfold Zch at h
 split at h
 ·split at h
  ·cases h
  ·cases h;exact Xag _
 ·split at h
  ·cases h;simp
  ·cases h
structure EnvT (e:Ev):Prop where
 split:∀(s:Bytes) (c:UInt8),s.length<4294967281->e 56 [.str s, .str [c]]=some (strs (Zae c s))
 contains:∀(s:Bytes) (c:UInt8),s.length<4294967281->e 76 [.str s, .str [c]]=some (.bool (decide (c∈s)))
 join:∀(l:List Bytes) (s:Bytes),l.length<=1000000000->(Zhr s l).length<=140737488355328->e 78 [strs l, .str s]=some (.str (Zhr s l))
variable {e:Ev}
theorem v.split (he:EnvT e)(s:Bytes)(c:UInt8)(hs:s.length<=4000000000):vl e 56 0 [.str s, .str [c]]=some (strs (Zae c s)):=Zp4 (by kernel_rfl) (he.split s c (by omega))
theorem v.contains (he:EnvT e)(s:Bytes)(c:UInt8)(hs:s.length<=4000000000):vl e 76 0 [.str s, .str [c]]=some (.bool (decide (c∈s))):=Zp4 (by kernel_rfl) (he.contains s c (by omega))
theorem v.join (he:EnvT e)(l:List Bytes)(s:Bytes)(hl:l.length<=1000000000)(hj:(Zhr s l).length<=140737488355328):vl e 78 0 [strs l, .str s]=some (.str (Zhr s l)):=Zp4 (by kernel_rfl) (he.join l s hl hj)
theorem v.pSplit (he:EnvT e)(p:Bytes)(hp:p.length<=4000000000):vl e 55 0 [.str p]=some (strs (Zcc p)):=by
 rw[w.zq22];unfold y.zq22 Zcc
 by_cases h:p=[]
 ·simp only[yy,if_pos h];rfl
 ·simp only[yy,if_neg h,v.split he p 47 hp]
theorem v.isNaN (s:Bytes):vl e 93 0 [.str s]=some (.bool false):=by
 rw[w.zq1];unfold y.zq1
 simp only[yy, ]
 simp
theorem v.cmpStr (a b:Bytes):vl e 73 0 [.str a, .str b]=some (I (cmpB a b)):=by
 rw[w.zq0];unfold y.zq0
 have h1:evp (.bin .gtr .no) [.str a, .str b]=some (.bool (Op.bytesLess b a)):=by
  show some (V.bool (!(Op.bytesLess a b||decide (a=b))))=_
  rw[Zlb]
 unfold cmpB
 simp only[yy,v.isNaN,h1,Z9e]
 cases Op.bytesLess a b
 ·cases Op.bytesLess b a<;>rfl
 ·rfl
theorem v.slCmp8 (a b:List Bytes)(ha:a.length<=1000000000)(hb:b.length<=1000000000):∀(n i:Nat),i+n=a.length->i<=b.length->vl e 54 8 [strs a,strs b,strs a,I a.length,I i]=some (I (cmpL (a.drop i) (b.drop i))):=by
 intro n
 induction n with
 |zero=>
  intro i hi hib
  rw[w.zq68_8];unfold y.zq68_8
  have e1:a.drop i=[]:=Xav (by omega)
  rw[e1]
  by_cases h:a.length<b.length
  ·simp only[yy,if_neg (show ¬((i:Int)<(a.length:Int))by omega),if_pos (show(a.length:Int)<(b.length:Int)by omega)]
   rw[Xap (show i<b.length by omega)];rfl
  ·simp only[yy,if_neg (show ¬((i:Int)<(a.length:Int))by omega),if_neg (show ¬(a.length:Int)<(b.length:Int)by omega)]
   rw[Xav (show b.length<=i by omega)];rfl
 |succ n ih=>
  intro i hi hib
  have ha':i<a.length:=by omega
  rw[w.zq68_8];unfold y.zq68_8
  by_cases hb':i<b.length
  ·have:=ih (i+1) (by omega) (by omega)
   have hd1:=Xap ha'
   have hd2:=Xap hb'
   rw[hd1,hd2,cmpL]
   by_cases hz:cmpB a[i] b[i]=0
   ·rw[if_pos hz]
    simp only[yy,if_pos (show(i:Int)<(a.length:Int)by omega),Zen ha',Zdw,if_neg (show ¬(b.length:Int)<=(i:Int)by omega),Zen hb',v.cmpStr,if_pos hz,Zam ha' (by omega)]
    exact this
   ·rw[if_neg hz]
    simp only[yy,if_pos (show(i:Int)<(a.length:Int)by omega),Zen ha',Zdw,if_neg (show ¬(b.length:Int)<=(i:Int)by omega),Zen hb',v.cmpStr,if_neg hz]
  ·rw[Xap ha',Xav (show b.length<=i by omega)]
   simp only[yy,if_pos (show(i:Int)<(a.length:Int)by omega),Zen ha',Zdw,if_pos (show(b.length:Int)<=(i:Int)by omega)]
   rfl
theorem Zdr (s:Bytes):(Zcc s).length<=s.length+1:=by
 unfold Zcc;split
 ·simp
 ·exact Zc4 47 s
theorem v.pCompare (he:EnvT e)(a b:Bytes)(ha:a.length<=1000000)(hb:b.length<=1000000):vl e 36 0 [.str a, .str b]=some (I (pcmp a b)):=by
 have h1:=Zdr a
 have h2:=Zdr b
 have h3:vl e 54 0 [strs (Zcc a),strs (Zcc b)]=some (I (pcmp a b)):=by
  rw[w.zq68];unfold y.zq68
  simp only[yy,Zd6]
  exact v.slCmp8 (Zcc a) (Zcc b) (by omega) (by omega) (Zcc a).length 0 (Xan _) (Xbw _)
 rw[w.zq16];unfold y.zq16
 simp only[yy,v.pSplit he a (by omega),v.pSplit he b (by omega),h3]
theorem v.ord (he:EnvT e):Ord e (fun f=>f.1.length<=1000000) (fun a b=>pcmp a.1 b.1) where
 run a b ha hb:=by
  show vl e 35 0 ([fv a,fv b]++ [])=_
  rw[Xao,w.zq32];unfold y.zq32
  have e1:∀x:Fi,evp .scs [fv x]=some (fv x):=fun x=>rfl
  have e2:∀x:Fi,evp (.ld none 0) [fv x]=some (.str x.1):=fun x=>rfl
  simp only[yy,e1,e2,v.pCompare he a.1 b.1 ha hb]
 asy a b h:=by rw[Ze9 a.1 b.1];omega
 tr a b c h1 h2 h3:=by
  have r1:=Zkz b.1 a.1
  have r2:=Zkz c.1 b.1
  have s1:=Ze9 b.1 a.1
  have s2:=Ze9 c.1 b.1
  have s3:=Ze9 c.1 a.1
  rcases r1 with r1|r1|r1
  ·omega
  ·rw[Znx.1 r1]at h2;omega
  ·rcases r2 with r2|r2|r2
   ·omega
   ·rw[Znx.1 r2]at h3;omega
   ·have:=Zsp (p:=a.1) (q:=b.1) (r:=c.1) (by omega) (by omega);omega
theorem v.part (he:EnvT e)(s:Bytes)(hs:s.length<=4000000000):vl e 59 0 [.str s]=some (.bool (Zbl s)):=by
 rw[w.zq24];unfold y.zq24 Zbl
 by_cases h1:s=[]
 ·simp only[yy,if_pos h1];simp[h1]
 by_cases h2:s=[46]
 ·simp only[yy,if_neg h1,if_pos h2];simp[h2]
 by_cases h3:s=[46,46]
 ·simp only[yy,if_neg h1,if_neg h2,if_pos h3];simp[h3]
 by_cases h4:(0:UInt8)∈s
 ·simp only[yy,if_neg h1,if_neg h2,if_neg h3,v.contains he s 0 hs,if_pos h4];simp[h4]
 ·simp only[yy,if_neg h1,if_neg h2,if_neg h3,v.contains he s 0 hs,if_neg h4,v.contains he s 47 hs];simp[h1,h2,h3,h4]
theorem v.gIdx (he:EnvT e)(l:List Bytes)(hl:l.length<=1000000)(hb:∀x∈l,x.length<=4000000000):∀(n i:Nat),i+n=l.length-> ∃z:Int,vl e 75 8 [strs l, .fn 58 [],I l.length,I i]=some (I z)/\(0<=z<->(l.drop i).all Zbl=false):=by
 intro n
 induction n with
 |zero=>
  intro i hi
  refine⟨-1, ?_,by rw[Xav (by omega)];simp⟩
  rw[w.zq71_8];unfold y.zq71_8
  simp only[yy,if_neg (show ¬((i:Int)<(l.length:Int))by omega)]
 |succ n ih=>
  intro i hi
  have hlt:i<l.length:=by omega
  have hp:Ze6 (vl e) (.fn 58 []) [.str l[i]]=some (.bool (!Zbl l[i])):=by
   show vl e 58 0 ([.str l[i]]++ [])=_
   rw[Xao,w.zq19];unfold y.zq19
   simp only[yy,v.part he l[i] (hb _ (Xau hlt))]
  have hd:=Xap hlt
  rw[w.zq71_8];unfold y.zq71_8
  cases hg:Zbl l[i]with
  |false=>
   rw[hg]at hp
   refine⟨i, ?_,by rw[hd,Xcu,hg];simp⟩
   simp only[yy,if_pos (show(i:Int)<(l.length:Int)by omega),Zen hlt,Zdw,cv,hp]
  |true=>
   rw[hg]at hp
   obtain⟨z,h1,h2⟩:=ih (i+1) (by omega)
   refine⟨z, ?_,by rw[hd,Xcu,hg,Xe0];exact h2⟩
   simp only[yy,if_pos (show(i:Int)<(l.length:Int)by omega),Zen hlt,Zdw,cv,hp,Zam hlt (by omega)]
   exact h1
theorem v.Good (he:EnvT e)(p:Bytes)(hp:p.length<=1000000):vl e 37 0 [.str p]=some (.bool (Zc8 p)):=by
 rw[w.zq18];unfold y.zq18 Zc8
 by_cases h1:p.length<=128
 ·have hl:=Zc4 47 p
  by_cases h2:(Zae 47 p).length<=16
  ·obtain⟨z,q1,q2⟩:=v.gIdx he (Zae 47 p) (by omega) (fun x hx=>by have:=Zbf 47 hx;omega) _ 0 (Xan _)
   have hc:vl e 57 0 [strs (Zae 47 p), .fn 58 []]=some (.bool (decide ((0:Int)<=z))):=by
    have h3:vl e 75 0 [strs (Zae 47 p), .fn 58 []]=some (I z):=by
     rw[w.zq71];unfold y.zq71
     simp only[yy,Zd6]
     exact q1
    rw[w.zq69];unfold y.zq69
    simp only[yy,h3]
   simp only[yy,if_neg (show ¬((128:Int)<(p.length:Int))by omega),v.split he p 47 (by omega),if_pos (show((Zae 47 p).length:Int)<=16 by omega),hc]
   rw[Xbc]at q2
   cases ha:(Zae 47 p).all Zbl with
   |false=>simp[h1,h2,q2.2 ha]
   |true=>
    have: ¬0<=z:=fun h=>by rw[q2.1 h]at ha;cases ha
    simp[h1,h2,this]
  ·simp only[yy,if_neg (show ¬((128:Int)<(p.length:Int))by omega),v.split he p 47 (by omega),if_neg (show ¬((Zae 47 p).length:Int)<=16 by omega)]
   simp[h2]
 ·simp only[yy,if_pos (show(128:Int)<(p.length:Int)by omega)]
  simp[h1]
theorem v.Under (d p:Bytes)(hd:d.length<=1000000)(hp:p.length<=1000000):∃x:Bytes,vl e 38 0 [.str d, .str p]=some (.tup [.str x, .bool (Zch d p).isSome])/\ ∀r,Zch d p=some r->x=r:=by
 rw[w.zq23];unfold y.zq23 Zch
 by_cases h:d=[]
 ·refine⟨p, ?_,fun r hr=> ?_⟩
  ·simp only[yy,if_pos h]
   by_cases h2:p=[]<;>simp[h2,h]
  ·rw[if_pos h]at hr
   split at hr<;>cases hr;rfl
 ·have ea:evp (.bin .add .no) [.str d, .str [47]]=some (.str (d++ [47])):=Ziq (by simp;omega)
  have hc:=v.cutPrefix (e:=e) p (d++ [47])
  have e2:(d++ [47]).length=d.length+1:=by simp
  rw[e2]at hc
  by_cases h1:p.take (d.length+1)=d++ [47]
  ·rw[if_pos h1,decide_eq_true h1]at hc
   refine⟨p.drop (d.length+1), ?_,fun r hr=> ?_⟩
   ·simp only[yy,if_neg h,ea,hc]
    by_cases h2:p.drop (d.length+1)=[]
    ·simp[h,h1,h2]
    ·rw[if_pos ⟨h1,h2⟩];simp[h2]
   ·rw[if_neg h]at hr
    split at hr<;>cases hr;rfl
  ·rw[if_neg h1,decide_eq_false h1]at hc
   refine⟨p, ?_,fun r hr=> ?_⟩
   ·simp only[yy,if_neg h,ea,hc]
    simp[h,h1]
   ·rw[if_neg h,if_neg (fun h2=>h1 h2.1)]at hr;cases hr
end Go.Proofs.YtpmgdngjbdkdfaaGreatDoor
namespace Go.Proofs.YtpmgdngjbdkdfaaGreatDoor
open Go.Abs
set_option maxRecDepth 10000
variable {e:Ev}
theorem v.rParts (p:Bytes)(hp:p.length<=1000000000):vl e 50 0 [.str p]=some (strs (Zae 47 p)):=by
 have hLim:Lim=4294967296:=rfl
 have key:∀(n i f:Nat) (acc:List Bytes),p.length+1=n+i->f<=i->acc.length<=i->
   (i<=p.length->vl e 50 12 [.str p,strs acc,I f,I i]=some (strs (acc++addH ((p.take i).drop f) (Zae 47 (p.drop i)))))/\(i=p.length+1->vl e 50 12 [.str p,strs acc,I f,I i]=some (strs acc)):=by
  intro n
  induction n with
  |zero=>
   intro i f acc hn hf ha
   refine⟨fun h=>by omega,fun h=> ?_⟩
   rw[w.zq54_12];unfold y.zq54_12
   simp only[yy,if_neg (show ¬((i:Int)<=(p.length:Int))by omega)]
  |succ n ih=>
   intro i f acc hn hf ha
   refine⟨fun hil=> ?_,fun h=>by omega⟩
   have e1:IntKind.i64.wrap ((i:Int)+1)=((i+1:Nat):Int):=w64 _ (by omega)
   rw[w.zq54_12];unfold y.zq54_12
   by_cases he:i=p.length
   ·have hih:=(ih (i+1) (i+1) (acc++ [(p.take i).drop f]) (by omega) (Xag _) (by simp;omega)).2 (by omega)
    simp only[yy,if_pos (show(i:Int)<=(p.length:Int)by omega),if_pos (show(i:Int)=(p.length:Int)by omega),Zvk hf hil,Zg0,Znb (show acc.length+1<=Lim by omega),e1,hih]
    rw[Xav (show p.length<=i by omega)]
    simp[Zae,addH]
   ·have hlt:i<p.length:=by omega
    by_cases hc:p[i]=47
    ·have hih:=(ih (i+1) (i+1) (acc++ [(p.take i).drop f]) (by omega) (Xag _) (by simp;omega)).1 (by omega)
     have hc':((p[i].toNat:Nat):Int)=47:=by rw[hc];rfl
     simp only[yy,if_pos (show(i:Int)<=(p.length:Int)by omega),if_neg (show ¬((i:Int)=(p.length:Int))by omega),Zj3 (Xad hlt),byteV,if_pos hc',Zvk hf hil,Zg0,Znb (show acc.length+1<=Lim by omega),e1]
     refine hih.trans ?_
     rw[Xap hlt,hc,Znk,Xaj]
     congr 2
     rw[show(p.take (i+1)).drop (i+1)=[]from Xav (by simp;omega),Zr7 (Zbe _ _)];rfl
    ·have hih:=(ih (i+1) f acc (by omega) (by omega) (by omega)).1 (by omega)
     have hne: ¬((p[i].toNat:Int)=47):=fun h=>hc (Xfa.1 (by rw[show(47:UInt8).toNat=47 from rfl];omega))
     simp only[yy,if_pos (show(i:Int)<=(p.length:Int)by omega),if_neg (show ¬((i:Int)=(p.length:Int))by omega),Zj3 (Xad hlt),byteV,if_neg hne,e1]
     refine hih.trans ?_
     rw[Xap hlt,Zo4 hc,Zx4 hlt hf]
 rw[w.zq54];unfold y.zq54
 refine((key (p.length+1) 0 0 [] (by omega) (Xag _) (Xag _)).1 (Xbw _)).trans ?_
 simp[Zr7 (Zbe _ _)]
theorem Zl8 {a b:UInt8}:((a.toNat:Nat):Int)=((b.toNat:Nat):Int)<->a=b:=⟨fun h=>Xfa.1 (by omega),fun h=>by rw[h]⟩
theorem v.rPart8 (s:Bytes)(hs:s.length<=1000000000):∀(n i:Nat),i+n=s.length->vl e 51 8 [.str s,I i]=some (.bool (decide ((0:UInt8)∉s.drop i)&&decide ((47:UInt8)∉s.drop i)&&(!decide (s=[])&& !decide (s=[46])&& !decide (s=[46,46])))):=by
 intro n
 induction n with
 |zero=>
  intro i hi
  rw[w.zq53_8,Xav (show s.length<=i by omega)];unfold y.zq53_8
  by_cases h1:s=[]
  ·simp only[yy,if_neg (show ¬((i:Int)<(s.length:Int))by omega),if_pos h1];simp[h1]
  by_cases h2:s=[46]
  ·simp only[yy,if_neg (show ¬((i:Int)<(s.length:Int))by omega),if_neg h1,if_pos h2];simp[h2]
  simp only[yy,if_neg (show ¬((i:Int)<(s.length:Int))by omega),if_neg h1,if_neg h2];simp[h1,h2]
 |succ n ih=>
  intro i hi
  have hlt:i<s.length:=by omega
  have hd:=Xap hlt
  rw[w.zq53_8];unfold y.zq53_8
  by_cases h0:s[i]=0
  ·have h0':((s[i].toNat:Nat):Int)=0:=by rw[h0];rfl
   simp only[yy,if_pos (show(i:Int)<(s.length:Int)by omega),Zj3 (Xad hlt),byteV,if_pos h0']
   have:(0:UInt8)∈s.drop i:=by rw[hd,h0];exact Xcr
   rw[decide_eq_false (fun h=>h this)];rfl
  ·have h0': ¬((s[i].toNat:Nat):Int)=0:=fun h=>h0 (Zl8.1 (by rw[h];rfl))
   by_cases h1:s[i]=47
   ·have h1':((s[i].toNat:Nat):Int)=47:=by rw[h1];rfl
    simp only[yy,if_pos (show(i:Int)<(s.length:Int)by omega),Zj3 (Xad hlt),byteV,if_neg h0',if_pos h1']
    have:(47:UInt8)∈s.drop i:=by rw[hd,h1];exact Xcr
    rw[decide_eq_false (p:= ¬(47:UInt8)∈s.drop i) (fun h=>h this),Xeq];rfl
   ·have h1': ¬((s[i].toNat:Nat):Int)=47:=fun h=>h1 (Zl8.1 (by rw[h];rfl))
    simp only[yy,if_pos (show(i:Int)<(s.length:Int)by omega),Zj3 (Xad hlt),byteV,if_neg h0',if_neg h1',Zam hlt (by omega)]
    have m0:(0:UInt8)∈s.drop i<->(0:UInt8)∈s.drop (i+1):=by rw[hd,Xa0];exact⟨fun h=>h.resolve_left (Ne.symm h0), .inr⟩
    have m1:(47:UInt8)∈s.drop i<->(47:UInt8)∈s.drop (i+1):=by rw[hd,Xa0];exact⟨fun h=>h.resolve_left (Ne.symm h1), .inr⟩
    rw[ih (i+1) (by omega)]
    simp only[m0,m1]
theorem v.rPart (s:Bytes)(hs:s.length<=1000000000):vl e 51 0 [.str s]=some (.bool (Zbl s)):=by
 rw[w.zq53];unfold y.zq53
 refine(v.rPart8 s hs s.length 0 (Xan _)).trans ?_
 rw[Xbc]
 unfold Zbl
 congr 2
 cases decide (s=[])<;>cases decide (s=[46])<;>cases decide (s=[46,46])<;>by_cases h4:(0:UInt8)∈s<;>by_cases h5:(47:UInt8)∈s<;>simp[h4,h5]
theorem v.rGood10 (p:Bytes)(l:List Bytes)(hl:l.length<=1000000000)(hb:∀x∈l,x.length<=1000000000):∀(n i:Nat),i+n=l.length->vl e 29 10 [.str p,strs l,strs l,I l.length,I i]=some (.bool ((l.drop i).all Zbl&&(decide (p.length<=128)&&decide (l.length<=16)))):=by
 intro n
 induction n with
 |zero=>
  intro i hi
  rw[w.zq51_10,Xav (show l.length<=i by omega)];unfold y.zq51_10
  by_cases h:p.length<=128
  ·simp only[yy,if_neg (show ¬((i:Int)<(l.length:Int))by omega),if_pos (show(p.length:Int)<=128 by omega)]
   rw[show decide ((l.length:Int)<=16)=decide (l.length<=16)from decide_eq_decide.2 (by omega)]
   simp[h]
  ·simp only[yy,if_neg (show ¬((i:Int)<(l.length:Int))by omega),if_neg (show ¬(p.length:Int)<=128 by omega)]
   simp[h]
 |succ n ih=>
  intro i hi
  have hlt:i<l.length:=by omega
  have hd:=Xap hlt
  have hp:=v.rPart (e:=e) l[i] (hb _ (Xau hlt))
  rw[w.zq51_10];unfold y.zq51_10
  cases hg:Zbl l[i]with
  |false=>
   rw[hg]at hp
   simp only[yy,if_pos (show(i:Int)<(l.length:Int)by omega),Zen hlt,Zdw,hp]
   rw[hd,Xcu,hg,Xep,Xep]
  |true=>
   rw[hg]at hp
   simp only[yy,if_pos (show(i:Int)<(l.length:Int)by omega),Zen hlt,Zdw,hp,Zam hlt (by omega)]
   rw[ih (i+1) (by omega),hd,Xcu,hg,Xe0]
theorem v.rGood (p:Bytes)(hp:p.length<=1000000):vl e 29 0 [.str p]=some (.bool (Zc8 p)):=by
 have hl:=Zc4 47 p
 rw[w.zq51];unfold y.zq51
 simp only[yy,v.rParts p (by omega),Zd6]
 refine(v.rGood10 p (Zae 47 p) (by omega) (fun x hx=>by have:=Zbf 47 hx;omega) _ 0 (Xan _)).trans ?_
 rw[Xbc]
 unfold Zc8
 rw[Xey]
theorem v.rUnder (d p:Bytes)(hd:d.length<=1000000)(hp:p.length<=1000000):∃x:Bytes,vl e 30 0 [.str d, .str p]=some (.tup [.str x, .bool (Zch d p).isSome]):=by
 rw[w.zq56];unfold y.zq56 Zch
 by_cases h:d=[]
 ·refine⟨p, ?_⟩
  simp only[yy,if_pos h]
  by_cases h2:p=[]<;>simp[h2,h]
 ·have e1:IntKind.i64.wrap ((d.length:Int)+1)=((d.length+1:Nat):Int):=Zam (show d.length<d.length+1 by omega) (by omega)
  have hdl:0<d.length:=Xaz.2 h
  by_cases h1:p.length<=d.length+1
  ·refine⟨[], ?_⟩
   simp only[yy,if_neg h,e1,if_pos (show(p.length:Int)<=((d.length+1:Nat):Int)by omega)]
   rw[if_neg (fun hc=>hc.2 (Xav h1))]
   rfl
  ·have hlt:d.length<p.length:=by omega
   have ht:p.take (d.length+1)=p.take d.length++ [p[d.length]]:=Xck hlt
   by_cases h2:p.take d.length=d
   ·by_cases h3:p[d.length]=47
    ·have h3':((p[d.length].toNat:Nat):Int)=47:=by rw[h3];rfl
     refine⟨p.drop (d.length+1), ?_⟩
     simp only[yy,if_neg h,e1,if_neg (show ¬(p.length:Int)<=((d.length+1:Nat):Int)by omega),Zk1 (show d.length<=p.length by omega),if_pos h2,Zj3 (Xad hlt),byteV,if_pos h3',Zk5 (show d.length+1<=p.length by omega)]
     rw[if_pos ⟨by rw[ht,h2,h3],fun hc=>by have:=congrArg List.length hc;simp at this;omega⟩]
     rfl
    ·have h3': ¬((p[d.length].toNat:Nat):Int)=47:=fun hh=>h3 (Zl8.1 (by rw[hh];rfl))
     refine⟨[], ?_⟩
     simp only[yy,if_neg h,e1,if_neg (show ¬(p.length:Int)<=((d.length+1:Nat):Int)by omega),Zk1 (show d.length<=p.length by omega),if_pos h2,Zj3 (Xad hlt),byteV,if_neg h3']
     rw[if_neg (fun hc=>h3 (by
      have:=hc.1
      rw[ht,h2]at this
      simpa using this))]
     rfl
   ·refine⟨[], ?_⟩
    simp only[yy,if_neg h,e1,if_neg (show ¬(p.length:Int)<=((d.length+1:Nat):Int)by omega),Zk1 (show d.length<=p.length by omega),if_neg h2]
    rw[if_neg (fun hc=>h2 (by
     have:=congrArg (List.take d.length) hc.1
     simpa[List.take_take]using this))]
    rfl
theorem Zc5 {l:List Fi}{i:Nat}(h:i<l.length):evp (.elem 2) [Zad l,I i]=some (fv l[i]):=Zgf (by simp[h])
theorem Zgp {x:Fi}:evp (.ld (some 2) 0) [fv x]=some (fv x):=rfl
theorem Zca {x:Fi}:evp (.cat [some 2]) [fv x]=some (fv x):=rfl
theorem Zep {x:Fi}:evp (.ld none 0) [fv x]=some (.str x.1):=rfl
theorem Zm2 {x:Fi}:evp (.ld none 1) [fv x]=some (.str x.2):=rfl
theorem Zc7 {l:List Fi}:evp (.len false) [Zad l]=some (I l.length):=by rw[Zad,Zs1,Xcf]
theorem v.great10 (l:List Fi)(hl:l.length<=1000000000)(hb:∀f∈l,f.1.length<=1000000000/\f.2.length<=1000000000)(q by_:Nat)(hby:by_<=1000000000):∀(n i m:Nat),i+n=l.length->m<=by_-> ∃b:Bool,vl e 8 10 [Zad l,I q,I by_,I m,Zad l,I l.length,I i]=some (.bool b)/\(b=false->l.length<=q/\ ∀k (h:k<l.length),i<=k->l[k].1.length+l[k].2.length<=by_):=by
 intro n
 induction n with
 |zero=>
  intro i m hi hm
  refine⟨decide ((q:Int)<(l.length:Int)), ?_,fun h=>⟨by have:=of_decide_eq_false h;omega,fun k hk hik=>by omega⟩⟩
  rw[w.zq60_10];unfold y.zq60_10
  simp only[yy,if_neg (show ¬((i:Int)<(l.length:Int))by omega),Zc7]
 |succ n ih=>
  intro i m hi hm
  have hlt:i<l.length:=by omega
  obtain⟨h1,h2⟩:=hb _ (Xau hlt)
  have a1:IntKind.i64.wrap ((l[i].1.length:Int)+(l[i].2.length:Int))=((l[i].1.length+l[i].2.length:Nat):Int):=Zed (by omega)
  have a2:IntKind.i64.wrap ((m:Int)+((l[i].1.length+l[i].2.length:Nat):Int))=((m+(l[i].1.length+l[i].2.length):Nat):Int):=Zed (by omega)
  rw[w.zq60_10];unfold y.zq60_10
  by_cases hc:by_<m+(l[i].1.length+l[i].2.length)
  ·refine⟨true, ?_,fun h=>by cases h⟩
   simp only[yy,if_pos (show(i:Int)<(l.length:Int)by omega),Zc5 hlt,Zgp,Zca,Zep,Zm2,a1,a2,if_pos (show(by_:Int)<((m+(l[i].1.length+l[i].2.length):Nat):Int)by omega)]
  ·obtain⟨b,r1,r2⟩:=ih (i+1) (m+(l[i].1.length+l[i].2.length)) (by omega) (by omega)
   refine⟨b, ?_,fun h=>⟨(r2 h).1,fun k hk hik=> ?_⟩⟩
   ·simp only[yy,if_pos (show(i:Int)<(l.length:Int)by omega),Zc5 hlt,Zgp,Zca,Zep,Zm2,a1,a2,if_neg (show ¬(by_:Int)<((m+(l[i].1.length+l[i].2.length):Nat):Int)by omega),Zam hlt (by omega)]
    exact r1
   ·rcases Xbm hik with h'|rfl
    ·exact(r2 h).2 k hk h'
    ·omega
theorem v.great (l:List Fi)(hl:l.length<=1000000000)(hb:∀f∈l,f.1.length<=1000000000/\f.2.length<=1000000000)(q by_:Nat)(hby:by_<=1000000000):∃b:Bool,vl e 8 0 [Zad l,I q,I by_]=some (.bool b)/\(b=false->l.length<=q/\ ∀f∈l,f.1.length+f.2.length<=by_):=by
 obtain⟨b,r1,r2⟩:=v.great10 (e:=e) l hl hb q by_ hby l.length 0 0 (Xan _) (Xbw _)
 refine⟨b, ?_,fun h=>⟨(r2 h).1,fun f hf=> ?_⟩⟩
 ·rw[w.zq60];unfold y.zq60
  simp only[yy,Zc7]
  exact r1
 ·obtain⟨k,hk,rfl⟩:=Xb3.1 hf
  exact(r2 h).2 k hk (Xbw _)
def Zcv (x f:Bytes):Bool:=(Zch x f).isSome||decide (x=f)
def okI (l:List Fi)(i:Nat):Prop:=Zc8 (l.getD i ([],[])).1=true/\ ∀k,k<l.length->k≠i->Zcv (l.getD k ([],[])).1 (l.getD i ([],[])).1=false
open Classical in
noncomputable def whyB (l:List Fi):Int:=if 512<l.length then 3 else if ∀i,i<l.length->okI l i then(if ∀f∈l,f.2.length<=32768 then 0 else 3)else 1
theorem Zaz {l:List Fi}{i:Nat}(h:i<l.length):l.getD i ([],[])=l[i]:=by simp[List.getD,h]
section
variable (l:List Fi)(hl:l.length<=1000000)(hb:∀f∈l,f.1.length<=1000000/\f.2.length<=1000000000)
include hl hb
omit hb in
theorem v.why64 :∀(n i:Nat),i+n=l.length->vl e 9 64 [Zad l,I l.length,I i]=some (I (if ∀f∈l.drop i,f.2.length<=32768 then 0 else 3)):=by
 intro n
 induction n with
 |zero=>
  intro i hi
  rw[w.zq62_64];unfold y.zq62_64
  simp only[yy,if_neg (show ¬((i:Int)<(l.length:Int))by omega)]
  rw[Xav (by omega),if_pos (by simp)]
 |succ n ih=>
  intro i hi
  have hlt:i<l.length:=by omega
  have hd:=Xap hlt
  rw[w.zq62_64];unfold y.zq62_64
  by_cases hc:32768<l[i].2.length
  ·simp only[yy,if_pos (show(i:Int)<(l.length:Int)by omega),Zc5 hlt,Zgp,Zca,Zm2,if_pos (show(32768:Int)<(l[i].2.length:Int)by omega)]
   rw[if_neg (fun h=>by have:=h l[i] (by rw[hd];exact Xcr);omega)]
  ·simp only[yy,if_pos (show(i:Int)<(l.length:Int)by omega),Zc5 hlt,Zgp,Zca,Zm2,if_neg (show ¬(32768:Int)<(l[i].2.length:Int)by omega),Zam hlt (by omega)]
   rw[ih (i+1) (by omega),hd]
   have:(∀f∈l.drop (i+1),f.2.length<=32768)<-> ∀f∈l[i]::l.drop (i+1),f.2.length<=32768:=by
    simp only[Xa0,forall_eq_or_imp]
    exact⟨fun h=>⟨by omega,h⟩,fun h=>h.2⟩
   by_cases hp:∀f∈l.drop (i+1),f.2.length<=32768
   ·rw[if_pos hp,if_pos (this.1 hp)]
   ·rw[if_neg hp,if_neg (fun h=>hp (this.2 h))]
open Classical in
theorem v.why38 (i:Nat)(hi:i<l.length):∀(n k:Nat),k+n=l.length->
  vl e 9 38 [Zad l,I i,Zad l,I l.length,I i,Zad l,I l.length,I k,fv l[i]]=if ∀j,j<l.length->k<=j->j≠i->Zcv (l.getD j ([],[])).1 l[i].1=false then vl e 9 16 [Zad l,Zad l,I l.length,I (i+1:Nat)]else some (I 1):=by
 intro n
 induction n with
 |zero=>
  intro k hk
  rw[w.zq62_38];unfold y.zq62_38
  simp only[yy,if_neg (show ¬((k:Int)<(l.length:Int))by omega),Zam hi (by omega)]
  rw[if_pos (fun j h1 h2=>by omega)]
 |succ n ih=>
  intro k hk
  have hlt:k<l.length:=by omega
  obtain⟨x,hx⟩:=v.rUnder (e:=e) l[k].1 l[i].1 (hb _ (Xau hlt)).1 (hb _ (Xau hi)).1
  have hih:=ih (k+1) (by omega)
  have step:(k=i \/Zcv l[k].1 l[i].1=false)->((∀j,j<l.length->k+1<=j->j≠i->Zcv (l.getD j ([],[])).1 l[i].1=false)<-> ∀j,j<l.length->k<=j->j≠i->Zcv (l.getD j ([],[])).1 l[i].1=false):=by
   intro h0
   refine⟨fun h j h1 h2 h3=> ?_,fun h j h1 h2 h3=>h j h1 (by omega) h3⟩
   rcases Xbm h2 with h'|rfl
   ·exact h j h1 h' h3
   ·rcases h0 with h0|h0
    ·exact absurd h0 h3
    ·rw[Zaz h1];exact h0
  have cong:(k=i \/Zcv l[k].1 l[i].1=false)->(if ∀j,j<l.length->k+1<=j->j≠i->Zcv (l.getD j ([],[])).1 l[i].1=false then vl e 9 16 [Zad l,Zad l,I l.length,I (i+1:Nat)]else some (I 1))=if ∀j,j<l.length->k<=j->j≠i->Zcv (l.getD j ([],[])).1 l[i].1=false then vl e 9 16 [Zad l,Zad l,I l.length,I (i+1:Nat)]else some (I 1):=by
   intro h0
   by_cases hp:∀j,j<l.length->k+1<=j->j≠i->Zcv (l.getD j ([],[])).1 l[i].1=false
   ·rw[if_pos hp,if_pos ((step h0).1 hp)]
   ·rw[if_neg hp,if_neg (fun h=>hp ((step h0).2 h))]
  have bad:k≠i->Zcv l[k].1 l[i].1=true->some (V.int .i64 1)=if ∀j,j<l.length->k<=j->j≠i->Zcv (l.getD j ([],[])).1 l[i].1=false then vl e 9 16 [Zad l,Zad l,I l.length,I (i+1:Nat)]else some (I 1):=by
   intro h0 h1
   rw[if_neg (fun h=>by have:=h k hlt (Xag _) h0;rw[Zaz hlt,h1]at this;cases this)]
  rw[w.zq62_38];unfold y.zq62_38
  by_cases hki:k=i
  ·rw[<-cong (.inl hki), <-hih]
   simp only[yy,if_pos (show(k:Int)<(l.length:Int)by omega),Zc5 hlt,Zgp,Zca,Zep,hx,if_pos (show(k:Int)=(i:Int)by omega),Zam hlt (by omega)]
  ·cases hu:(Zch l[k].1 l[i].1).isSome with
   |true=>
    rw[hu]at hx
    rw[<-bad hki (by unfold Zcv;rw[hu];rfl)]
    simp only[yy,if_pos (show(k:Int)<(l.length:Int)by omega),Zc5 hlt,Zgp,Zca,Zep,hx,if_neg (show ¬(k:Int)=(i:Int)by omega)]
   |false=>
    rw[hu]at hx
    by_cases he:l[k].1=l[i].1
    ·rw[<-bad hki (by unfold Zcv;rw[decide_eq_true he,Xfn])]
     simp only[yy,if_pos (show(k:Int)<(l.length:Int)by omega),Zc5 hlt,Zgp,Zca,Zep,hx,if_neg (show ¬(k:Int)=(i:Int)by omega),if_pos he]
    ·rw[<-cong (.inr (by unfold Zcv;rw[hu,decide_eq_false he];rfl)), <-hih]
     simp only[yy,if_pos (show(k:Int)<(l.length:Int)by omega),Zc5 hlt,Zgp,Zca,Zep,hx,if_neg (show ¬(k:Int)=(i:Int)by omega),if_neg he,Zam hlt (by omega)]
open Classical in
theorem v.why16 :∀(n i:Nat),i+n=l.length->vl e 9 16 [Zad l,Zad l,I l.length,I i]=some (I (if ∀j,j<l.length->i<=j->okI l j then(if ∀f∈l,f.2.length<=32768 then 0 else 3)else 1)):=by
 intro n
 induction n with
 |zero=>
  intro i hi
  rw[w.zq62_16];unfold y.zq62_16
  simp only[yy,if_neg (show ¬((i:Int)<(l.length:Int))by omega),Zc7]
  have:=v.why64 (e:=e) l hl l.length 0 (Xan _)
  rw[Xbc]at this
  rw[if_pos (fun j h1 h2=>by omega)]
  exact this
 |succ n ih=>
  intro i hi
  have hlt:i<l.length:=by omega
  have hg:=v.rGood (e:=e) l[i].1 (hb _ (Xau hlt)).1
  have h38:=v.why38 (e:=e) l hl hb i hlt l.length 0 (Xan _)
  rw[w.zq62_16];unfold y.zq62_16
  cases hgd:Zc8 l[i].1 with
  |false=>
   rw[hgd]at hg
   simp only[yy,if_pos (show(i:Int)<(l.length:Int)by omega),Zc5 hlt,Zgp,Zca,Zep,hg]
   rw[if_neg (fun h=>by have:=(h i hlt (Xag _)).1;rw[Zaz hlt,hgd]at this;cases this)]
  |true=>
   rw[hgd]at hg
   simp only[yy,if_pos (show(i:Int)<(l.length:Int)by omega),Zc5 hlt,Zgp,Zca,Zep,hg,Zc7]
   refine h38.trans ?_
   by_cases hc:∀j,j<l.length->0<=j->j≠i->Zcv (l.getD j ([],[])).1 l[i].1=false
   ·rw[if_pos hc,ih (i+1) (by omega)]
    have hok:okI l i:=⟨by rw[Zaz hlt];exact hgd,fun k h1 h2=>by rw[Zaz hlt];exact hc k h1 (Xbw _) h2⟩
    have:(∀j,j<l.length->i+1<=j->okI l j)<-> ∀j,j<l.length->i<=j->okI l j:=by
     refine⟨fun h j h1 h2=> ?_,fun h j h1 h2=>h j h1 (by omega)⟩
     rcases Xbm h2 with h'|rfl
     ·exact h j h1 h'
     ·exact hok
    by_cases hp:∀j,j<l.length->i+1<=j->okI l j
    ·rw[if_pos hp,if_pos (this.1 hp)]
    ·rw[if_neg hp,if_neg (fun h=>hp (this.2 h))]
   ·rw[if_neg hc,if_neg (fun h=>hc fun j h1 _ h2=>by have:=(h i hlt (Xag _)).2 j h1 h2;rw[Zaz hlt]at this;exact this)]
theorem v.why :vl e 9 0 [Zad l]=some (I (whyB l)):=by
 rw[w.zq62];unfold y.zq62 whyB
 by_cases h:512<l.length
 ·simp only[yy,Zc7,if_pos (show(512:Int)<(l.length:Int)by omega)]
  rw[if_pos h]
 ·simp only[yy,Zc7,if_neg (show ¬(512:Int)<(l.length:Int)by omega)]
  rw[if_neg h]
  refine(v.why16 l hl hb l.length 0 (Xan _)).trans ?_
  congr 2
  have:(∀j,j<l.length->0<=j->okI l j)<-> ∀i,i<l.length->okI l i:=⟨fun h i hi=>h i hi (Xbw _),fun h i hi _=>h i hi⟩
  by_cases hp:∀i,i<l.length->okI l i
  ·rw[if_pos hp,if_pos (this.2 hp)]
  ·rw[if_neg hp,if_neg (fun h=>hp (this.1 h))]
end
theorem Zu6 :∀l:List Fi,(l.map fv).flatMap V.cells=fl l
 | []=>rfl
 |f::r=>by rw[Xaq,Xbp,Zu6 r];rfl
theorem v.CloneF (l:List Fi)(hl:l.length<=1000000):vl e 10528 1 [Zad l]=some (.tup [I l.length,aggF l]):=by
 rw[w.zq66_h0];unfold y.zq66_h0
 have h1:evp (.rapp 2) [.agg [], .int .i64 0,Zad l]=some (aggF l):=by
  show Zsg 2 (.agg []) (I 0) (Zad l)=_
  have hf:fits 2 (l.map fv)=true:=by simp[fits,fv,V.cells,V.sc]
  simp only[Zsg,Zb2,Xak,Zj6,hf,if_true,true_or]
  rw[if_pos ⟨by omega,by omega,by simp,by simp[Lim];omega⟩,Zu6]
  simp[V.cells]
 have h2:evp (.rlen 2) [.int .i64 0,Zad l]=some (I l.length):=by
  show Zpk 2 (I 0) (Zad l)=_
  simp[Zpk,Zb2]
 simp only[yy,h1,h2]
 cases l with
 |nil=>
  have:vamb (V.sl false 2 []) (some (V.tup [.int .i64 0, .agg []])) (some (V.tup [.int .i64 0, .agg []]))=some (V.tup [.int .i64 0, .agg []]):=by
   unfold vamb
   exact if_pos rfl
  exact this
 |cons x r=>rfl
end Go.Proofs.YtpmgdngjbdkdfaaGreatDoor
namespace Go.Proofs.YtpmgdngjbdkdfaaGreatDoor
open Go.Abs
set_option maxRecDepth 10000
abbrev W32 :=BitVec 32
def bv (x:W32):V:= .int .u32 (x.toNat:Int)
theorem Zrq (n:Int):IntKind.u32.wrap n=n % 4294967296:=by simp[IntKind.wrap,IntKind.signed,IntKind.bits]
theorem Z4e (n:Int):IntKind.u8.wrap n=n % 256:=by simp[IntKind.wrap,IntKind.signed,IntKind.bits]
theorem Zd3 (n:Int):IntKind.u64.wrap n=n % 18446744073709551616:=by simp[IntKind.wrap,IntKind.signed,IntKind.bits]
theorem Zlj (x:W32):IntKind.u32.wrap (x.toNat:Int)=(x.toNat:Int):=by rw[Zrq];have:=x.isLt;omega
theorem Zpi (x:W32):BitVec.ofInt IntKind.u32.bits (x.toNat:Int)=x:=by
 show BitVec.ofInt 32 (x.toNat:Int)=x
 rw[BitVec.ofInt_natCast,BitVec.ofNat_toNat,BitVec.setWidth_eq]
theorem b_add (x y:W32):evp (.bin .add .no) [bv x,bv y]=some (bv (x+y)):=by
 show some (V.int .u32 (IntKind.u32.wrap ((x.toNat:Int)+(y.toNat:Int))))=_
 rw[Zrq]
 unfold bv
 rw[BitVec.toNat_add]
 congr 2
theorem b_and (x y:W32):evp (.bin .and .no) [bv x,bv y]=some (bv (x&&&y)):=by
 show some (V.int .u32 (IntKind.u32.wrap ((BitVec.ofInt IntKind.u32.bits (x.toNat:Int)&&&BitVec.ofInt IntKind.u32.bits (y.toNat:Int)).toNat:Nat)))=_
 rw[Zpi,Zpi];exact congrArg (fun n=>some (V.int .u32 n)) (Zlj (x&&&y))
theorem b_or (x y:W32):evp (.bin .or .no) [bv x,bv y]=some (bv (x|||y)):=by
 show some (V.int .u32 (IntKind.u32.wrap ((BitVec.ofInt IntKind.u32.bits (x.toNat:Int)|||BitVec.ofInt IntKind.u32.bits (y.toNat:Int)).toNat:Nat)))=_
 rw[Zpi,Zpi];exact congrArg (fun n=>some (V.int .u32 n)) (Zlj (x|||y))
theorem b_xor (x y:W32):evp (.bin .xor .no) [bv x,bv y]=some (bv (x^^^y)):=by
 show some (V.int .u32 (IntKind.u32.wrap ((BitVec.ofInt IntKind.u32.bits (x.toNat:Int)^^^BitVec.ofInt IntKind.u32.bits (y.toNat:Int)).toNat:Nat)))=_
 rw[Zpi,Zpi];exact congrArg (fun n=>some (V.int .u32 n)) (Zlj (x^^^y))
theorem Z5w (x:W32):evp (.un .xor) [bv x]=some (bv (~~~x)):=by
 show some (V.int .u32 (IntKind.u32.wrap ((BitVec.ofInt 32 4294967295^^^BitVec.ofInt 32 (x.toNat:Int)).toNat:Nat)))=_
 rw[show BitVec.ofInt 32 (x.toNat:Int)=x from Zpi x,show BitVec.ofInt 32 4294967295=BitVec.allOnes 32 by decide,BitVec.allOnes_xor];exact congrArg (fun n=>some (V.int .u32 n)) (Zlj (~~~x))
theorem Zn0 (x:W32)(k:Nat)(kd:IntKind)(hk:k<=32):evp (.bin .shl .no) [bv x, .int kd (k:Int)]=some (bv (x<<<k)):=by
 show(if(k:Int)<0 then none else some (V.int .u32 (IntKind.u32.wrap ((x.toNat:Int)*2^(min (k:Int).toNat IntKind.u32.bits)))))=_
 rw[if_neg (by omega),Zrq]
 unfold bv
 rw[BitVec.toNat_shiftLeft,Xea]
 have:min (k:Int).toNat IntKind.u32.bits=k:=by show min _ 32=k;omega
 rw[this]
 congr 2
theorem Znu (x:W32)(k:Nat)(kd:IntKind)(hk:k<=32):evp (.bin .shr .no) [bv x, .int kd (k:Int)]=some (bv (x>>>k)):=by
 show(if(k:Int)<0 then none else some (V.int .u32 ((x.toNat:Int).fdiv (2^(min (k:Int).toNat IntKind.u32.bits)))))=_
 have:min (k:Int).toNat IntKind.u32.bits=k:=by show min _ 32=k;omega
 rw[if_neg (by omega),this]
 unfold bv
 rw[BitVec.toNat_ushiftRight,Nat.shiftRight_eq_div_pow]
 congr 2
 rw[Xdh _ (Int.le_of_lt (Int.pow_pos (by decide)))]
 simp
def bw (b:UInt8):W32:=BitVec.ofNat 32 b.toNat
theorem Zzv (b:UInt8):evp (.i2i .u32) [byteV b]=some (bv (bw b)):=by
 show some (V.int .u32 (IntKind.u32.wrap (b.toNat:Int)))=_
 rw[Zrq]
 unfold bv bw
 rw[BitVec.toNat_ofNat]
 congr 2
def wb (x:W32):UInt8:=UInt8.ofNat x.toNat
theorem Zrw (x:W32):evp (.i2i .u8) [bv x]=some (byteV (wb x)):=by
 show some (V.int .u8 (IntKind.u8.wrap (x.toNat:Int)))=_
 rw[Z4e]
 unfold byteV wb
 congr 2
def Zdk (x:W32)(k:Nat):W32:=(x>>>k)|||(x<<<(32-k))
variable {e:Ev}
theorem v.turn (x:W32)(k:Nat)(hk:k<=32):vl e 101 0 [bv x, .int .u64 (k:Int)]=some (bv (Zdk x k)):=by
 have e1:IntKind.u64.wrap (32-(k:Int))=((32-k:Nat):Int):=by rw[Zd3];omega
 rw[w.zq49];unfold y.zq49
 simp only[yy,Znu x k .u64 hk,e1,Zn0 x (32-k) .u64 (by omega),b_or];rfl
theorem v.rot (x:W32)(k:Nat)(hk:k<=32)(h1:1<=k)(hw:evp (.bin .and .no) [.int .u64 (IntKind.u64.wrap (-(k:Int))), .int .u64 31]=some (.int .u64 ((32-k:Nat):Int))):vl e 108 0 [bv x, .int .i64 (-(k:Int))]=some (bv (Zdk x k)):=by
 have e0:evp (.i2i .u64) [.int .i64 (-(k:Int))]=some (.int .u64 (IntKind.u64.wrap (-(k:Int)))):=rfl
 have e1:IntKind.u64.wrap (32-((32-k:Nat):Int))=(k:Int):=by rw[Zd3];omega
 rw[w.zq9];unfold y.zq9
 simp only[yy,e0,hw,Zn0 x (32-k) .u64 (by omega),e1,Znu x k .u64 hk,b_or]
 unfold Zdk
 rw[BitVec.or_comm]
def Znt (x:W32)(i j k:Nat):W32:=(Zdk x i^^^Zdk x j)^^^Zdk x k
theorem v.three (x:W32)(i j k:Nat)(hi:i<=32)(hj:j<=32)(hk:k<=32):vl e 102 0 [bv x, .int .u64 (i:Int), .int .u64 (j:Int), .int .u64 (k:Int)]=some (bv (Znt x i j k)):=by
 rw[w.zq48];unfold y.zq48
 simp only[yy,v.turn x i hi,v.turn x j hj,v.turn x k hk,b_xor];rfl
abbrev wl (l:List W32):V:= .agg (l.map bv)
abbrev bl (l:Bytes):V:= .agg (l.map byteV)
theorem Zfj {m:Nat}{k:IntKind}{i:Int}(h0:0<=i)(h:i<m):evp (.chk m) [.int k i]=some (.int k i):=by
 show vChk m (.int k i)=_
 exact if_pos ⟨h0,h⟩
theorem Zss {l:List W32}{k:IntKind}{i:Nat}(h:i<l.length):evp (.ldd none 0 1) [wl l, .int k (i:Int)]=some (bv l[i]):=by
 show(l.map bv)[0+(i:Int).toNat*1]? =_
 rw[Xan,Xcw,Xbu,Xbt,Xad h];rfl
theorem Zve {l:List W32}{k:IntKind}{i:Nat}{x:W32}(h:i<l.length):evp (.std 1 0 1) [wl l, .int k (i:Int),bv x]=some (wl (l.set i x)):=by
 show vSet 1 (0+(i:Int).toNat*1) (wl l) (bv x)=_
 have hc:(wl l).cells=l.map bv:=rfl
 have hb:(bv x).cells=[bv x]:=rfl
 unfold vSet
 rw[Xan,Xcw,Xbu,hc,hb,if_pos ⟨rfl,rfl,by simp;omega⟩,wl,List.map_set,Xc4,if_pos (by simpa using h)]
 simp[Zav]
theorem Zky {l:Bytes}{k:IntKind}{i:Nat}{x:UInt8}(h:i<l.length):evp (.std 1 0 1) [bl l, .int k (i:Int),byteV x]=some (bl (l.set i x)):=by
 show vSet 1 (0+(i:Int).toNat*1) (bl l) (byteV x)=_
 have hc:(bl l).cells=l.map byteV:=rfl
 have hb:(byteV x).cells=[byteV x]:=rfl
 unfold vSet
 rw[Xan,Xcw,Xbu,hc,hb,if_pos ⟨rfl,rfl,by simp;omega⟩,bl,List.map_set,Xc4,if_pos (by simpa using h)]
 simp[Zav]
end Go.Proofs.YtpmgdngjbdkdfaaGreatDoor
