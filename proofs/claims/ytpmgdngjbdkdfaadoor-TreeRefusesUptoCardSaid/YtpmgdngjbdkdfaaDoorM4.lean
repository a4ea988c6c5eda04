/-
  Parts of the proof, one behind the other. Own work of this seat; some printed by its programs.
-/
import Derived.Test.YtpmgdngjbdkdfaaDoorM2
import Derived.Test.YtpmgdngjbdkdfaaDoorProg
import Derived.Shelf.Strings.Builder1
import Derived.Shelf.Strings.Builder2
import Derived.Shelf.Strings.OnBuilder
import Derived.Shelf.Small.Wraps
import Derived.Shelf.Strings.BuilderF
import Derived.Shelf.Strings.BuilderK
import Derived.Shelf.Strings.Search1
import Derived.Shelf.Strings.Search2
import Derived.Shelf.Strings.Search3
import Derived.Shelf.Strings.Count
import Derived.Shelf.LaysM
import Derived.Shelf.Strings.Shaped
import Derived.Shelf.Strings.LastIndex
import Derived.Shelf.Strings.Prefix
import Derived.Shelf.Strings.Split
import Derived.Shelf.Strings.SplitShaped
import Derived.Shelf.Unicode.Decode
import Derived.Shelf.Strings.RuneCount
import Derived.Shelf.Strings.Explode
import Derived.Shelf.Unicode.DecodeSlow
import Derived.Shelf.Unicode.DecodeAny
import Derived.Ground.Names2Prog
import Derived.Shelf.Slices.Clone
import Derived.Ground.SlgfProg
import Derived.Shelf.SlicesE.IndexFunc
import Derived.Shelf.SlicesE.DeleteFunc
import Derived.WalkKit
import Derived.Lib.OwnBridge
import Derived.Lib.FieldsP
import Derived.Lib.TrimUEq
import Derived.Test.YtpmgdngjbdkdfaaDoorM3
namespace Go.Proofs.YtpmgdngjbdkdfaaDoor
open Go.Abs Go.RowKit
noncomputable def cxD (w : World) : Cx := ⟨Tryd.prog, w, fun _ => none⟩
theorem mixed : Tryd.prog.follows .mixedOrders = true := by kernel_rfl
def HasMax (w : World) : Prop := ∃ m, w.cell? ⟨1, 0, none⟩ = some (.int .i64 m)
structure EnvOK (w : World) : Prop where
 max : HasMax w
end Go.Proofs.YtpmgdngjbdkdfaaDoor
namespace Go.Proofs
open Go.Shelf
def Tryd.lays156_ren : Go.Shelf.Ren := ⟨fun | 156 => 53 | 165 => 67 | 166 => 68 | 169 => 69 | 240 => 77 | 241 => 78 | 276 => 87 | 277 => 88 | n => n, fun | 31 => 68 | 9 => 9 | 3 => 3 | 4 => 4 | 0 => 0 | 20 => 20 | 72 => 100 | 76 => 104 | 70 => 98 | 37 => 25 | 75 => 103 | 127 => 118 | 164 => 124 | 5 => 5 | 80 => 106 | n => n, fun | n => n⟩
theorem Tryd.lays156 : Go.Proofs.Lays.n156 Tryd.prog Tryd.lays156_ren := {
 mixed := by kernel_rfl
 f156 := Tryd.func53.trans (congrArg some (by kernel_rfl))
 f165 := Tryd.func67.trans (congrArg some (by kernel_rfl))
 f166 := Tryd.func68.trans (congrArg some (by kernel_rfl))
 f169 := Tryd.func69.trans (congrArg some (by kernel_rfl))
 f240 := Tryd.func77.trans (congrArg some (by kernel_rfl))
 f241 := Tryd.func78.trans (congrArg some (by kernel_rfl))
 f276 := Tryd.func87.trans (congrArg some (by kernel_rfl))
 f277 := Tryd.func88.trans (congrArg some (by kernel_rfl))
 t0 := Tryd.underlying0
 a0 := Tryd.isAgg0
 z0 := Tryd.sizeOf0
 v0 := Tryd.zeroValue0
 t3 := Tryd.underlying3
 a3 := Tryd.isAgg3
 z3 := Tryd.sizeOf3
 v3 := Tryd.zeroValue3
 t4 := Tryd.underlying4
 a4 := Tryd.isAgg4
 z4 := Tryd.sizeOf4
 v4 := Tryd.zeroValue4
 t9 := Tryd.underlying9
 a9 := Tryd.isAgg9
 z9 := Tryd.sizeOf9
 v9 := Tryd.zeroValue9
 t20 := Tryd.underlying20
 a20 := Tryd.isAgg20
 z20 := Tryd.sizeOf20
 v20 := Tryd.zeroValue20
 t31 := Tryd.underlying68
 a31 := Tryd.isAgg68
 z31 := Tryd.sizeOf68
 v31 := Tryd.zeroValue68
 t37 := Tryd.underlying25
 a37 := Tryd.isAgg25
 z37 := Tryd.sizeOf25
 v37 := Tryd.zeroValue25
 t70 := Tryd.underlying98
 a70 := Tryd.isAgg98
 z70 := Tryd.sizeOf98
 v70 := Tryd.zeroValue98
 t72 := Tryd.underlying100
 a72 := Tryd.isAgg100
 z72 := Tryd.sizeOf100
 v72 := Tryd.zeroValue100
 t75 := Tryd.underlying103
 a75 := Tryd.isAgg103
 z75 := Tryd.sizeOf103
 v75 := Tryd.zeroValue103
 t76 := Tryd.underlying104
 a76 := Tryd.isAgg104
 z76 := Tryd.sizeOf104
 v76 := Tryd.zeroValue104
 t127 := Tryd.underlying118
 a127 := Tryd.isAgg118
 z127 := Tryd.sizeOf118
 v127 := Tryd.zeroValue118
 t164 := Tryd.underlying124
 a164 := Tryd.isAgg124
 z164 := Tryd.sizeOf124
 v164 := Tryd.zeroValue124 }
theorem Tryd.Builder_Extra_156 : Builder.Extra Tryd.prog Tryd.lays156_ren := {
 sizeBuilder := by kernel_rfl
 liesBuilder := by kernel_rfl
 t5 := Tryd.underlying5
 a5 := Tryd.isAgg5
 z5 := Tryd.sizeOf5
 v5 := Tryd.zeroValue5
 infoByte := by kernel_rfl
 cellsByte := by kernel_rfl
 sizeByte := by kernel_rfl
 neB5 := by decide }
open Go.RowKit in
theorem Tryd.strings_Join_none (a : Option Addr) (c : Nat) (sep : ByteArray) (w : World) :
  Calls Tryd.prog 53 #[.slice a 0 c, .string sep] w fun e w' => e = .returned (.string ⟨#[]⟩) /\ w' = w := Any.strings_Join_none Tryd.lays156 Tryd.Builder_Extra_156 a c sep w
open Go.RowKit in
theorem Tryd.strings_Join (bk o c : Nat) (xs : List ByteArray) (sep : ByteArray) (w : World) (hcells : ∀ (j : Nat) x, xs[j]? = some x -> w.cell? ⟨bk, o + j, none⟩ = some (.string x)) (hbk : bk < w.heap.size) (hN : xs.length <= 140737488355328) (hcap : xs.length <= c) (hlen : (Lib.join (xs.map (·.data.toList)) sep.data.toList).length <= 140737488355328) :
  Calls Tryd.prog 53 #[.slice (some ⟨bk, o, none⟩) xs.length c, .string sep] w fun e w' => e = .returned (.string ⟨(Lib.join (xs.map (·.data.toList)) sep.data.toList).toArray⟩) /\ Below w.heap.size w w' := Any.strings_Join Tryd.lays156 Tryd.Builder_Extra_156 bk o c xs sep w hcells hbk hN hcap hlen
def Tryd.lays103_ren : Go.Shelf.Ren := ⟨fun | 103 => 35 | 210 => 51 | 206 => 66 | n => n, fun | 9 => 9 | 4 => 4 | 24 => 55 | 3 => 3 | n => n, fun | n => n⟩
theorem Tryd.lays103 : Go.Proofs.Lays.n103 Tryd.prog Tryd.lays103_ren := {
 mixed := by kernel_rfl
 f103 := Tryd.func35.trans (congrArg some (by kernel_rfl))
 f206 := Tryd.func66.trans (congrArg some (by kernel_rfl))
 f210 := Tryd.func51.trans (congrArg some (by kernel_rfl))
 t3 := Tryd.underlying3
 a3 := Tryd.isAgg3
 z3 := Tryd.sizeOf3
 v3 := Tryd.zeroValue3
 t4 := Tryd.underlying4
 a4 := Tryd.isAgg4
 z4 := Tryd.sizeOf4
 v4 := Tryd.zeroValue4
 t9 := Tryd.underlying9
 a9 := Tryd.isAgg9
 z9 := Tryd.sizeOf9
 v9 := Tryd.zeroValue9
 t24 := Tryd.underlying55
 a24 := Tryd.isAgg55
 z24 := Tryd.sizeOf55
 v24 := Tryd.zeroValue55 }
open Go.RowKit in
theorem Tryd.strings_CutPrefix (s p : ByteArray) (w : World) :
  Calls Tryd.prog 35 #[.string s, .string p] w fun e w' => e = .returned (.tuple #[.string ⟨(Lib.trimPrefix s.data.toList p.data.toList).toArray⟩, .bool (Lib.hasPrefix s.data.toList p.data.toList)]) /\ w' = w := Any.strings_CutPrefix Tryd.lays103 s p w
def Tryd.lays144_ren : Go.Shelf.Ren := ⟨fun | 144 => 50 | 143 => 65 | 219 => 76 | 217 => 83 | 225 => 84 | 224 => 85 | 267 => 86 | 266 => 89 | 314 => 90 | n => n, fun | 9 => 9 | 4 => 4 | 3 => 3 | 5 => 5 | 46 => 96 | 146 => 131 | 51 => 110 | n => n, fun | 1 => 1 | n => n⟩
theorem Tryd.lays144 : Go.Proofs.Lays.n144 Tryd.prog Tryd.lays144_ren := {
 mixed := by kernel_rfl
 f143 := Tryd.func65.trans (congrArg some (by kernel_rfl))
 f144 := Tryd.func50.trans (congrArg some (by kernel_rfl))
 f217 := Tryd.func83.trans (congrArg some (by kernel_rfl))
 f219 := Tryd.func76.trans (congrArg some (by kernel_rfl))
 f224 := Tryd.func85.trans (congrArg some (by kernel_rfl))
 f225 := Tryd.func84.trans (congrArg some (by kernel_rfl))
 f266 := Tryd.func89.trans (congrArg some (by kernel_rfl))
 f267 := Tryd.func86.trans (congrArg some (by kernel_rfl))
 f314 := Tryd.func90.trans (congrArg some (by kernel_rfl))
 t3 := Tryd.underlying3
 a3 := Tryd.isAgg3
 z3 := Tryd.sizeOf3
 v3 := Tryd.zeroValue3
 t4 := Tryd.underlying4
 a4 := Tryd.isAgg4
 z4 := Tryd.sizeOf4
 v4 := Tryd.zeroValue4
 t5 := Tryd.underlying5
 a5 := Tryd.isAgg5
 z5 := Tryd.sizeOf5
 v5 := Tryd.zeroValue5
 t9 := Tryd.underlying9
 a9 := Tryd.isAgg9
 z9 := Tryd.sizeOf9
 v9 := Tryd.zeroValue9
 t46 := Tryd.underlying96
 a46 := Tryd.isAgg96
 z46 := Tryd.sizeOf96
 v46 := Tryd.zeroValue96
 t51 := Tryd.underlying110
 a51 := Tryd.isAgg110
 z51 := Tryd.sizeOf110
 v51 := Tryd.zeroValue110
 t146 := Tryd.underlying131
 a146 := Tryd.isAgg131
 z146 := Tryd.sizeOf131
 v146 := Tryd.zeroValue131
 g1 := by kernel_rfl }
open Go.RowKit Go.Lib in
theorem Tryd.strings_Contains (s sub : ByteArray) (m : Int) (w : World) (hs : s.size < 4294967281) (hm : w.cell? ⟨1, 0, none⟩ = some (.int .i64 m)) :
  Calls Tryd.prog 50 #[.string s, .string sub] w fun e w' => e = .returned (.bool (Lib.contains s.data.toList sub.data.toList)) /\ w' = w := Any.strings_Contains Tryd.lays144 s sub m w hs hm
def Tryd.lays149_ren : Go.Shelf.Ren := ⟨fun | 149 => 70 | 222 => 79 | n => n, fun | 9 => 9 | 5 => 5 | 3 => 3 | 4 => 4 | n => n, fun | n => n⟩
theorem Tryd.lays149 : Go.Proofs.Lays.n149 Tryd.prog Tryd.lays149_ren := {
 mixed := by kernel_rfl
 f149 := Tryd.func70.trans (congrArg some (by kernel_rfl))
 f222 := Tryd.func79.trans (congrArg some (by kernel_rfl))
 t3 := Tryd.underlying3
 a3 := Tryd.isAgg3
 z3 := Tryd.sizeOf3
 v3 := Tryd.zeroValue3
 t4 := Tryd.underlying4
 a4 := Tryd.isAgg4
 z4 := Tryd.sizeOf4
 v4 := Tryd.zeroValue4
 t5 := Tryd.underlying5
 a5 := Tryd.isAgg5
 z5 := Tryd.sizeOf5
 v5 := Tryd.zeroValue5
 t9 := Tryd.underlying9
 a9 := Tryd.isAgg9
 z9 := Tryd.sizeOf9
 v9 := Tryd.zeroValue9 }
open Go.RowKit Go.Lib in
theorem Tryd.strings_LastIndexByte (s : ByteArray) (c : Int) (hs : s.size < 4611686018427387904) (w : World) :
  Calls Tryd.prog 70 #[.string s, .int .u8 c] w fun e w' => e = .returned (.int .i64 (Lib.lastIndexByte s c)) /\ w' = w := Any.strings_LastIndexByte Tryd.lays149 s c hs w
def Tryd.lays146_ren : Go.Shelf.Ren := ⟨fun | 146 => 31 | 221 => 48 | 268 => 63 | 138 => 64 | 143 => 65 | 195 => 73 | 197 => 74 | 218 => 75 | 219 => 76 | 260 => 82 | 217 => 83 | 225 => 84 | 224 => 85 | 267 => 86 | 266 => 89 | 314 => 90 | n => n, fun | 9 => 9 | 31 => 68 | 3 => 3 | 4 => 4 | 0 => 0 | 105 => 116 | 21 => 21 | 5 => 5 | 46 => 96 | 119 => 127 | 139 => 130 | 138 => 129 | 146 => 131 | 51 => 110 | n => n, fun | 1 => 1 | 3 => 2 | 4 => 3 | n => n⟩
theorem Tryd.lays146 : Go.Proofs.Lays.n146 Tryd.prog Tryd.lays146_ren := {
 mixed := by kernel_rfl
 f138 := Tryd.func64.trans (congrArg some (by kernel_rfl))
 f143 := Tryd.func65.trans (congrArg some (by kernel_rfl))
 f146 := Tryd.func31.trans (congrArg some (by kernel_rfl))
 f195 := Tryd.func73.trans (congrArg some (by kernel_rfl))
 f197 := Tryd.func74.trans (congrArg some (by kernel_rfl))
 f217 := Tryd.func83.trans (congrArg some (by kernel_rfl))
 f218 := Tryd.func75.trans (congrArg some (by kernel_rfl))
 f219 := Tryd.func76.trans (congrArg some (by kernel_rfl))
 f221 := Tryd.func48.trans (congrArg some (by kernel_rfl))
 f224 := Tryd.func85.trans (congrArg some (by kernel_rfl))
 f225 := Tryd.func84.trans (congrArg some (by kernel_rfl))
 f260 := Tryd.func82.trans (congrArg some (by kernel_rfl))
 f266 := Tryd.func89.trans (congrArg some (by kernel_rfl))
 f267 := Tryd.func86.trans (congrArg some (by kernel_rfl))
 f268 := Tryd.func63.trans (congrArg some (by kernel_rfl))
 f314 := Tryd.func90.trans (congrArg some (by kernel_rfl))
 t0 := Tryd.underlying0
 a0 := Tryd.isAgg0
 z0 := Tryd.sizeOf0
 v0 := Tryd.zeroValue0
 t3 := Tryd.underlying3
 a3 := Tryd.isAgg3
 z3 := Tryd.sizeOf3
 v3 := Tryd.zeroValue3
 t4 := Tryd.underlying4
 a4 := Tryd.isAgg4
 z4 := Tryd.sizeOf4
 v4 := Tryd.zeroValue4
 t5 := Tryd.underlying5
 a5 := Tryd.isAgg5
 z5 := Tryd.sizeOf5
 v5 := Tryd.zeroValue5
 t9 := Tryd.underlying9
 a9 := Tryd.isAgg9
 z9 := Tryd.sizeOf9
 v9 := Tryd.zeroValue9
 t21 := Tryd.underlying21
 a21 := Tryd.isAgg21
 z21 := Tryd.sizeOf21
 v21 := Tryd.zeroValue21
 t31 := Tryd.underlying68
 a31 := Tryd.isAgg68
 z31 := Tryd.sizeOf68
 v31 := Tryd.zeroValue68
 t46 := Tryd.underlying96
 a46 := Tryd.isAgg96
 z46 := Tryd.sizeOf96
 v46 := Tryd.zeroValue96
 t51 := Tryd.underlying110
 a51 := Tryd.isAgg110
 z51 := Tryd.sizeOf110
 v51 := Tryd.zeroValue110
 t105 := Tryd.underlying116
 a105 := Tryd.isAgg116
 z105 := Tryd.sizeOf116
 v105 := Tryd.zeroValue116
 t119 := Tryd.underlying127
 a119 := Tryd.isAgg127
 z119 := Tryd.sizeOf127
 t138 := Tryd.underlying129
 a138 := Tryd.isAgg129
 z138 := Tryd.sizeOf129
 v138 := Tryd.zeroValue129
 t139 := Tryd.underlying130
 a139 := Tryd.isAgg130
 z139 := Tryd.sizeOf130
 v139 := Tryd.zeroValue130
 t146 := Tryd.underlying131
 a146 := Tryd.isAgg131
 z146 := Tryd.sizeOf131
 v146 := Tryd.zeroValue131
 g1 := by kernel_rfl
 g3 := by kernel_rfl
 g4 := by kernel_rfl }
open Go.RowKit Go.Lib in
theorem Tryd.strings_Split (s sep : ByteArray) (m : Int) (w : World) (hs : s.size < 4294967281) (hm : w.cell? ⟨1, 0, none⟩ = some (.int .i64 m)) (h1 : 1 <= sep.size) :
  Calls Tryd.prog 31 #[.string s, .string sep] w fun e w' =>
   e = .returned (.slice (some ⟨w.heap.size, 0, none⟩) (Lib.countB s sep + 1) (Lib.countB s sep + 1)) /\ w' = w.alloc (.cells ((Lib.splitB sep 0 (Lib.countB s sep) s).map Value.string).toArray 9) := Any.strings_Split Tryd.lays146 (by kernel_rfl) s sep m w hs hm h1
def Tryd.laysM146_ren : Go.Shelf.Ren := ⟨fun | 146 => 31 | 221 => 48 | 268 => 63 | 138 => 64 | 143 => 65 | 195 => 73 | 197 => 74 | 218 => 75 | 219 => 76 | 260 => 82 | 217 => 83 | 225 => 84 | 224 => 85 | 267 => 86 | 266 => 89 | 314 => 90 | n => n, fun | 9 => 9 | 31 => 68 | 3 => 3 | 4 => 4 | 0 => 0 | 105 => 116 | 21 => 21 | 5 => 5 | 46 => 96 | 119 => 127 | 139 => 130 | 138 => 129 | 146 => 131 | 51 => 110 | n => n, fun | 1 => 1 | 3 => 2 | 4 => 3 | n => n⟩
theorem Tryd.laysM146 : Go.Proofs.LaysM.n146 Tryd.prog Tryd.laysM146_ren := {
 mixed := by kernel_rfl
 f138 := Tryd.func64.trans (congrArg some (by kernel_rfl))
 f143 := Tryd.func65.trans (congrArg some (by kernel_rfl))
 f146 := Tryd.func31.trans (congrArg some (by kernel_rfl))
 f195 := Tryd.func73.trans (congrArg some (by kernel_rfl))
 f197 := Tryd.func74.trans (congrArg some (by kernel_rfl))
 f217 := Tryd.func83.trans (congrArg some (by kernel_rfl))
 f218 := Tryd.func75.trans (congrArg some (by kernel_rfl))
 f219 := Tryd.func76.trans (congrArg some (by kernel_rfl))
 f221 := Tryd.func48.trans (congrArg some (by kernel_rfl))
 f224 := Tryd.func85.trans (congrArg some (by kernel_rfl))
 f225 := Tryd.func84.trans (congrArg some (by kernel_rfl))
 f260 := Tryd.func82.trans (congrArg some (by kernel_rfl))
 f266 := Tryd.func89.trans (congrArg some (by kernel_rfl))
 f267 := Tryd.func86.trans (congrArg some (by kernel_rfl))
 f268 := Tryd.func63.trans (congrArg some (by kernel_rfl))
 f314 := Tryd.func90.trans (congrArg some (by kernel_rfl))
 t0 := Tryd.underlying0
 a0 := Tryd.isAgg0
 z0 := Tryd.sizeOf0
 v0 := Tryd.zeroValue0
 t3 := Tryd.underlying3
 a3 := Tryd.isAgg3
 z3 := Tryd.sizeOf3
 v3 := Tryd.zeroValue3
 t4 := Tryd.underlying4
 a4 := Tryd.isAgg4
 z4 := Tryd.sizeOf4
 v4 := Tryd.zeroValue4
 t5 := Tryd.underlying5
 a5 := Tryd.isAgg5
 z5 := Tryd.sizeOf5
 v5 := Tryd.zeroValue5
 t9 := Tryd.underlying9
 a9 := Tryd.isAgg9
 z9 := Tryd.sizeOf9
 v9 := Tryd.zeroValue9
 t21 := Tryd.underlying21
 a21 := Tryd.isAgg21
 z21 := Tryd.sizeOf21
 v21 := Tryd.zeroValue21
 t31 := Tryd.underlying68
 a31 := Tryd.isAgg68
 z31 := Tryd.sizeOf68
 v31 := Tryd.zeroValue68
 t46 := Tryd.underlying96
 a46 := Tryd.isAgg96
 z46 := Tryd.sizeOf96
 v46 := Tryd.zeroValue96
 t51 := Tryd.underlying110
 a51 := Tryd.isAgg110
 z51 := Tryd.sizeOf110
 v51 := Tryd.zeroValue110
 t105 := Tryd.underlying116
 a105 := Tryd.isAgg116
 z105 := Tryd.sizeOf116
 v105 := Tryd.zeroValue116
 t119 := Tryd.underlying127
 a119 := Tryd.isAgg127
 z119 := Tryd.sizeOf127
 t138 := Tryd.underlying129
 a138 := Tryd.isAgg129
 z138 := Tryd.sizeOf129
 v138 := Tryd.zeroValue129
 t139 := Tryd.underlying130
 a139 := Tryd.isAgg130
 z139 := Tryd.sizeOf130
 v139 := Tryd.zeroValue130
 t146 := Tryd.underlying131
 a146 := Tryd.isAgg131
 z146 := Tryd.sizeOf131
 v146 := Tryd.zeroValue131
 g1 := by kernel_rfl
 g3 := by kernel_rfl
 g4 := by kernel_rfl
 i0 := by kernel_rfl
 i3 := by kernel_rfl
 i4 := by kernel_rfl
 i5 := by kernel_rfl
 i9 := by kernel_rfl
 i21 := by kernel_rfl
 i31 := by kernel_rfl
 i46 := by kernel_rfl
 i51 := by kernel_rfl
 i105 := by kernel_rfl
 i138 := by kernel_rfl
 i139 := by kernel_rfl
 i146 := by kernel_rfl
 m1 := by kernel_rfl
 s1_3 := fun w h => Go.Proofs.cell_of_shapedOpen_int (zero := #[.int .i64 0]) (t := 3) h (of_decide_eq_true (by kernel_rfl)) (by kernel_rfl) rfl (by kernel_rfl) (by kernel_rfl) Tryd.underlying3
 m3 := by kernel_rfl
 m4 := by kernel_rfl }
end Go.Proofs
namespace Go.Proofs.YtpmgdngjbdkdfaaDoor
open Go.Abs Go.RowKit
theorem Zfn {P : Program} {f : FuncId} {fn : Func} (hf : P.funcs[f]? = some fn) (h : (fn.name == "runtime.NumGoroutine") = false) (hb : fn.body.isNone = false) : Ze5 P f := ⟨fn, hf, by simpa using h, hb⟩
theorem Zgm {W : World} {G φ} {s : Bytes} {x : Value} (h : Rep W G φ (.str s) x) : ∃ t : ByteArray, x = .string t /\ t.data.toList = s := by
 cases h with
 | str l t h => exact ⟨t, rfl, h⟩
theorem Zyi {W : World} {G φ} {u v : V} {xs : Array Value} (h : RepL W G φ [u, v] xs) : ∃ x y, xs = #[x, y] /\ Rep W G φ u x /\ Rep W G φ v y := by
 obtain ⟨hl, h⟩ := h
 obtain ⟨l⟩ := xs
 match l, hl with
 | [x, y], _ => exact ⟨x, y, rfl, h 0 u x rfl rfl, h 1 v y rfl rfl⟩
theorem HasMax.at {w : World} (h : HasMax w) {W : World} {G : Nat -> Nat} (hW : OKW (cxD w) W G) : ∃ m, W.cell? ⟨1, 0, none⟩ = some (.int .i64 m) := by
 obtain ⟨m, hm⟩ := h
 refine ⟨m, ?_⟩
 rw [hW.below.cell (p := ⟨1, 0, none⟩) ?_]
 ·exact hm
 ·rcases Xa4 1 (cxD w).w0.heap.size with h0 | h0
  ·exact h0
  ·exfalso
   have : w.heap[(1 : Nat)]? = none := Xdi h0
   simp only [World.cell?, this] at hm
   cases hm
theorem Zse {args : List V} {a b : Bytes} (h : nfL args = [V.str a, V.str b]) : args = [.str a, .str b] := by
 obtain ⟨u, v, rfl, h1, h2⟩ := Zhi h
 obtain ⟨u', v', rfl, h3, h4⟩ := Zhi h2
 obtain rfl := Zs6 h4
 rw [Zdy h1, Zdy h3]
theorem Zvx (l : List Bytes) : nfL (l.map .str) = l.map .str := by rw [Zb1, Xdc]; rfl
def Zae (c : UInt8) : Bytes -> List Bytes
 | [] => [[]]
 | b :: r => if b = c then [] :: Zae c r else match Zae c r with
  | [] => [[b]]
  | x :: xs => (b :: x) :: xs
theorem Zj1 (c : UInt8) : ∀ s : Bytes, Lib.splitK [c] 0 (s.count c) s = Zae c s
 | [] => rfl
 | b :: r => by
  have ih := Zj1 c r
  simp only [Zae]
  by_cases h : b = c
  ·subst h
   rw [List.count_cons_self, if_pos rfl]
   simp only [Lib.splitK, Lib.index]
   simp [ih]
  ·rw [if_neg h, List.count_cons_of_ne h]
   cases hk : r.count c with
   | zero => rw [hk] at ih; simp only [Lib.splitK] at ih ⊢; rw [<- ih]
   | succ k =>
    rw [hk] at ih
    simp only [Lib.splitK, Lib.index] at ih ⊢
    have hp : List.isPrefixOf [c] (b :: r) = false := by simp [List.isPrefixOf, Ne.symm h]
    simp only [hp, Xaq, if_false]
    by_cases hi : Lib.index r [c] = -1
    ·simp only [hi, beq_self_eq_true, if_true] at ih ⊢
     rw [<- ih]
    ·have hge := Lib.index_ge r [c]
     have e1 : (Lib.index r [c] == -1) = false := by simpa using hi
     have e2 : (Lib.index r [c] + 1 == -1) = false := by simp; omega
     simp only [e1, e2, Xaq, if_false] at ih ⊢
     rw [<- ih]
     have e3 : (Lib.index r [c] + 1).toNat = (Lib.index r [c]).toNat + 1 := by omega
     simp [e3]
def g.strings_Split (s c : Bytes) : Option (List Bytes) := if s.length < 4294967281 /\ c.length = 1 then some (Zae (c.headD 0) s) else none
def K.strings_Split : FC := fc 31 (fun _ => true) true (fun (a : Bytes × Bytes) => [V.str a.1, V.str a.2]) (fun (y : List Bytes) => .sl false 1 (y.map .str)) (fun a => g.strings_Split a.1 a.2)
 (fun _ => rfl) (fun y => Zgh (fun _ => rfl) y) (fun ⟨a, b⟩ ⟨c, d⟩ h => by simp at h; simp [h])
theorem H.strings_Split (w : World) (hw : EnvOK w) : K.strings_Split.Holds (cxD w) := by
 rintro args y ⟨⟨s, c⟩, r, ha, hg, rfl⟩
 obtain rfl := Zse ha
 simp only [g.strings_Split] at hg
 split at hg
 ·rename_i hc
  cases hg
  refine ⟨.sl false 1 ((Zae (c.headD 0) s).map .str), true, ?_, by show V.sl false 1 (nfL _) = _; rw [Zvx], fun _ => .inl rfl⟩
  refine PC.texts (Zfn Tryd.func31 (by kernel_rfl) (by kernel_rfl)) fun W G φ xs hW hxs => ?_
  obtain ⟨x, y, rfl, hx, hy⟩ := Zyi hxs
  obtain ⟨t, rfl, rfl⟩ := Zgm hx
  obtain ⟨u, rfl, hu⟩ := Zgm hy
  obtain ⟨m, hm⟩ := hw.max.at hW
  have hu1 : u.size = 1 := by rw [Lib.size_eq, hu]; exact hc.2
  have hsz : t.size < 4294967281 := by rw [Lib.size_eq]; exact hc.1
  refine (Tryd.strings_Split t u m W hsz hm (by omega)).mono fun e W' ⟨he, hW'⟩ => ?_
  have hlen := Lib.splitB_all u (by omega) 0 _ t rfl
  refine ⟨Lib.splitB u 0 (Lib.countB t u) t, _, ?_, by rw [he, hlen], hW'⟩
  have hu2 : u.data.toList = [c.headD 0] := by
   rw [hu]
   match c, hc.2 with
   | [b], _ => rfl
  rw [Lib.splitB_data, hu2]
  have : Lib.countB t u = t.data.toList.count (c.headD 0) := by
   unfold Lib.countB
   rw [hu2, Lib.count_one]
  rw [this, Zj1]
 ·cases hg
def g.strings_Contains (s c : Bytes) : Option Bool := if s.length < 4294967281 /\ c.length = 1 then some (decide (c.headD 0 ∈ s)) else none
def K.strings_Contains : FC := fc 50 (fun _ => true) false (fun (a : Bytes × Bytes) => [V.str a.1, V.str a.2]) (fun (y : Bool) => .bool y) (fun a => g.strings_Contains a.1 a.2)
 (fun _ => rfl) (fun y => rfl) (fun ⟨a, b⟩ ⟨c, d⟩ h => by simp at h; simp [h])
theorem Zlj (c : UInt8) : ∀ s : Bytes, (Lib.index s [c] = -1) <-> c ∉ s
 | [] => by simp [Lib.index]
 | b :: r => by
  have ih := Zlj c r
  have hge := Lib.index_ge r [c]
  simp only [Lib.index]
  by_cases h : b = c
  ·subst h; simp
  ·have hp : List.isPrefixOf [c] (b :: r) = false := by simp [List.isPrefixOf, Ne.symm h]
   simp only [hp, Xaq, if_false]
   by_cases hi : Lib.index r [c] = -1
   ·simp [hi, ih.1 hi, Ne.symm h]
   ·have e1 : (Lib.index r [c] == -1) = false := by simpa using hi
    have hm : c ∈ r := Classical.not_not.1 fun hn => hi (ih.2 hn)
    simp [e1, hm]; omega
theorem H.strings_Contains (w : World) (hw : EnvOK w) : K.strings_Contains.Holds (cxD w) := by
 rintro args y ⟨⟨s, c⟩, r, ha, hg, rfl⟩
 obtain rfl := Zse ha
 simp only [g.strings_Contains] at hg
 split at hg
 ·rename_i hc
  cases hg
  refine ⟨.bool (decide (c.headD 0 ∈ s)), false, ?_, rfl, fun h => nomatch h⟩
  refine PC.pure (Zfn Tryd.func50 (by kernel_rfl) (by kernel_rfl)) fun W G φ xs hW hxs => ?_
  obtain ⟨x, y, rfl, hx, hy⟩ := Zyi hxs
  obtain ⟨t, rfl, rfl⟩ := Zgm hx
  obtain ⟨u, rfl, hu⟩ := Zgm hy
  obtain ⟨m, hm⟩ := hw.max.at hW
  have hsz : t.size < 4294967281 := by rw [Lib.size_eq]; exact hc.1
  refine (Tryd.strings_Contains t u m W hsz hm).mono fun e W' ⟨he, hW'⟩ => ?_
  subst hW'
  refine ⟨_, he, .refl _ _, fun _ _ => ?_⟩
  have hu2 : u.data.toList = [c.headD 0] := by
   rw [hu]
   match c, hc.2 with
   | [b], _ => rfl
  rw [hu2]
  have e : decide (0 <= Lib.index t.data.toList [c.headD 0]) = decide (c.headD 0 ∈ t.data.toList) := by
   have := Zlj (c.headD 0) t.data.toList
   have hge := Lib.index_ge t.data.toList [c.headD 0]
   rw [decide_eq_decide]
   constructor
   ·intro h; exact Classical.not_not.1 fun hn => by have := this.2 hn; omega
   ·intro h
    have : Lib.index t.data.toList [c.headD 0] ≠ -1 := fun h' => (this.1 h') h
    omega
  have e2 : Lib.contains t.data.toList [c.headD 0] = decide (c.headD 0 ∈ t.data.toList) := e
  rw [e2]
  exact .bool _
 ·cases hg
end Go.Proofs.YtpmgdngjbdkdfaaDoor
namespace Go.Proofs.YtpmgdngjbdkdfaaDoor
open Go.Abs Go.RowKit Go.Shelf Go.Sort
theorem Zsi {W : World} {G φ} {nl : Bool} {l : List Bytes} {x : Value} (h : Rep W G φ (.sl nl 1 (l.map .str)) x) :
  (x = .slice none 0 0 /\ l = []) \/ (∃ a, x = .slice (some a) 0 0 /\ l = []) \/ ∃ (b off cap : Nat) (zs : List ByteArray), x = .slice (some ⟨b, off, none⟩) zs.length cap /\ zs.map (·.data.toList) = l /\ zs.length <= cap /\
   ∀ j, j < zs.length -> W.cell? ⟨b, off + j, none⟩ = some (.string (zs.getD j ByteArray.empty)) := by
 generalize hv : l.map V.str = ys at h
 cases h with
 | slnil => exact .inl ⟨rfl, List.map_eq_nil_iff.1 hv⟩
 | sl0 _ a => exact .inr (.inl ⟨a, rfl, List.map_eq_nil_iff.1 hv⟩)
 | sl _ _ b off cap rd hcap hG hx hrd h =>
  subst hv
  right; right
  have hs : ∀ i s, l[i]? = some s -> ∃ t : ByteArray, rd i = .string t /\ t.data.toList = s := by
   intro i s hi
   have := h i (.str s) 0 (.str s) (by simp [hi]) rfl
   simp only [Xcl, Xcq] at this
   obtain ⟨t, h1, h2⟩ := Zgm this
   exact ⟨t, h1, h2⟩
  refine ⟨b, off, cap, (List.range l.length).map fun i => match rd i with | .string t => t | _ => ByteArray.empty, by simp, ?_, by simpa using hcap, fun j hj => ?_⟩
  ·apply Xd4
   intro i
   rcases Xa4 i l.length with hi | hi
   ·obtain ⟨t, h1, h2⟩ := hs i _ (Xad hi)
    simp [hi, h1, h2]
   ·simp [Xev.2 hi, hi]
  ·have hj' : j < l.length := by simpa using hj
   obtain ⟨t, h1, h2⟩ := hs j _ (Xad hj')
   rw [hrd j (by simpa using hj'), h1]
   simp [List.getD, hj', h1]
theorem Ztz : ∀ {xs : List V} {l : List Bytes}, nfL xs = l.map V.str -> xs = l.map V.str
 | [], [], _ => rfl
 | [], _ :: _, h => by simp [nfL] at h
 | _ :: _, [], h => by simp [nfL] at h
 | x :: xs, y :: l, h => by
  obtain ⟨h1, h2⟩ := List.cons.inj (show x.nf :: nfL xs = V.str y :: l.map V.str from h)
  rw [Zdy h1, Ztz h2]; rfl
end Go.Proofs.YtpmgdngjbdkdfaaDoor
namespace Go.Proofs.YtpmgdngjbdkdfaaDoor
open Go.Abs Go.RowKit Go.Shelf Go.Sort
def g.strings_Join (l : List Bytes) (s : Bytes) : Option Bytes :=
 if l.length <= 1000000000 /\ (Lib.join l s).length <= 140737488355328 then some (Lib.join l s) else none
def K.strings_Join : FC := fc 53 (fun _ => true) false (fun (a : List Bytes × Bytes) => [V.sl false 1 (a.1.map .str), V.str a.2]) (fun (y : Bytes) => .str y) (fun a => g.strings_Join a.1 a.2)
 (fun l => Zet (Zgh (fun _ => rfl) l.1) rfl) (fun _ => rfl) (fun ⟨a, b⟩ ⟨c, d⟩ h => by
  obtain ⟨h1, h2⟩ := List.cons.inj h
  simp only [V.sl.injEq, true_and] at h1
  have h3 := V.str.inj (List.cons.inj h2).1
  have h4 : a = c := Zyy (fun x y h => V.str.inj h) h1
  simp only at h3
  rw [h4, h3])
theorem H.strings_Join (w : World) (_hw : EnvOK w) : K.strings_Join.Holds (cxD w) := by
 rintro args y ⟨⟨l, s⟩, r, ha, hg, rfl⟩
 obtain ⟨u, v, rfl, h1, h2⟩ := Zhi ha
 obtain ⟨u', v', rfl, h3, h4⟩ := Zhi h2
 obtain rfl := Zs6 h4
 obtain rfl := Zdy h3
 simp only [g.strings_Join] at hg
 split at hg
 ·rename_i hc
  cases hg
  obtain ⟨nl, rfl⟩ : ∃ nl, u = .sl nl 1 (l.map .str) := by
   obtain ⟨nl, xs, rfl, h3, _⟩ := Z58 h1
   exact ⟨nl, by rw [Ztz h3]⟩
  refine ⟨.str _, false, ?_, rfl, fun h => nomatch h⟩
  refine PC.pure (Zfn Tryd.func53 (by kernel_rfl) (by kernel_rfl)) fun W G φ xs hW hxs => ?_
  obtain ⟨x, y, rfl, hx, hy⟩ := Zyi hxs
  obtain ⟨t, rfl, rfl⟩ := Zgm hy
  have hnone : ∀ (a : Option Addr), l = [] -> Calls Tryd.prog 53 #[.slice a 0 0, .string t] W fun e W' => ∃ y, e = .returned y /\ Below W.heap.size W W' /\ ∀ (W'' : World) (G' : Nat -> Nat), Rep W'' G' φ (.str (Lib.join l t.data.toList)) y := by
   rintro a rfl
   refine (Tryd.strings_Join_none a 0 t W).mono fun e W' => ?_
   rintro ⟨rfl, rfl⟩
   exact ⟨_, rfl, .refl _ _, fun _ _ => .str _ _ rfl⟩
  rcases Zsi hx with ⟨rfl, e⟩ | ⟨a, rfl, e⟩ | ⟨b, off, cap, zs, rfl, hz, hcc, hcells⟩
  ·exact hnone none e
  ·exact hnone _ e
  ·have hlz : zs.length = l.length := by rw [<- hz]; simp
   rcases Xc4 zs.length with h0 | h0
   ·have e : l = [] := Xa7 (by omega)
    have ez : zs = [] := Xa7 h0
    subst e; subst ez
    refine (Tryd.strings_Join_none _ cap t W).mono fun e W' => ?_
    rintro ⟨rfl, rfl⟩
    exact ⟨_, rfl, .refl _ _, fun _ _ => .str _ _ rfl⟩
   ·have hb : b < W.heap.size := by
     have := hcells 0 h0
     rcases Xa4 b W.heap.size with h | h
     ·exact h
     ·simp [World.cell?, Xdi h] at this
    refine (Tryd.strings_Join b off cap zs t W (fun j x hj => ?_) hb (by omega) hcc (by rw [hz]; exact hc.2)).mono fun e W' => ?_
    ·rw [hcells j (Xae.1 hj).1]; simp [List.getD, hj]
    ·rintro ⟨rfl, hB⟩
     exact ⟨_, rfl, hB, fun _ _ => .str _ _ (by rw [hz])⟩
 ·cases hg
end Go.Proofs.YtpmgdngjbdkdfaaDoor
namespace Go.Proofs.YtpmgdngjbdkdfaaDoor
open Go.Abs
def Z7j : List FE := [
 ⟨20, 20, false, 2, ⟨0, [], [], 0⟩, none, [], false⟩,
 ⟨32, 32, false, 2, ⟨0, [], [], 0⟩, none, [], false⟩,
 ⟨40, 40, false, 1, ⟨0, [], [], 0⟩, none, [(17, ⟨3, [(0, .at (.n 0 false false)), (4, .at (.n 1 false false)), (30, .at (.n 2 false true))], [], 0⟩), (30, ⟨4, [(6, .at (.n 0 true true)), (7, .at (.n 1 false true)), (36, .at (.n 2 false false)), (37, .at (.n 3 false true))], [], 0⟩)], false⟩,
 ⟨44, 44, false, 2, ⟨0, [], [], 0⟩, none, [], false⟩,
 ⟨52, 52, false, 1, ⟨0, [], [], 0⟩, none, [], false⟩,
 ⟨56, 56, false, 1, ⟨0, [], [], 0⟩, none, [], false⟩,
 ⟨60, 60, false, 1, ⟨0, [], [], 0⟩, none, [(12, ⟨5, [(0, .at (.n 0 false false)), (2, .at (.ptr 0 0)), (3, .at (.ptr 1 0)), (4, .at (.ptr 2 0)), (5, .at (.n 1 false false))], [some [.many (some 32) (.n 2 false false)], some [.many (some 8) (.n 3 false false)], some [.many (some 64) (.n 4 false false)]], 0⟩), (39, ⟨4, [(0, .at (.n 0 false false)), (2, .at (.ptr 0 0)), (3, .at (.ptr 1 0)), (4, .at (.ptr 2 0))], [some [.many (some 32) (.n 1 false false)], some [.many (some 8) (.n 2 false false)], some [.many (some 64) (.n 3 false false)]], 0⟩), (43, ⟨5, [(0, .at (.n 0 false false)), (2, .at (.ptr 0 0)), (3, .at (.ptr 1 0)), (4, .at (.ptr 2 0)), (34, .at (.n 1 false true))], [some [.many (some 32) (.n 2 false false)], some [.many (some 8) (.n 3 false false)], some [.many (some 64) (.n 4 false false)]], 0⟩), (64, ⟨4, [(2, .at (.ptr 0 0)), (3, .at (.ptr 1 0)), (7, .at (.ptr 2 0)), (52, .at (.n 0 false true))], [some [.many (some 32) (.n 1 false false)], some [.many (some 8) (.n 2 false false)], some [.many (some 32) (.n 3 false false)]], 0⟩)], false⟩,
 ⟨80, 80, false, 1, ⟨0, [], [], 0⟩, none, [], false⟩,
 ⟨17, 17, false, 2, ⟨0, [], [], 0⟩, none, [], false⟩,
 ⟨25, 25, false, 1, ⟨0, [], [], 0⟩, none, [(9, ⟨2, [(4, .at (.n 0 false false)), (21, .at (.n 1 false true))], [], 0⟩), (18, ⟨2, [(4, .at (.n 0 false false)), (6, .at (.n 1 true true))], [], 0⟩)], false⟩,
 ⟨29, 29, false, 2, ⟨0, [], [], 0⟩, none, [(8, ⟨5, [(0, .at (.n 0 false false)), (1, .at (.n 1 false false)), (9, .at (.n 2 false false)), (10, .at (.n 3 false true)), (11, .at (.n 4 false true))], [], 0⟩)], false⟩,
 ⟨33, 33, false, 1, ⟨0, [], [], 0⟩, none, [], false⟩,
 ⟨37, 37, false, 1, ⟨0, [], [], 0⟩, none, [], false⟩,
 ⟨41, 41, false, 1, ⟨0, [], [], 0⟩, none, [], false⟩,
 ⟨49, 49, false, 2, ⟨0, [], [], 0⟩, none, [(8, ⟨4, [(0, .at (.n 0 false false)), (1, .at (.n 1 false false)), (7, .at (.n 2 false true)), (8, .at (.n 3 false true))], [], 0⟩)], false⟩,
 ⟨57, 57, false, 1, ⟨0, [], [], 0⟩, none, [(18, ⟨3, [(0, .at (.n 0 false false)), (4, .at (.n 1 false true)), (9, .at (.n 2 false true))], [], 0⟩)], false⟩,
 ⟨81, 81, false, 2, ⟨0, [], [], 0⟩, none, [], false⟩,
 ⟨6, 6, false, 0, ⟨0, [], [], 0⟩, none, [], false⟩,
 ⟨10, 10, false, 1, ⟨0, [], [], 0⟩, none, [(16, ⟨4, [(0, .at (.n 0 false false)), (14, .at (.n 1 false false)), (15, .at (.n 2 false true)), (16, .at (.n 3 false true))], [], 0⟩), (38, ⟨9, [(0, .at (.n 0 false false)), (3, .at (.n 1 false true)), (4, .at (.ptr 0 0)), (14, .at (.n 2 false false)), (15, .at (.n 3 false true)), (16, .at (.n 4 false true)), (25, .at (.n 5 false false)), (26, .at (.n 6 false true)), (27, .at (.n 7 false true))], [some [.many (some 2) (.n 8 false false)]], 0⟩), (64, ⟨3, [(55, .at (.n 0 false false)), (56, .at (.n 1 false true)), (57, .at (.n 2 false true))], [], 0⟩)], false⟩,
 ⟨18, 18, false, 2, ⟨0, [], [], 0⟩, none, [], false⟩,
 ⟨22, 22, false, 1, ⟨0, [], [], 0⟩, none, [(10, ⟨5, [(0, .at (.n 0 false false)), (3, .at (.n 1 true false)), (8, .at (.n 2 false false)), (9, .at (.n 3 false true)), (10, .at (.n 4 false true))], [], 0⟩)], false⟩,
 ⟨26, 26, false, 1, ⟨0, [], [], 0⟩, none, [(18, ⟨4, [(4, .at (.n 0 true true)), (11, .at (.n 1 false false)), (12, .at (.n 2 false true)), (13, .at (.n 3 false true))], [], 0⟩)], false⟩,
 ⟨30, 30, true, 1, ⟨0, [], [], 0⟩, none, [], false⟩,
 ⟨34, 34, false, 1, ⟨0, [], [], 0⟩, none, [], false⟩,
 ⟨38, 38, true, 1, ⟨0, [], [], 0⟩, none, [(12, ⟨4, [(0, .at (.n 0 false false)), (3, .at (.n 1 true true)), (4, .at (.n 2 false true)), (5, .at (.n 3 false true))], [], 0⟩)], false⟩,
 ⟨42, 42, false, 1, ⟨0, [], [], 0⟩, none, [(8, ⟨4, [(0, .at (.n 0 false false)), (5, .at (.n 1 false false)), (6, .at (.n 2 false true)), (7, .at (.n 3 false true))], [], 0⟩)], false⟩,
 ⟨58, 58, false, 1, ⟨0, [], [], 0⟩, none, [], false⟩,
 ⟨62, 62, false, 1, ⟨0, [], [], 0⟩, none, [], false⟩,
 ⟨66, 66, false, 2, ⟨0, [], [], 0⟩, none, [], false⟩,
 ⟨70, 70, false, 2, ⟨0, [], [], 0⟩, none, [], false⟩,
 ⟨7, 7, false, 3, ⟨0, [], [], 0⟩, none, [(10, ⟨7, [(0, .at (.n 0 false false)), (1, .at (.n 1 false false)), (2, .at (.n 2 false false)), (7, .at (.n 3 false true)), (10, .at (.n 4 false false)), (11, .at (.n 5 false true)), (12, .at (.n 6 false true))], [], 0⟩)], false⟩,
 ⟨19, 19, false, 1, ⟨0, [], [], 0⟩, none, [], false⟩,
 ⟨23, 23, false, 2, ⟨0, [], [], 0⟩, none, [], false⟩,
 ⟨27, 27, false, 1, ⟨0, [], [], 0⟩, none, [], false⟩,
 ⟨35, 35, false, 2, ⟨0, [], [], 0⟩, none, [], false⟩,
 ⟨39, 39, false, 1, ⟨0, [], [], 0⟩, none, [(8, ⟨2, [(0, .at (.n 0 false false)), (3, .at (.n 1 false true))], [], 0⟩)], false⟩,
 ⟨43, 43, false, 1, ⟨0, [], [], 0⟩, none, [(10, ⟨5, [(0, .at (.n 0 false false)), (3, .at (.n 1 false true)), (9, .at (.n 2 false false)), (10, .at (.n 3 false true)), (11, .at (.n 4 false true))], [], 0⟩), (31, ⟨4, [(6, .at (.n 0 true true)), (28, .at (.n 1 false false)), (29, .at (.n 2 false true)), (30, .at (.n 3 false true))], [], 0⟩)], false⟩,
 ⟨47, 47, false, 2, ⟨0, [], [], 0⟩, none, [], false⟩,
 ⟨51, 51, false, 2, ⟨0, [], [], 0⟩, none, [], false⟩,
 ⟨59, 59, false, 1, ⟨0, [], [], 0⟩, none, [(10, ⟨3, [(0, .at (.n 0 false false)), (3, .at (.ptr 0 0)), (5, .at (.n 1 false true))], [some [.many (some 8) (.n 2 false false)]], 0⟩)], false⟩]
def Z6b : List FE := [
 ⟨79, 79, false, 2, ⟨0, [], [], 0⟩, none, [(8, ⟨3, [(0, .at (.n 0 false false)), (1, .at (.n 1 false false)), (5, .at (.n 2 false true))], [], 0⟩)], false⟩,
 ⟨10128, 8, false, 0, ⟨0, [], [], 0⟩, some [⟨3, [.ptr 0 0], [some [.one (.mpp 1), .one (.mpp 2), .one (.mpp 3)], some [.one (.mpc 0)], some [.one (.mpc 1)], some [.one (.mpc 2)]]⟩], [], false⟩,
 ⟨11136, 71, false, 2, ⟨2, [(0, .at (.ptr 0 0)), (1, .at (.osl 1 0 64 64 1))], [some [.many (some 8) (.n 0 false false)], some [.many (some 64) (.n 1 false false)]], 2⟩, some [⟨2, [], [some [.many (some 8) (.n 0 false false)], some [.many (some 64) (.n 1 false false)]]⟩], [(8, ⟨4, [(0, .at (.ptr 0 0)), (1, .at (.osl 1 0 64 64 1)), (4, .at (.ptr 2 0)), (26, .at (.n 0 false true))], [some [.many (some 8) (.n 1 false false)], some [.many (some 64) (.n 2 false false)], some [.many (some 64) (.n 3 false false)]], 2⟩), (25, ⟨4, [(0, .at (.ptr 0 0)), (4, .at (.ptr 2 0)), (6, .at (.n 0 false true))], [some [.many (some 8) (.n 1 false false)], some [.many (some 64) (.n 2 false false)], some [.many (some 64) (.n 3 false false)]], 2⟩), (48, ⟨12, [(0, .at (.ptr 0 0)), (11, .at (.n 0 false false)), (12, .at (.n 1 false false)), (13, .at (.n 2 false false)), (14, .at (.n 3 false false)), (15, .at (.n 4 false false)), (16, .at (.n 5 false false)), (17, .at (.n 6 false false)), (18, .at (.n 7 false false)), (112, .at (.n 8 false false)), (113, .at (.n 9 false true))], [some [.many (some 8) (.n 10 false false)], some [.many (some 64) (.n 11 false false)]], 2⟩), (72, ⟨4, [(0, .at (.ptr 0 0)), (185, .at (.n 0 false false)), (186, .at (.n 1 false true))], [some [.many (some 8) (.n 2 false false)], some [.many (some 64) (.n 3 false false)]], 2⟩)], false⟩,
 ⟨10880, 55, false, 1, ⟨1, [(0, .at (.n 0 false false))], [], 0⟩, some [⟨2, [.osx 0 0 1], [some [.many none (.n 1 false false)]]⟩], [], false⟩,
 ⟨10144, 9, false, 2, ⟨4, [(0, .at (.ptr 0 0)), (1, .at (.n 0 false false))], [some [.one (.mpp 1), .one (.mpp 2), .one (.mpp 3)], some [.one (.mpc 1)], some [.one (.mpc 2)], some [.one (.mpc 3)]], 4⟩, some [⟨5, [.n 0 false false, .n 1 false false], [some [.one (.mpp 1), .one (.mpp 2), .one (.mpp 3)], some [.one (.mpc 2)], some [.one (.mpc 3)], some [.one (.mpc 4)]]⟩], [(28, ⟨9, [(0, .at (.ptr 0 0)), (4, .at (.ptr 4 0)), (6, .at (.osx 5 0 2)), (24, .at (.osx 5 1 2)), (25, .at (.n 2 false true)), (26, .at (.n 3 false true))], [some [.one (.mpp 1), .one (.mpp 2), .one (.mpp 3)], some [.one (.mpc 4)], some [.one (.mpc 5)], some [.one (.mpc 6)], some [.many (some 32) (.n 7 false false)], some [.many none (.n 8 false false)]], 4⟩), (65, ⟨9, [(0, .at (.ptr 0 0)), (4, .at (.ptr 4 0)), (6, .at (.osx 5 0 2)), (64, .at (.osx 5 1 2)), (65, .at (.n 2 false true)), (66, .at (.n 3 false true))], [some [.one (.mpp 1), .one (.mpp 2), .one (.mpp 3)], some [.one (.mpc 4)], some [.one (.mpc 5)], some [.one (.mpc 6)], some [.many (some 32) (.n 7 false false)], some [.many none (.n 8 false false)]], 4⟩)], false⟩,
 ⟨10864, 54, false, 2, ⟨3, [(0, .at (.osx 0 0 1)), (1, .at (.n 1 false true))], [some [.many none (.n 2 false false)]], 1⟩, some [⟨2, [.osx 0 0 1], [some [.many none (.n 1 false false)]]⟩], [(18, ⟨5, [(0, .at (.osx 0 0 1)), (1, .at (.n 1 false true)), (5, .at (.n 2 false true)), (6, .at (.n 3 false true))], [some [.many none (.n 4 false false)]], 1⟩)], false⟩,
 ⟨10145, 9, false, 2, ⟨5, [(0, .at (.ptr 0 0)), (1, .at (.osx 1 0 2))], [some [.one (.mpp 2), .one (.mpp 3), .one (.mpp 4)], some [.many none (.n 1 false false)], some [.one (.mpc 2)], some [.one (.mpc 3)], some [.one (.mpc 4)]], 5⟩, some [⟨6, [.n 0 false false, .n 1 false false], [some [.one (.mpp 2), .one (.mpp 3), .one (.mpp 4)], some [.many none (.n 2 false false)], some [.one (.mpc 3)], some [.one (.mpc 4)], some [.one (.mpc 5)]]⟩], [(28, ⟨10, [(0, .at (.ptr 0 0)), (4, .at (.ptr 5 0)), (6, .at (.osx 6 0 2)), (24, .at (.osx 6 1 2)), (25, .at (.n 2 false true)), (26, .at (.n 3 false true))], [some [.one (.mpp 2), .one (.mpp 3), .one (.mpp 4)], some [.many none (.n 4 false false)], some [.one (.mpc 5)], some [.one (.mpc 6)], some [.one (.mpc 7)], some [.many (some 32) (.n 8 false false)], some [.many none (.n 9 false false)]], 5⟩), (65, ⟨10, [(0, .at (.ptr 0 0)), (4, .at (.ptr 5 0)), (6, .at (.osx 6 0 2)), (64, .at (.osx 6 1 2)), (65, .at (.n 2 false true)), (66, .at (.n 3 false true))], [some [.one (.mpp 2), .one (.mpp 3), .one (.mpp 4)], some [.many none (.n 4 false false)], some [.one (.mpc 5)], some [.one (.mpc 6)], some [.one (.mpc 7)], some [.many (some 32) (.n 8 false false)], some [.many none (.n 9 false false)]], 5⟩)], false⟩,
 ⟨10240, 15, false, 1, ⟨1, [(0, .at (.n 0 false false))], [], 0⟩, some [⟨2, [.osx 0 0 2], [some [.many none (.n 1 false false)]]⟩], [], false⟩,
 ⟨10784, 49, false, 2, ⟨3, [(0, .at (.osx 0 0 1)), (1, .at (.n 1 false true))], [some [.many none (.n 2 false false)]], 1⟩, some [⟨2, [.n 0 false true], [some [.many none (.n 1 false false)]]⟩], [(8, ⟨5, [(0, .at (.osx 0 0 1)), (1, .at (.n 1 false true)), (7, .at (.n 2 false true)), (8, .at (.n 3 false true))], [some [.many none (.n 4 false false)]], 1⟩)], false⟩,
 ⟨10241, 15, false, 1, ⟨2, [(0, .at (.osx 0 0 2))], [some [.many none (.n 1 false false)]], 1⟩, some [⟨3, [.osx 1 0 2], [some [.many none (.n 1 false false)], some [.many none (.n 2 false false)]]⟩], [], false⟩,
 ⟨10176, 11, false, 1, ⟨3, [(0, .at (.ptr 0 0))], [some [.one (.mpp 1), .one (.mpp 2), .one (.mpp 3)], some [.one (.mpc 0)], some [.one (.mpc 1)], some [.one (.mpc 2)]], 4⟩, some [⟨4, [.n 0 false true], [some [.one (.mpp 1), .one (.mpp 2), .one (.mpp 3)], some [.one (.mpc 1)], some [.one (.mpc 2)], some [.one (.mpc 3)]]⟩], [], false⟩,
 ⟨10192, 12, false, 2, ⟨4, [(0, .at (.ptr 0 0)), (1, .at (.n 0 false false))], [some [.one (.mpp 1), .one (.mpp 2), .one (.mpp 3)], some [.one (.mpc 1)], some [.one (.mpc 2)], some [.one (.mpc 3)]], 4⟩, some [⟨5, [.n 0 false true, .n 1 false false], [some [.one (.mpp 1), .one (.mpp 2), .one (.mpp 3)], some [.one (.mpc 2)], some [.one (.mpc 3)], some [.one (.mpc 4)]]⟩], [], false⟩,
 ⟨10224, 14, false, 2, ⟨4, [(0, .at (.ptr 0 0)), (1, .at (.n 0 false true))], [some [.one (.mpp 1), .one (.mpp 2), .one (.mpp 3)], some [.one (.mpc 1)], some [.one (.mpc 2)], some [.one (.mpc 3)]], 4⟩, some [⟨5, [.n 0 false false, .n 1 false false], [some [.one (.mpp 1), .one (.mpp 2), .one (.mpp 3)], some [.one (.mpc 2)], some [.one (.mpc 3)], some [.one (.mpc 4)]]⟩], [], false⟩,
 ⟨10256, 16, false, 2, ⟨3, [(0, .at (.osx 0 0 2)), (1, .at (.n 1 false true))], [some [.many none (.n 2 false false)]], 1⟩, some [⟨1, [], [some [.many none (.n 0 false false)]]⟩], [], false⟩,
 ⟨10384, 24, false, 4, ⟨8, [(0, .at (.ptr 0 0)), (1, .at (.n 0 false false)), (2, .at (.n 1 false false)), (3, .at (.n 2 false true))], [some [.one (.ptr 1 0), .one (.n 3 true true), .one (.n 4 false true)], some [.one (.mpp 2), .one (.mpp 3), .one (.mpp 4)], some [.one (.mpc 5)], some [.one (.mpc 6)], some [.one (.mpc 7)]], 5⟩, some [⟨6, [.n 0 false false], [some [.one (.ptr 1 0), .one (.n 1 true true), .one (.n 2 false true)], some [.one (.mpp 2), .one (.mpp 3), .one (.mpp 4)], some [.one (.mpc 3)], some [.one (.mpc 4)], some [.one (.mpc 5)]]⟩], [(26, ⟨10, [(0, .at (.ptr 0 0)), (1, .at (.n 0 false false)), (3, .at (.n 1 false true)), (29, .at (.n 2 false false)), (30, .at (.n 3 false true)), (31, .at (.n 4 false true))], [some [.one (.ptr 1 0), .one (.n 5 true true), .one (.n 6 false true)], some [.one (.mpp 2), .one (.mpp 3), .one (.mpp 4)], some [.one (.mpc 7)], some [.one (.mpc 8)], some [.one (.mpc 9)]], 5⟩)], false⟩,
 ⟨10449, 28, false, 3, ⟨4, [(0, .at (.osx 0 0 2)), (1, .at (.n 1 false true)), (2, .at (.n 2 false true))], [some [.many none (.n 3 false false)]], 1⟩, some [⟨1, [], [some [.many none (.n 0 false false)]]⟩], [(8, ⟨7, [(0, .at (.osx 0 0 2)), (1, .at (.n 1 false true)), (2, .at (.n 2 false true)), (6, .at (.n 3 false true)), (7, .at (.n 4 false true)), (8, .at (.n 5 false true))], [some [.many none (.n 6 false false)]], 1⟩), (24, ⟨5, [(0, .at (.osx 0 0 2)), (1, .at (.n 1 false true)), (2, .at (.n 2 false true)), (6, .at (.n 3 false true))], [some [.many none (.n 4 false false)]], 1⟩), (36, ⟨7, [(0, .at (.osx 0 0 2)), (1, .at (.n 1 false true)), (2, .at (.n 2 false true)), (6, .at (.n 3 false true)), (7, .at (.n 4 false true)), (8, .at (.n 5 false true))], [some [.many none (.n 6 false false)]], 1⟩)], false⟩,
 ⟨10208, 13, false, 2, ⟨4, [(0, .at (.ptr 0 0)), (1, .at (.n 0 false false))], [some [.one (.mpp 1), .one (.mpp 2), .one (.mpp 3)], some [.one (.mpc 1)], some [.one (.mpc 2)], some [.one (.mpc 3)]], 4⟩, some [⟨5, [.n 0 false false, .n 1 false false], [some [.one (.mpp 1), .one (.mpp 2), .one (.mpp 3)], some [.one (.mpc 2)], some [.one (.mpc 3)], some [.one (.mpc 4)]]⟩], [], false⟩,
 ⟨10721, 45, false, 4, ⟨5, [(0, .at (.osx 0 0 2)), (1, .at (.n 1 false true)), (2, .at (.n 2 false true)), (3, .at (.n 3 false true))], [some [.many none (.n 4 false false)]], 1⟩, some [⟨1, [], [some [.many none (.n 0 false false)]]⟩], [(5, ⟨6, [(0, .at (.osx 0 0 2)), (1, .at (.n 1 false true)), (2, .at (.n 2 false true)), (3, .at (.n 3 false true)), (8, .at (.n 4 false true))], [some [.many none (.n 5 false false)]], 1⟩), (17, ⟨7, [(0, .at (.osx 0 0 2)), (1, .at (.n 1 false true)), (2, .at (.n 2 false true)), (3, .at (.n 3 false true)), (8, .at (.n 4 false true)), (9, .at (.n 5 false true))], [some [.many none (.n 6 false false)]], 1⟩)], false⟩,
 ⟨10737, 46, false, 5, ⟨6, [(0, .at (.osx 0 0 2)), (1, .at (.n 1 false true)), (2, .at (.n 2 false true)), (3, .at (.n 3 false true)), (4, .at (.n 4 false true))], [some [.many none (.n 5 false false)]], 1⟩, some [⟨1, [], [some [.many none (.n 0 false false)]]⟩], [(12, ⟨6, [(0, .at (.osx 0 0 2)), (1, .at (.n 1 false true)), (4, .at (.n 2 false true)), (10, .at (.n 3 false true)), (11, .at (.n 4 false true))], [some [.many none (.n 5 false false)]], 1⟩), (31, ⟨4, [(0, .at (.osx 0 0 2)), (10, .at (.n 1 false true)), (13, .at (.n 2 false true))], [some [.many none (.n 3 false false)]], 1⟩), (54, ⟨6, [(0, .at (.osx 0 0 2)), (2, .at (.n 1 false true)), (4, .at (.n 2 false true)), (14, .at (.n 3 false true)), (15, .at (.n 4 false true))], [some [.many none (.n 5 false false)]], 1⟩), (73, ⟨4, [(0, .at (.osx 0 0 2)), (14, .at (.n 1 false true)), (17, .at (.n 2 false true))], [some [.many none (.n 3 false false)]], 1⟩), (102, ⟨10, [(0, .at (.osx 0 0 2)), (1, .at (.n 1 false true)), (2, .at (.n 2 false true)), (3, .at (.n 3 false true)), (4, .at (.n 4 false true)), (18, .at (.n 5 false true)), (19, .at (.n 6 false true)), (20, .at (.n 7 false true)), (21, .at (.n 8 false true))], [some [.many none (.n 9 false false)]], 1⟩), (106, ⟨11, [(0, .at (.osx 0 0 2)), (1, .at (.n 1 false true)), (2, .at (.n 2 false true)), (3, .at (.n 3 false true)), (4, .at (.n 4 false true)), (18, .at (.n 5 false true)), (19, .at (.n 6 false true)), (20, .at (.n 7 false true)), (21, .at (.n 8 false true)), (22, .at (.n 9 false true))], [some [.many none (.n 10 false false)]], 1⟩), (129, ⟨8, [(0, .at (.osx 0 0 2)), (1, .at (.n 1 false true)), (3, .at (.n 2 false true)), (4, .at (.n 3 false true)), (18, .at (.n 4 false true)), (20, .at (.n 5 false true)), (24, .at (.n 6 false true))], [some [.many none (.n 7 false false)]], 1⟩)], false⟩,
 ⟨10977, 61, false, 5, ⟨6, [(0, .at (.osx 0 0 2)), (1, .at (.n 1 false true)), (2, .at (.n 2 false true)), (3, .at (.n 3 false true)), (4, .at (.n 4 false true))], [some [.many none (.n 5 false false)]], 1⟩, some [⟨1, [], [some [.many none (.n 0 false false)]]⟩], [(8, ⟨6, [(0, .at (.osx 0 0 2)), (2, .at (.n 1 false true)), (4, .at (.n 2 false true)), (10, .at (.n 3 false true)), (11, .at (.n 4 false true))], [some [.many none (.n 5 false false)]], 1⟩)], false⟩,
 ⟨11153, 72, false, 5, ⟨6, [(0, .at (.osx 0 0 2)), (1, .at (.n 1 false true)), (2, .at (.n 2 false true)), (3, .at (.n 3 false true)), (4, .at (.n 4 false true))], [some [.many none (.n 5 false false)]], 1⟩, some [⟨1, [], [some [.many none (.n 0 false false)]]⟩], [(5, ⟨6, [(0, .at (.osx 0 0 2)), (1, .at (.n 1 false true)), (2, .at (.n 2 false true)), (3, .at (.n 3 false true)), (10, .at (.n 4 false true))], [some [.many none (.n 5 false false)]], 1⟩)], false⟩,
 ⟨10336, 21, false, 3, ⟨7, [(0, .at (.ptr 0 0)), (1, .at (.n 0 false false)), (2, .at (.osv 1 1 2 2))], [some [.one (.mpp 2), .one (.mpp 3), .one (.mpp 4)], some [.many none (.n 3 false false)], some [.one (.mpc 4)], some [.one (.mpc 5)], some [.one (.mpc 6)]], 5⟩, some [⟨6, [.n 0 false false, .n 1 false false], [some [.one (.mpp 2), .one (.mpp 3), .one (.mpp 4)], some [.many none (.n 2 false false)], some [.one (.mpc 3)], some [.one (.mpc 4)], some [.one (.mpc 5)]]⟩], [(8, ⟨9, [(0, .at (.ptr 0 0)), (1, .at (.n 0 false false)), (2, .at (.osv 1 1 2 2)), (6, .at (.ptr 5 0)), (8, .at (.n 3 true true))], [some [.one (.mpp 2), .one (.mpp 3), .one (.mpp 4)], some [.many none (.n 4 false false)], some [.one (.mpc 5)], some [.one (.mpc 6)], some [.one (.mpc 7)], some [.many (some 32) (.n 8 false false)]], 5⟩), (44, ⟨12, [(0, .at (.ptr 0 0)), (1, .at (.n 0 false false)), (2, .at (.osv 1 1 2 2)), (6, .at (.ptr 5 0)), (8, .at (.n 3 true true)), (11, .at (.n 4 false false)), (14, .at (.n 5 false false)), (15, .at (.n 6 false true))], [some [.one (.mpp 2), .one (.mpp 3), .one (.mpp 4)], some [.many none (.n 7 false false)], some [.one (.mpc 8)], some [.one (.mpc 9)], some [.one (.mpc 10)], some [.many (some 32) (.n 11 false false)]], 5⟩)], false⟩,
 ⟨10576, 36, false, 2, ⟨4, [(0, .at (.ptr 0 0)), (1, .at (.n 0 false false))], [some [.one (.mpp 1), .one (.mpp 2), .one (.mpp 3)], some [.one (.mpc 1)], some [.one (.mpc 2)], some [.one (.mpc 3)]], 4⟩, some [⟨5, [.n 0 false false, .n 1 false true], [some [.one (.mpp 1), .one (.mpp 2), .one (.mpp 3)], some [.one (.mpc 2)], some [.one (.mpc 3)], some [.one (.mpc 4)]]⟩], [], false⟩]
def tabs : List FE := Z7j ++ Z6b
def extO : Nat -> Bool := fun f => [31].any (Nat.beq f)
def tb0 : List V := [.int .u32 1116352408, .int .u32 1899447441, .int .u32 3049323471, .int .u32 3921009573, .int .u32 961987163, .int .u32 1508970993, .int .u32 2453635748, .int .u32 2870763221, .int .u32 3624381080, .int .u32 310598401, .int .u32 607225278, .int .u32 1426881987, .int .u32 1925078388, .int .u32 2162078206, .int .u32 2614888103, .int .u32 3248222580, .int .u32 3835390401, .int .u32 4022224774, .int .u32 264347078, .int .u32 604807628, .int .u32 770255983, .int .u32 1249150122, .int .u32 1555081692, .int .u32 1996064986, .int .u32 2554220882, .int .u32 2821834349, .int .u32 2952996808, .int .u32 3210313671, .int .u32 3336571891, .int .u32 3584528711, .int .u32 113926993, .int .u32 338241895, .int .u32 666307205, .int .u32 773529912, .int .u32 1294757372, .int .u32 1396182291, .int .u32 1695183700, .int .u32 1986661051, .int .u32 2177026350, .int .u32 2456956037, .int .u32 2730485921, .int .u32 2820302411, .int .u32 3259730800, .int .u32 3345764771, .int .u32 3516065817, .int .u32 3600352804, .int .u32 4094571909, .int .u32 275423344, .int .u32 430227734, .int .u32 506948616, .int .u32 659060556, .int .u32 883997877, .int .u32 958139571, .int .u32 1322822218, .int .u32 1537002063, .int .u32 1747873779, .int .u32 1955562222, .int .u32 2024104815, .int .u32 2227730452, .int .u32 2361852424, .int .u32 2428436474, .int .u32 2756734187, .int .u32 3204031479, .int .u32 3329325298]
def gls : Nat -> Option (List V) := fun g => match Nat.beq g 0 with | true => some tb0 | false => none
def rowA : FE := ⟨3, 3, false, 2, ⟨0, [], [], 0⟩, none, [(28, ⟨2, [(5, .at (.osx 0 0 2))], [some [.many none (.n 1 false false)]], 0⟩)], false⟩
def rowB : FE := ⟨3, 3, false, 2, ⟨0, [], [], 0⟩, none, [(28, ⟨1, [(5, .at (.n 0 true true))], [], 0⟩)], true⟩
def cfg : Cfg := Zqm (rowA :: tabs) extO gls
theorem keys : Zgx (rowA :: tabs) = true := by kernel_rfl
noncomputable abbrev vl (e : Nat -> List V -> Option V) : Gam := val Tryd.prog tabs e cfg
abbrev Ev := Nat -> List V -> Option V
noncomputable abbrev stp (e : Ev) (Γ : Gam) := Go.Abs.step Tryd.prog tabs e cfg Γ
noncomputable abbrev vlA (e : Nat -> List V -> Option V) : Gam := val Tryd.prog (rowA :: tabs) e cfg
noncomputable abbrev vlB (e : Nat -> List V -> Option V) : Gam := val Tryd.prog (rowB :: tabs) e cfg
end Go.Proofs.YtpmgdngjbdkdfaaDoor
namespace Go.Proofs.YtpmgdngjbdkdfaaDoor
open Go.Abs
noncomputable def y.zq23 (Γ : Gam) (v0 v1 : V) : Option V :=
 pr (.bin .eql .no) [v0, .str []] fun v2=>vif v2 (pr (.bin .neq .no) [v1, .str []] fun v3=>some (.tup [v1, v3])) (pr (.bin .add .no) [v0, .str [47]] fun v3=>ca Γ 35 [v1, v3] fun v4=>pr (.ext 0) [v4] fun v5=>pr (.ext 1) [v4] fun v6=>vif v6 (pr (.bin .neq .no) [v5, .str []] fun v7=>some (.tup [v5, v7])) (some (.tup [v5, .bool false])))
theorem s.zq23 (e : Ev) (Γ : Gam) (v0 v1 : V) : stp e Γ 20 0 [v0, v1] = y.zq23 Γ v0 v1 := by kernel_rfl
theorem w.zq23 (e : Ev) (v0 v1 : V) : vl e 20 0 [v0, v1] = y.zq23 (vl e) v0 v1 := Zac (s.zq23 e _ v0 v1)
noncomputable def y.zq48 (Γ : Gam) (v0 v1 : V) : Option V :=
 ca Γ 49 [v0, v1] fun v2=>pr (.bin .geq .no) [v2, .int .i64 0] fun v3=>some v3
theorem s.zq48 (e : Ev) (Γ : Gam) (v0 v1 : V) : stp e Γ 32 0 [v0, v1] = y.zq48 Γ v0 v1 := by kernel_rfl
theorem w.zq48 (e : Ev) (v0 v1 : V) : vl e 32 0 [v0, v1] = y.zq48 (vl e) v0 v1 := Zac (s.zq48 e _ v0 v1)
noncomputable def y.zq5 (Γ : Gam) (v0 : V) : Option V :=
 pr (.len true) [v0] fun v1=>pr (.bin .gtr .no) [v1, .int .i64 1048576] fun v2=>vif v2 (some (.tup [.sl false 1 [], .int .i64 3])) (ca Γ 57 [v0] fun v3=>pr (.ext 0) [v3] fun v4=>pr (.ext 1) [v3] fun v5=>pr (.un .not) [v5] fun v6=>vif v6 (Γ 40 17 [v0, v4, .bool true]) (pr (.bin .lss .no) [v4, .int .i64 0] fun v7=>vif v7 (Γ 40 17 [v0, v4, .bool true]) (pr (.len true) [v0] fun v8=>pr (.bin .quo .no) [v8, .int .i64 8] fun v9=>pr (.bin .gtr .no) [v4, v9] fun v10=>Γ 40 17 [v0, v4, v10])))
theorem s.zq5 (e : Ev) (Γ : Gam) (v0 : V) : stp e Γ 40 0 [v0] = y.zq5 Γ v0 := by kernel_rfl
theorem w.zq5 (e : Ev) (v0 : V) : vl e 40 0 [v0] = y.zq5 (vl e) v0 := Zac (s.zq5 e _ v0)
noncomputable def y.zq5_17 (Γ : Gam) (v0 v1 v2 : V) : Option V :=
 vif v2 (some (.tup [.sl false 1 [], .int .i64 4])) (pr (.mnx false) [v1, .int .i64 4096] fun v3=>pr (.mks 1) [.int .i64 0, v3] fun v4=>pr (.sls true false) [v0, .int .i64 8] fun v5=>Γ 40 30 [v4, v5, v1, .int .i64 0])
theorem s.zq5_17 (e : Ev) (Γ : Gam) (v0 v1 v2 : V) : stp e Γ 40 17 [v0, v1, v2] = y.zq5_17 Γ v0 v1 v2 := by kernel_rfl
theorem w.zq5_17 (e : Ev) (v0 v1 v2 : V) : vl e 40 17 [v0, v1, v2] = y.zq5_17 (vl e) v0 v1 v2 := Zac (s.zq5_17 e _ v0 v1 v2)
noncomputable def y.zq5_30 (Γ : Gam) (v0 v1 v2 v3 : V) : Option V :=
 pr (.bin .lss .no) [v3, v2] fun v4=>vif v4 (ca Γ 57 [v1] fun v5=>pr (.ext 0) [v5] fun v6=>pr (.ext 1) [v5] fun v7=>pr (.un .not) [v7] fun v8=>vif v8 (some (.tup [.sl false 1 [], .int .i64 4])) (pr (.bin .lss .no) [v6, .int .i64 0] fun v9=>vif v9 (some (.tup [.sl false 1 [], .int .i64 4])) (pr (.len true) [v1] fun v10=>pr (.bin .sub .no) [v10, .int .i64 8] fun v11=>pr (.bin .gtr .no) [v6, v11] fun v12=>vif v12 (some (.tup [.sl false 1 [], .int .i64 4])) (pr (.bin .add .no) [.int .i64 8, v6] fun v13=>pr (.sls true true) [v1, .int .i64 8, v13] fun v14=>pr (.bsl 1) [v14] fun v15=>pr (.app 1) [v0, v15] fun v16=>pr (.bin .add .no) [.int .i64 8, v6] fun v17=>pr (.sls true false) [v1, v17] fun v18=>pr (.bin .add .no) [v3, .int .i64 1] fun v19=>Γ 40 30 [v16, v18, v2, v19])))) (pr (.bin .neq .no) [v1, .str []] fun v5=>vif v5 (some (.tup [.sl false 1 [], .int .i64 4])) (some (.tup [v0, .int .i64 0])))
theorem s.zq5_30 (e : Ev) (Γ : Gam) (v0 v1 v2 v3 : V) : stp e Γ 40 30 [v0, v1, v2, v3] = y.zq5_30 Γ v0 v1 v2 v3 := by kernel_rfl
theorem w.zq5_30 (e : Ev) (v0 v1 v2 v3 : V) : vl e 40 30 [v0, v1, v2, v3] = y.zq5_30 (vl e) v0 v1 v2 v3 := Zac (s.zq5_30 e _ v0 v1 v2 v3)
noncomputable def y.zq43 (Γ : Gam) (v0 v1 : V) : Option V :=
 pr (.bsl 1) [v0] fun v2=>pr (.app 1) [v2, v1] fun v3=>ca Γ 43 [v3] fun v4=>ca Γ 60 [v4] fun v5=>pr (.cat [some 32]) [v5] fun v6=>some v6
theorem s.zq43 (e : Ev) (Γ : Gam) (v0 v1 : V) : stp e Γ 44 0 [v0, v1] = y.zq43 Γ v0 v1 := by kernel_rfl
theorem w.zq43 (e : Ev) (v0 v1 : V) : vl e 44 0 [v0, v1] = y.zq43 (vl e) v0 v1 := Zac (s.zq43 e _ v0 v1)
noncomputable def y.zq10 (Γ : Gam) (v0 : V) : Option V :=
 pr (.bsl 1) [v0] fun v1=>ca Γ 44 [.str [98, 108, 111, 98], v1] fun v2=>pr (.cat [some 32]) [v2] fun v3=>some v3
theorem s.zq10 (e : Ev) (Γ : Gam) (v0 : V) : stp e Γ 52 0 [v0] = y.zq10 Γ v0 := by kernel_rfl
theorem w.zq10 (e : Ev) (v0 : V) : vl e 52 0 [v0] = y.zq10 (vl e) v0 := Zac (s.zq10 e _ v0)
noncomputable def y.zq21 (Γ : Gam) (v0 : V) : Option V :=
 pr (.bin .eql .no) [v0, .str []] fun v1=>some v1
theorem s.zq21 (e : Ev) (Γ : Gam) (v0 : V) : stp e Γ 56 0 [v0] = y.zq21 Γ v0 := by kernel_rfl
theorem w.zq21 (e : Ev) (v0 : V) : vl e 56 0 [v0] = y.zq21 (vl e) v0 := Zac (s.zq21 e _ v0)
noncomputable def y.zq42 (Γ : Gam) (v0 : V) : Option V :=
 pr (.cat [none, none, none, none, none, none, none, none]) [.int .u32 1779033703, .int .u32 3144134277, .int .u32 1013904242, .int .u32 2773480762, .int .u32 1359893119, .int .u32 2600822924, .int .u32 528734635, .int .u32 1541459225] fun v1=>Γ 60 12 [v0, v0, (.agg (repl 32 (.int .u8 0))), v1, (.agg (repl 64 (.int .u8 0)))]
theorem s.zq42 (e : Ev) (Γ : Gam) (v0 : V) : stp e Γ 60 0 [v0] = y.zq42 Γ v0 := by kernel_rfl
theorem w.zq42 (e : Ev) (v0 : V) : vl e 60 0 [v0] = y.zq42 (vl e) v0 := Zac (s.zq42 e _ v0)
noncomputable def y.zq42_12 (Γ : Gam) (v0 v1 v2 v3 v4 : V) : Option V :=
 pr (.len true) [v1] fun v5=>pr (.bin .geq .no) [v5, .int .i64 64] fun v6=>vif v6 (pr (.cpya 0 64) [v4, v1] fun v7=>pr (.cpyn 64) [v1] fun v8=>ch Γ 11136 [v3, v7] fun v9=>pr (.ext 0) [v9] fun v10=>pr (.ext 1) [v9] fun v11=>pr (.sls true false) [v1, .int .i64 64] fun v12=>Γ 60 12 [v0, v12, v2, v10, v11]) (pr (.clra (.int .u8 0) 0 64) [v4] fun v7=>pr (.cpya 0 64) [v7, v1] fun v8=>pr (.cpyn 64) [v1] fun v9=>pr (.len true) [v1] fun v10=>pr (.chk 64) [v10] fun v11=>pr (.std 1 0 1) [v8, v11, .int .u8 128] fun v12=>pr (.len true) [v1] fun v13=>pr (.bin .geq .no) [v13, .int .i64 56] fun v14=>vif v14 (ch Γ 11136 [v3, v12] fun v15=>pr (.ext 0) [v15] fun v16=>pr (.ext 1) [v15] fun v17=>pr (.clra (.int .u8 0) 0 64) [v17] fun v18=>Γ 60 39 [v0, v2, v16, v18]) (Γ 60 39 [v0, v2, v3, v12]))
theorem s.zq42_12 (e : Ev) (Γ : Gam) (v0 v1 v2 v3 v4 : V) : stp e Γ 60 12 [v0, v1, v2, v3, v4] = y.zq42_12 Γ v0 v1 v2 v3 v4 := by kernel_rfl
theorem w.zq42_12 (e : Ev) (v0 v1 v2 v3 v4 : V) : vl e 60 12 [v0, v1, v2, v3, v4] = y.zq42_12 (vl e) v0 v1 v2 v3 v4 := Zac (s.zq42_12 e _ v0 v1 v2 v3 v4)
noncomputable def y.zq42_39 (Γ : Gam) (v0 v1 v2 v3 : V) : Option V :=
 Γ 60 43 [v0, .int .i64 0, v1, v2, v3]
theorem s.zq42_39 (e : Ev) (Γ : Gam) (v0 v1 v2 v3 : V) : stp e Γ 60 39 [v0, v1, v2, v3] = y.zq42_39 Γ v0 v1 v2 v3 := by kernel_rfl
theorem w.zq42_39 (e : Ev) (v0 v1 v2 v3 : V) : vl e 60 39 [v0, v1, v2, v3] = y.zq42_39 (vl e) v0 v1 v2 v3 := Zac (s.zq42_39 e _ v0 v1 v2 v3)
noncomputable def y.zq42_43 (Γ : Gam) (v0 v1 v2 v3 v4 : V) : Option V :=
 pr (.bin .lss .no) [v1, .int .i64 8] fun v5=>vif v5 (pr (.bin .add .no) [.int .i64 56, v1] fun v6=>pr (.len true) [v0] fun v7=>pr (.i2i .u64) [v7] fun v8=>pr (.bin .shl .no) [v8, .int .u64 3] fun v9=>pr (.bin .mul .no) [.int .i64 8, v1] fun v10=>pr (.bin .sub .no) [.int .i64 56, v10] fun v11=>pr (.bin .shr .no) [v9, v11] fun v12=>pr (.i2i .u8) [v12] fun v13=>pr (.chk 64) [v6] fun v14=>pr (.std 1 0 1) [v4, v14, v13] fun v15=>pr (.bin .add .no) [v1, .int .i64 1] fun v16=>Γ 60 43 [v0, v16, v2, v3, v15]) (ch Γ 11136 [v3, v4] fun v6=>pr (.ext 0) [v6] fun v7=>pr (.ext 1) [v6] fun v8=>Γ 60 64 [.int .i64 0, v2, v7, (.agg (repl 32 (.int .u8 0)))])
theorem s.zq42_43 (e : Ev) (Γ : Gam) (v0 v1 v2 v3 v4 : V) : stp e Γ 60 43 [v0, v1, v2, v3, v4] = y.zq42_43 Γ v0 v1 v2 v3 v4 := by kernel_rfl
theorem w.zq42_43 (e : Ev) (v0 v1 v2 v3 v4 : V) : vl e 60 43 [v0, v1, v2, v3, v4] = y.zq42_43 (vl e) v0 v1 v2 v3 v4 := Zac (s.zq42_43 e _ v0 v1 v2 v3 v4)
noncomputable def y.zq42_64 (Γ : Gam) (v0 v1 v2 v3 : V) : Option V :=
 pr (.bin .lss .no) [v0, .int .i64 32] fun v4=>vif v4 (pr (.bin .quo .no) [v0, .int .i64 4] fun v5=>pr (.chk 8) [v5] fun v6=>pr (.ldd none 0 1) [v2, v6] fun v7=>pr (.bin .rem .no) [v0, .int .i64 4] fun v8=>pr (.bin .mul .no) [.int .i64 8, v8] fun v9=>pr (.bin .sub .no) [.int .i64 24, v9] fun v10=>pr (.bin .shr .no) [v7, v10] fun v11=>pr (.i2i .u8) [v11] fun v12=>pr (.chk 32) [v0] fun v13=>pr (.std 1 0 1) [v3, v13, v12] fun v14=>pr (.bin .add .no) [v0, .int .i64 1] fun v15=>Γ 60 64 [v15, v1, v2, v14]) (pr (.cat [some 32]) [v3] fun v5=>some v5)
theorem s.zq42_64 (e : Ev) (Γ : Gam) (v0 v1 v2 v3 : V) : stp e Γ 60 64 [v0, v1, v2, v3] = y.zq42_64 Γ v0 v1 v2 v3 := by kernel_rfl
theorem w.zq42_64 (e : Ev) (v0 v1 v2 v3 : V) : vl e 60 64 [v0, v1, v2, v3] = y.zq42_64 (vl e) v0 v1 v2 v3 := Zac (s.zq42_64 e _ v0 v1 v2 v3)
noncomputable def y.zq44 (Γ : Gam) (v0 : V) : Option V :=
 pr (.elem 1) [v0, .int .i64 0] fun v1=>pr (.ld none 0) [v1] fun v2=>pr (.i2i .u32) [v2] fun v3=>pr (.bin .shl .no) [v3, .int .u64 24] fun v4=>pr (.elem 1) [v0, .int .i64 1] fun v5=>pr (.ld none 0) [v5] fun v6=>pr (.i2i .u32) [v6] fun v7=>pr (.bin .shl .no) [v7, .int .u64 16] fun v8=>pr (.bin .or .no) [v4, v8] fun v9=>pr (.elem 1) [v0, .int .i64 2] fun v10=>pr (.ld none 0) [v10] fun v11=>pr (.i2i .u32) [v11] fun v12=>pr (.bin .shl .no) [v12, .int .u64 8] fun v13=>pr (.bin .or .no) [v9, v13] fun v14=>pr (.elem 1) [v0, .int .i64 3] fun v15=>pr (.ld none 0) [v15] fun v16=>pr (.i2i .u32) [v16] fun v17=>pr (.bin .or .no) [v14, v17] fun v18=>some v18
theorem s.zq44 (e : Ev) (Γ : Gam) (v0 : V) : stp e Γ 80 0 [v0] = y.zq44 Γ v0 := by kernel_rfl
theorem w.zq44 (e : Ev) (v0 : V) : vl e 80 0 [v0] = y.zq44 (vl e) v0 := Zac (s.zq44 e _ v0)
noncomputable def y.zq27 (Γ : Gam) (v0 v1 : V) : Option V :=
 pr .scs [v0] fun v2=>pr .scs [v1] fun v3=>pr (.ld none 0) [v2] fun v4=>pr (.ld none 0) [v3] fun v5=>ca Γ 18 [v4, v5] fun v6=>some v6
theorem s.zq27 (e : Ev) (Γ : Gam) (v0 v1 : V) : stp e Γ 17 0 [v0, v1] = y.zq27 Γ v0 v1 := by kernel_rfl
theorem w.zq27 (e : Ev) (v0 v1 : V) : vl e 17 0 [v0, v1] = y.zq27 (vl e) v0 v1 := Zac (s.zq27 e _ v0 v1)
noncomputable def y.zq11 (Γ : Gam) (v0 : V) : Option V :=
 ca Γ 40 [v0] fun v1=>pr (.ext 0) [v1] fun v2=>pr (.ext 1) [v1] fun v3=>pr (.bin .neq .no) [v3, .int .i64 0] fun v4=>vif v4 (Γ 25 9 [v2, .bool true]) (pr (.len false) [v2] fun v5=>pr (.bin .rem .no) [v5, .int .i64 3] fun v6=>pr (.bin .neq .no) [v6, .int .i64 0] fun v7=>Γ 25 9 [v2, v7])
theorem s.zq11 (e : Ev) (Γ : Gam) (v0 : V) : stp e Γ 25 0 [v0] = y.zq11 Γ v0 := by kernel_rfl
theorem w.zq11 (e : Ev) (v0 : V) : vl e 25 0 [v0] = y.zq11 (vl e) v0 := Zac (s.zq11 e _ v0)
noncomputable def y.zq11_9 (Γ : Gam) (v0 v1 : V) : Option V :=
 vif v1 (some (.tup [.sl false 34 [], .int .i64 4])) (Γ 25 18 [v0, .sl false 34 []])
theorem s.zq11_9 (e : Ev) (Γ : Gam) (v0 v1 : V) : stp e Γ 25 9 [v0, v1] = y.zq11_9 Γ v0 v1 := by kernel_rfl
theorem w.zq11_9 (e : Ev) (v0 v1 : V) : vl e 25 9 [v0, v1] = y.zq11_9 (vl e) v0 v1 := Zac (s.zq11_9 e _ v0 v1)
noncomputable def y.zq11_18 (Γ : Gam) (v0 v1 : V) : Option V :=
 pr (.len false) [v0] fun v2=>pr (.bin .gtr .no) [v2, .int .i64 0] fun v3=>vif v3 (pr (.elem 1) [v0, .int .i64 2] fun v4=>pr (.ld none 0) [v4] fun v5=>ca Γ 41 [v5] fun v6=>pr (.ext 0) [v6] fun v7=>pr (.ext 1) [v6] fun v8=>pr (.cat [some 32]) [v7] fun v9=>pr (.un .not) [v8] fun v10=>vif v10 (some (.tup [.sl false 34 [], .int .i64 4])) (pr (.elem 1) [v0, .int .i64 0] fun v11=>pr (.ld none 0) [v11] fun v12=>pr (.bin .neq .no) [v12, .str [98, 108, 111, 98]] fun v13=>vif v13 (pr (.elem 1) [v0, .int .i64 0] fun v14=>pr (.ld none 0) [v14] fun v15=>pr (.bin .neq .no) [v15, .str [116, 114, 101, 101]] fun v16=>vif v16 (some (.tup [.sl false 34 [], .int .i64 4])) (pr (.elem 1) [v0, .int .i64 1] fun v17=>pr (.ld none 0) [v17] fun v18=>pr (.elem 1) [v0, .int .i64 0] fun v19=>pr (.ld none 0) [v19] fun v20=>pr (.bin .eql .no) [v20, .str [116, 114, 101, 101]] fun v21=>pr (.cat [none, none, some 32]) [v18, v21, v9] fun v22=>pr (.bsl 34) [v22] fun v23=>pr (.app 34) [v1, v23] fun v24=>pr (.slc 1 true false false) [v0, .int .i64 3] fun v25=>Γ 25 18 [v25, v24])) (pr (.elem 1) [v0, .int .i64 1] fun v14=>pr (.ld none 0) [v14] fun v15=>pr (.elem 1) [v0, .int .i64 0] fun v16=>pr (.ld none 0) [v16] fun v17=>pr (.bin .eql .no) [v17, .str [116, 114, 101, 101]] fun v18=>pr (.cat [none, none, some 32]) [v15, v18, v9] fun v19=>pr (.bsl 34) [v19] fun v20=>pr (.app 34) [v1, v20] fun v21=>pr (.slc 1 true false false) [v0, .int .i64 3] fun v22=>Γ 25 18 [v22, v21]))) (ca Γ 42 [v1] fun v4=>pr (.un .not) [v4] fun v5=>vif v5 (some (.tup [.sl false 34 [], .int .i64 4])) (some (.tup [v1, .int .i64 0])))
theorem s.zq11_18 (e : Ev) (Γ : Gam) (v0 v1 : V) : stp e Γ 25 18 [v0, v1] = y.zq11_18 Γ v0 v1 := by kernel_rfl
theorem w.zq11_18 (e : Ev) (v0 v1 : V) : vl e 25 18 [v0, v1] = y.zq11_18 (vl e) v0 v1 := Zac (s.zq11_18 e _ v0 v1)
noncomputable def y.zq47 (Γ : Gam) (v0 v1 : V) : Option V :=
 pr (.len false) [v0] fun v2=>Γ 29 8 [v0, v1, v0, v2, .int .i64 0]
theorem s.zq47 (e : Ev) (Γ : Gam) (v0 v1 : V) : stp e Γ 29 0 [v0, v1] = y.zq47 Γ v0 v1 := by kernel_rfl
theorem w.zq47 (e : Ev) (v0 v1 : V) : vl e 29 0 [v0, v1] = y.zq47 (vl e) v0 v1 := Zac (s.zq47 e _ v0 v1)
noncomputable def y.zq47_8 (Γ : Gam) (v0 v1 v2 v3 v4 : V) : Option V :=
 pr (.bin .lss .no) [v4, v3] fun v5=>vif v5 (pr (.elem 1) [v2, v4] fun v6=>pr (.ld none 0) [v6] fun v7=>pr (.len false) [v1] fun v8=>pr (.bin .geq .no) [v4, v8] fun v9=>vif v9 (some (.int .i64 1)) (pr (.elem 1) [v1, v4] fun v10=>pr (.ld none 0) [v10] fun v11=>ca Γ 47 [v7, v11] fun v12=>pr (.bin .neq .no) [v12, .int .i64 0] fun v13=>vif v13 (some v12) (pr (.bin .add .no) [v4, .int .i64 1] fun v14=>Γ 29 8 [v0, v1, v2, v3, v14]))) (pr (.len false) [v0] fun v6=>pr (.len false) [v1] fun v7=>pr (.bin .lss .no) [v6, v7] fun v8=>vif v8 (some (.int .i64 (-1))) (some (.int .i64 0)))
theorem s.zq47_8 (e : Ev) (Γ : Gam) (v0 v1 v2 v3 v4 : V) : stp e Γ 29 8 [v0, v1, v2, v3, v4] = y.zq47_8 Γ v0 v1 v2 v3 v4 := by kernel_rfl
theorem w.zq47_8 (e : Ev) (v0 v1 v2 v3 v4 : V) : vl e 29 8 [v0, v1, v2, v3, v4] = y.zq47_8 (vl e) v0 v1 v2 v3 v4 := Zac (s.zq47_8 e _ v0 v1 v2 v3 v4)
noncomputable def y.zq19 (Γ : Gam) (v0 : V) : Option V :=
 ca Γ 34 [v0] fun v1=>pr (.un .not) [v1] fun v2=>some v2
theorem s.zq19 (e : Ev) (Γ : Gam) (v0 : V) : stp e Γ 33 0 [v0] = y.zq19 Γ v0 := by kernel_rfl
theorem w.zq19 (e : Ev) (v0 : V) : vl e 33 0 [v0] = y.zq19 (vl e) v0 := Zac (s.zq19 e _ v0)
noncomputable def y.zq20 (Γ : Gam) (v0 : V) : Option V :=
 ch Γ 10880 [v0] fun v1=>pr (.ext 0) [v1] fun v2=>pr (.ext 1) [v1] fun v3=>ch Γ 10864 [v2, .fn 56 [], v3] fun v4=>pr (.ext 0) [v4] fun v5=>pr (.ext 1) [v4] fun v6=>pr .snapx [v6, v5] fun v7=>ca Γ 53 [v7, .str [47]] fun v8=>pr .flr [v8] fun v9=>some v9
theorem s.zq20 (e : Ev) (Γ : Gam) (v0 : V) : stp e Γ 37 0 [v0] = y.zq20 Γ v0 := by kernel_rfl
theorem w.zq20 (e : Ev) (v0 : V) : vl e 37 0 [v0] = y.zq20 (vl e) v0 := Zac (s.zq20 e _ v0)
noncomputable def y.zq50 (Γ : Gam) (v0 v1 : V) : Option V :=
 pr (.len false) [v0] fun v2=>Γ 49 8 [v0, v1, v2, .int .i64 0]
theorem s.zq50 (e : Ev) (Γ : Gam) (v0 v1 : V) : stp e Γ 49 0 [v0, v1] = y.zq50 Γ v0 v1 := by kernel_rfl
theorem w.zq50 (e : Ev) (v0 v1 : V) : vl e 49 0 [v0, v1] = y.zq50 (vl e) v0 v1 := Zac (s.zq50 e _ v0 v1)
noncomputable def y.zq50_8 (Γ : Gam) (v0 v1 v2 v3 : V) : Option V :=
 pr (.bin .lss .no) [v3, v2] fun v4=>vif v4 (pr (.elem 1) [v0, v3] fun v5=>pr (.ld none 0) [v5] fun v6=>cv Γ v1 [v6] fun v7=>vif v7 (some v3) (pr (.bin .add .no) [v3, .int .i64 1] fun v8=>Γ 49 8 [v0, v1, v2, v8])) (some (.int .i64 (-1)))
theorem s.zq50_8 (e : Ev) (Γ : Gam) (v0 v1 v2 v3 : V) : stp e Γ 49 8 [v0, v1, v2, v3] = y.zq50_8 Γ v0 v1 v2 v3 := by kernel_rfl
theorem w.zq50_8 (e : Ev) (v0 v1 v2 v3 : V) : vl e 49 8 [v0, v1, v2, v3] = y.zq50_8 (vl e) v0 v1 v2 v3 := Zac (s.zq50_8 e _ v0 v1 v2 v3)
noncomputable def y.zq4 (Γ : Gam) (v0 : V) : Option V :=
 pr (.len true) [v0] fun v1=>pr (.bin .lss .no) [v1, .int .i64 8] fun v2=>vif v2 (some (.tup [.int .i64 0, .bool false])) (Γ 57 18 [v0, .int .u64 0, .int .i64 0])
theorem s.zq4 (e : Ev) (Γ : Gam) (v0 : V) : stp e Γ 57 0 [v0] = y.zq4 Γ v0 := by kernel_rfl
theorem w.zq4 (e : Ev) (v0 : V) : vl e 57 0 [v0] = y.zq4 (vl e) v0 := Zac (s.zq4 e _ v0)
noncomputable def y.zq4_18 (Γ : Gam) (v0 v1 v2 : V) : Option V :=
 pr (.bin .lss .no) [v2, .int .i64 8] fun v3=>vif v3 (pr (.bin .shl .no) [v1, .int .u64 8] fun v4=>pr .idx [v0, v2] fun v5=>pr (.i2i .u64) [v5] fun v6=>pr (.bin .or .no) [v4, v6] fun v7=>pr (.bin .add .no) [v2, .int .i64 1] fun v8=>Γ 57 18 [v0, v7, v8]) (pr (.i2i .i64) [v1] fun v4=>some (.tup [v4, .bool true]))
theorem s.zq4_18 (e : Ev) (Γ : Gam) (v0 v1 v2 : V) : stp e Γ 57 18 [v0, v1, v2] = y.zq4_18 Γ v0 v1 v2 := by kernel_rfl
theorem w.zq4_18 (e : Ev) (v0 v1 v2 : V) : vl e 57 18 [v0, v1, v2] = y.zq4_18 (vl e) v0 v1 v2 := Zac (s.zq4_18 e _ v0 v1 v2)
noncomputable def y.zq9 (Γ : Gam) (v0 v1 : V) : Option V :=
 pr (.i2i .u64) [v1] fun v2=>pr (.bin .and .no) [v2, .int .u64 31] fun v3=>pr (.bin .shl .no) [v0, v3] fun v4=>pr (.bin .sub .no) [.int .u64 32, v3] fun v5=>pr (.bin .shr .no) [v0, v5] fun v6=>pr (.bin .or .no) [v4, v6] fun v7=>some v7
theorem s.zq9 (e : Ev) (Γ : Gam) (v0 v1 : V) : stp e Γ 81 0 [v0, v1] = y.zq9 Γ v0 v1 := by kernel_rfl
theorem w.zq9 (e : Ev) (v0 v1 : V) : vl e 81 0 [v0, v1] = y.zq9 (vl e) v0 v1 := Zac (s.zq9 e _ v0 v1)
noncomputable def y.zq35 (Γ : Gam) : Option V :=
 ch Γ 10128 [] fun v0=>pr (.ext 0) [v0] fun v1=>pr (.ext 1) [v0] fun v2=>pr (.ext 2) [v0] fun v3=>ch Γ 10144 [.sl false 2 [], v1, v2, v3] fun v4=>pr (.ext 0) [v4] fun v5=>pr (.ext 1) [v4] fun v6=>pr (.ext 2) [v4] fun v7=>pr (.ext 3) [v4] fun v8=>pr (.ext 4) [v4] fun v9=>pr (.cat [some 32]) [v5] fun v10=>ch Γ 10224 [.sl false 34 [], v7, v8, v9] fun v11=>pr (.ext 0) [v11] fun v12=>pr (.ext 1) [v11] fun v13=>pr (.ext 2) [v11] fun v14=>pr (.ext 3) [v11] fun v15=>pr (.ext 4) [v11] fun v16=>pr (.cat [some 32]) [v12] fun v17=>ch Γ 10192 [v10, v14, v15, v16] fun v18=>pr (.ext 0) [v18] fun v19=>pr (.ext 1) [v18] fun v20=>pr (.ext 2) [v18] fun v21=>pr (.ext 3) [v18] fun v22=>pr (.ext 4) [v18] fun v23=>pr (.bin .eql .no) [v6, .int .i64 0] fun v24=>vif v24 (pr (.bin .eql .no) [v13, .int .i64 0] fun v25=>vif v25 (pr (.bin .eql .no) [v20, .int .i64 0] fun v26=>vif v26 (pr (.bin .eql (.flat [(some .u8, true), (some .u8, true), (some .u8, true), (some .u8, true), (some .u8, true), (some .u8, true), (some .u8, true), (some .u8, true), (some .u8, true), (some .u8, true), (some .u8, true), (some .u8, true), (some .u8, true), (some .u8, true), (some .u8, true), (some .u8, true), (some .u8, true), (some .u8, true), (some .u8, true), (some .u8, true), (some .u8, true), (some .u8, true), (some .u8, true), (some .u8, true), (some .u8, true), (some .u8, true), (some .u8, true), (some .u8, true), (some .u8, true), (some .u8, true), (some .u8, true), (some .u8, true)])) [v10, v17] fun v27=>vif v27 (pr (.len false) [v19] fun v28=>pr (.bin .eql .no) [v28, .int .i64 0] fun v29=>vif v29 (ch Γ 10176 [v21, v22, v23] fun v30=>pr (.ext 0) [v30] fun v31=>pr (.ext 1) [v30] fun v32=>pr (.ext 2) [v30] fun v33=>pr (.ext 3) [v30] fun v34=>pr (.bin .eql .no) [v31, .int .i64 1] fun v35=>some v35) (some (.bool false))) (some (.bool false))) (some (.bool false))) (some (.bool false))) (some (.bool false))
theorem s.zq35 (e : Ev) (Γ : Gam) : stp e Γ 6 0 [] = y.zq35 Γ := by kernel_rfl
theorem w.zq35 (e : Ev) : vl e 6 0 [] = y.zq35 (vl e) := Zac (s.zq35 e _)
noncomputable def y.zq41 (Γ : Gam) (v0 : V) : Option V :=
 pr (.len false) [v0] fun v1=>pr (.bin .gtr .no) [v1, .int .i64 512] fun v2=>vif v2 (some (.int .i64 3)) (pr (.len false) [v0] fun v3=>Γ 10 16 [v0, v0, v3, .int .i64 0])
theorem s.zq41 (e : Ev) (Γ : Gam) (v0 : V) : stp e Γ 10 0 [v0] = y.zq41 Γ v0 := by kernel_rfl
theorem w.zq41 (e : Ev) (v0 : V) : vl e 10 0 [v0] = y.zq41 (vl e) v0 := Zac (s.zq41 e _ v0)
noncomputable def y.zq41_16 (Γ : Gam) (v0 v1 v2 v3 : V) : Option V :=
 pr (.bin .lss .no) [v3, v2] fun v4=>vif v4 (pr (.elem 2) [v1, v3] fun v5=>pr (.ld (some 2) 0) [v5] fun v6=>pr (.cat [some 2]) [v6] fun v7=>pr (.ld none 0) [v7] fun v8=>ca Γ 22 [v8] fun v9=>pr (.un .not) [v9] fun v10=>vif v10 (some (.int .i64 1)) (pr (.len false) [v0] fun v11=>Γ 10 38 [v0, v3, v1, v2, v3, v0, v11, .int .i64 0, v7])) (pr (.len false) [v0] fun v5=>Γ 10 64 [v0, v5, .int .i64 0])
theorem s.zq41_16 (e : Ev) (Γ : Gam) (v0 v1 v2 v3 : V) : stp e Γ 10 16 [v0, v1, v2, v3] = y.zq41_16 Γ v0 v1 v2 v3 := by kernel_rfl
theorem w.zq41_16 (e : Ev) (v0 v1 v2 v3 : V) : vl e 10 16 [v0, v1, v2, v3] = y.zq41_16 (vl e) v0 v1 v2 v3 := Zac (s.zq41_16 e _ v0 v1 v2 v3)
noncomputable def y.zq41_38 (Γ : Gam) (v0 v1 v2 v3 v4 v5 v6 v7 v8 : V) : Option V :=
 pr (.bin .lss .no) [v7, v6] fun v9=>vif v9 (pr (.elem 2) [v5, v7] fun v10=>pr (.ld (some 2) 0) [v10] fun v11=>pr (.cat [some 2]) [v11] fun v12=>pr (.ld none 0) [v12] fun v13=>pr (.ld none 0) [v8] fun v14=>ca Γ 23 [v13, v14] fun v15=>pr (.ext 0) [v15] fun v16=>pr (.ext 1) [v15] fun v17=>pr (.bin .neq .no) [v7, v1] fun v18=>vif v18 (vif v17 (some (.int .i64 1)) (pr (.ld none 0) [v12] fun v19=>pr (.ld none 0) [v8] fun v20=>pr (.bin .eql .no) [v19, v20] fun v21=>vif v21 (some (.int .i64 1)) (pr (.bin .add .no) [v7, .int .i64 1] fun v22=>Γ 10 38 [v0, v1, v2, v3, v4, v5, v6, v22, v8]))) (pr (.bin .add .no) [v7, .int .i64 1] fun v19=>Γ 10 38 [v0, v1, v2, v3, v4, v5, v6, v19, v8])) (pr (.bin .add .no) [v4, .int .i64 1] fun v10=>Γ 10 16 [v0, v2, v3, v10])
theorem s.zq41_38 (e : Ev) (Γ : Gam) (v0 v1 v2 v3 v4 v5 v6 v7 v8 : V) : stp e Γ 10 38 [v0, v1, v2, v3, v4, v5, v6, v7, v8] = y.zq41_38 Γ v0 v1 v2 v3 v4 v5 v6 v7 v8 := by kernel_rfl
theorem w.zq41_38 (e : Ev) (v0 v1 v2 v3 v4 v5 v6 v7 v8 : V) : vl e 10 38 [v0, v1, v2, v3, v4, v5, v6, v7, v8] = y.zq41_38 (vl e) v0 v1 v2 v3 v4 v5 v6 v7 v8 := Zac (s.zq41_38 e _ v0 v1 v2 v3 v4 v5 v6 v7 v8)
noncomputable def y.zq41_64 (Γ : Gam) (v0 v1 v2 : V) : Option V :=
 pr (.bin .lss .no) [v2, v1] fun v3=>vif v3 (pr (.elem 2) [v0, v2] fun v4=>pr (.ld (some 2) 0) [v4] fun v5=>pr (.cat [some 2]) [v5] fun v6=>pr (.ld none 1) [v6] fun v7=>pr (.len true) [v7] fun v8=>pr (.bin .gtr .no) [v8, .int .i64 32768] fun v9=>vif v9 (some (.int .i64 3)) (pr (.bin .add .no) [v2, .int .i64 1] fun v10=>Γ 10 64 [v0, v1, v10])) (some (.int .i64 0))
theorem s.zq41_64 (e : Ev) (Γ : Gam) (v0 v1 v2 : V) : stp e Γ 10 64 [v0, v1, v2] = y.zq41_64 Γ v0 v1 v2 := by kernel_rfl
theorem w.zq41_64 (e : Ev) (v0 v1 v2 : V) : vl e 10 64 [v0, v1, v2] = y.zq41_64 (vl e) v0 v1 v2 := Zac (s.zq41_64 e _ v0 v1 v2)
noncomputable def y.zq16 (Γ : Gam) (v0 v1 : V) : Option V :=
 ca Γ 30 [v0] fun v2=>ca Γ 30 [v1] fun v3=>ca Γ 29 [v2, v3] fun v4=>some v4
theorem s.zq16 (e : Ev) (Γ : Gam) (v0 v1 : V) : stp e Γ 18 0 [v0, v1] = y.zq16 Γ v0 v1 := by kernel_rfl
theorem w.zq16 (e : Ev) (v0 v1 : V) : vl e 18 0 [v0, v1] = y.zq16 (vl e) v0 v1 := Zac (s.zq16 e _ v0 v1)
noncomputable def y.zq36 (Γ : Gam) (v0 : V) : Option V :=
 ca Γ 38 [v0] fun v1=>pr (.len false) [v1] fun v2=>Γ 22 10 [v0, v1, v1, v2, .int .i64 0]
theorem s.zq36 (e : Ev) (Γ : Gam) (v0 : V) : stp e Γ 22 0 [v0] = y.zq36 Γ v0 := by kernel_rfl
theorem w.zq36 (e : Ev) (v0 : V) : vl e 22 0 [v0] = y.zq36 (vl e) v0 := Zac (s.zq36 e _ v0)
noncomputable def y.zq36_10 (Γ : Gam) (v0 v1 v2 v3 v4 : V) : Option V :=
 pr (.bin .lss .no) [v4, v3] fun v5=>vif v5 (pr (.elem 1) [v2, v4] fun v6=>pr (.ld none 0) [v6] fun v7=>ca Γ 39 [v7] fun v8=>pr (.un .not) [v8] fun v9=>vif v9 (some (.bool false)) (pr (.bin .add .no) [v4, .int .i64 1] fun v10=>Γ 22 10 [v0, v1, v2, v3, v10])) (pr (.len true) [v0] fun v6=>pr (.bin .leq .no) [v6, .int .i64 128] fun v7=>vif v7 (pr (.len false) [v1] fun v8=>pr (.bin .leq .no) [v8, .int .i64 16] fun v9=>some v9) (some (.bool false)))
theorem s.zq36_10 (e : Ev) (Γ : Gam) (v0 v1 v2 v3 v4 : V) : stp e Γ 22 10 [v0, v1, v2, v3, v4] = y.zq36_10 Γ v0 v1 v2 v3 v4 := by kernel_rfl
theorem w.zq36_10 (e : Ev) (v0 v1 v2 v3 v4 : V) : vl e 22 10 [v0, v1, v2, v3, v4] = y.zq36_10 (vl e) v0 v1 v2 v3 v4 := Zac (s.zq36_10 e _ v0 v1 v2 v3 v4)
noncomputable def y.zq13 (Γ : Gam) (v0 : V) : Option V :=
 ca Γ 42 [v0] fun v1=>pr (.un .not) [v1] fun v2=>vif v2 (some (.tup [.str [], .int .i64 1])) (pr (.len false) [v0] fun v3=>Γ 26 18 [.sl false 1 [], v0, v3, .int .i64 0])
theorem s.zq13 (e : Ev) (Γ : Gam) (v0 : V) : stp e Γ 26 0 [v0] = y.zq13 Γ v0 := by kernel_rfl
theorem w.zq13 (e : Ev) (v0 : V) : vl e 26 0 [v0] = y.zq13 (vl e) v0 := Zac (s.zq13 e _ v0)
noncomputable def y.zq13_18 (Γ : Gam) (v0 v1 v2 v3 : V) : Option V :=
 pr (.bin .lss .no) [v3, v2] fun v4=>vif v4 (pr (.elem 34) [v1, v3] fun v5=>pr (.ld (some 34) 0) [v5] fun v6=>pr (.cat [some 34]) [v6] fun v7=>pr (.ld none 1) [v7] fun v8=>vif v8 (pr (.ld none 0) [v7] fun v9=>pr (.b2so 2 32) [v7] fun v10=>pr (.bsl 1) [.str [116, 114, 101, 101], v9, v10] fun v11=>pr (.app 1) [v0, v11] fun v12=>pr (.bin .add .no) [v3, .int .i64 1] fun v13=>Γ 26 18 [v12, v1, v2, v13]) (pr (.ld none 0) [v7] fun v9=>pr (.b2so 2 32) [v7] fun v10=>pr (.bsl 1) [.str [98, 108, 111, 98], v9, v10] fun v11=>pr (.app 1) [v0, v11] fun v12=>pr (.bin .add .no) [v3, .int .i64 1] fun v13=>Γ 26 18 [v12, v1, v2, v13])) (ca Γ 43 [v0] fun v5=>some (.tup [v5, .int .i64 0]))
theorem s.zq13_18 (e : Ev) (Γ : Gam) (v0 v1 v2 v3 : V) : stp e Γ 26 18 [v0, v1, v2, v3] = y.zq13_18 Γ v0 v1 v2 v3 := by kernel_rfl
theorem w.zq13_18 (e : Ev) (v0 v1 v2 v3 : V) : vl e 26 18 [v0, v1, v2, v3] = y.zq13_18 (vl e) v0 v1 v2 v3 := Zac (s.zq13_18 e _ v0 v1 v2 v3)
noncomputable def y.zq22 (Γ : Gam) (v0 : V) : Option V :=
 pr (.bin .eql .no) [v0, .str []] fun v1=>vif v1 (some (.sl false 1 [])) (ca Γ 31 [v0, .str [47]] fun v2=>some v2)
theorem s.zq22 (e : Ev) (Γ : Gam) (v0 : V) : stp e Γ 30 0 [v0] = y.zq22 Γ v0 := by kernel_rfl
theorem w.zq22 (e : Ev) (v0 : V) : vl e 30 0 [v0] = y.zq22 (vl e) v0 := Zac (s.zq22 e _ v0)
noncomputable def y.zq24 (Γ : Gam) (v0 : V) : Option V :=
 pr (.bin .neq .no) [v0, .str []] fun v1=>vif v1 (pr (.bin .neq .no) [v0, .str [46]] fun v2=>vif v2 (pr (.bin .neq .no) [v0, .str [46, 46]] fun v3=>vif v3 (ca Γ 50 [v0, .str [0]] fun v4=>pr (.un .not) [v4] fun v5=>vif v5 (ca Γ 50 [v0, .str [47]] fun v6=>pr (.un .not) [v6] fun v7=>some v7) (some (.bool false))) (some (.bool false))) (some (.bool false))) (some (.bool false))
theorem s.zq24 (e : Ev) (Γ : Gam) (v0 : V) : stp e Γ 34 0 [v0] = y.zq24 Γ v0 := by kernel_rfl
theorem w.zq24 (e : Ev) (v0 : V) : vl e 34 0 [v0] = y.zq24 (vl e) v0 := Zac (s.zq24 e _ v0)
noncomputable def y.zq38 (Γ : Gam) (v0 : V) : Option V :=
 Γ 38 12 [v0, .sl false 1 [], .int .i64 0, .int .i64 0]
theorem s.zq38 (e : Ev) (Γ : Gam) (v0 : V) : stp e Γ 38 0 [v0] = y.zq38 Γ v0 := by kernel_rfl
theorem w.zq38 (e : Ev) (v0 : V) : vl e 38 0 [v0] = y.zq38 (vl e) v0 := Zac (s.zq38 e _ v0)
noncomputable def y.zq38_12 (Γ : Gam) (v0 v1 v2 v3 : V) : Option V :=
 pr (.len true) [v0] fun v4=>pr (.bin .leq .no) [v3, v4] fun v5=>vif v5 (pr (.len true) [v0] fun v6=>pr (.bin .eql .no) [v3, v6] fun v7=>vif v7 (pr (.sls true true) [v0, v2, v3] fun v8=>pr (.bsl 1) [v8] fun v9=>pr (.app 1) [v1, v9] fun v10=>pr (.bin .add .no) [v3, .int .i64 1] fun v11=>pr (.bin .add .no) [v3, .int .i64 1] fun v12=>Γ 38 12 [v0, v10, v11, v12]) (pr .idx [v0, v3] fun v8=>pr (.bin .eql .no) [v8, .int .u8 47] fun v9=>vif v9 (pr (.sls true true) [v0, v2, v3] fun v10=>pr (.bsl 1) [v10] fun v11=>pr (.app 1) [v1, v11] fun v12=>pr (.bin .add .no) [v3, .int .i64 1] fun v13=>pr (.bin .add .no) [v3, .int .i64 1] fun v14=>Γ 38 12 [v0, v12, v13, v14]) (pr (.bin .add .no) [v3, .int .i64 1] fun v10=>Γ 38 12 [v0, v1, v2, v10]))) (some v1)
theorem s.zq38_12 (e : Ev) (Γ : Gam) (v0 v1 v2 v3 : V) : stp e Γ 38 12 [v0, v1, v2, v3] = y.zq38_12 Γ v0 v1 v2 v3 := by kernel_rfl
theorem w.zq38_12 (e : Ev) (v0 v1 v2 v3 : V) : vl e 38 12 [v0, v1, v2, v3] = y.zq38_12 (vl e) v0 v1 v2 v3 := Zac (s.zq38_12 e _ v0 v1 v2 v3)
noncomputable def y.zq12 (Γ : Gam) (v0 : V) : Option V :=
 pr (.len false) [v0] fun v1=>Γ 42 8 [v0, v0, v1, .int .i64 0]
theorem s.zq12 (e : Ev) (Γ : Gam) (v0 : V) : stp e Γ 42 0 [v0] = y.zq12 Γ v0 := by kernel_rfl
theorem w.zq12 (e : Ev) (v0 : V) : vl e 42 0 [v0] = y.zq12 (vl e) v0 := Zac (s.zq12 e _ v0)
noncomputable def y.zq12_8 (Γ : Gam) (v0 v1 v2 v3 : V) : Option V :=
 pr (.bin .lss .no) [v3, v2] fun v4=>vif v4 (pr (.elem 34) [v1, v3] fun v5=>pr (.ld (some 34) 0) [v5] fun v6=>pr (.cat [some 34]) [v6] fun v7=>pr (.ld none 0) [v7] fun v8=>ca Γ 19 [v8] fun v9=>pr (.un .not) [v9] fun v10=>vif v10 (some (.bool false)) (pr (.ld none 0) [v7] fun v11=>ca Γ 58 [v11] fun v12=>pr (.bin .neq .no) [v12, .str []] fun v13=>vif v13 (some (.bool false)) (pr (.bin .gtr .no) [v3, .int .i64 0] fun v14=>vif v14 (pr (.bin .sub .no) [v3, .int .i64 1] fun v15=>pr (.elem 34) [v0, v15] fun v16=>pr (.ld none 0) [v16] fun v17=>pr (.ld none 0) [v7] fun v18=>pr (.bin .geq .no) [v17, v18] fun v19=>vif v19 (some (.bool false)) (pr (.bin .add .no) [v3, .int .i64 1] fun v20=>Γ 42 8 [v0, v1, v2, v20])) (pr (.bin .add .no) [v3, .int .i64 1] fun v15=>Γ 42 8 [v0, v1, v2, v15])))) (pr (.len false) [v0] fun v5=>pr (.bin .leq .no) [v5, .int .i64 512] fun v6=>some v6)
theorem s.zq12_8 (e : Ev) (Γ : Gam) (v0 v1 v2 v3 : V) : stp e Γ 42 8 [v0, v1, v2, v3] = y.zq12_8 Γ v0 v1 v2 v3 := by kernel_rfl
theorem w.zq12_8 (e : Ev) (v0 v1 v2 v3 : V) : vl e 42 8 [v0, v1, v2, v3] = y.zq12_8 (vl e) v0 v1 v2 v3 := Zac (s.zq12_8 e _ v0 v1 v2 v3)
noncomputable def y.zq17 (Γ : Gam) (v0 : V) : Option V :=
 ca Γ 70 [v0, .int .u8 47] fun v1=>pr (.mnx true) [v1, .int .i64 0] fun v2=>pr (.sls false true) [v0, v2] fun v3=>some v3
theorem s.zq17 (e : Ev) (Γ : Gam) (v0 : V) : stp e Γ 58 0 [v0] = y.zq17 Γ v0 := by kernel_rfl
theorem w.zq17 (e : Ev) (v0 : V) : vl e 58 0 [v0] = y.zq17 (vl e) v0 := Zac (s.zq17 e _ v0)
end Go.Proofs.YtpmgdngjbdkdfaaDoor
namespace Go.Proofs.YtpmgdngjbdkdfaaDoor
open Go.Abs
noncomputable def y.zq1 (Γ : Gam) (v0 : V) : Option V :=
 pr (.bin .neq .no) [v0, v0] fun v1=>some v1
theorem s.zq1 (e : Ev) (Γ : Gam) (v0 : V) : stp e Γ 62 0 [v0] = y.zq1 Γ v0 := by kernel_rfl
theorem w.zq1 (e : Ev) (v0 : V) : vl e 62 0 [v0] = y.zq1 (vl e) v0 := Zac (s.zq1 e _ v0)
noncomputable def y.zq8 (Γ : Gam) (v0 v1 : V) : Option V :=
 pr (.len true) [v0] fun v2=>pr (.len true) [v1] fun v3=>pr (.bin .geq .no) [v2, v3] fun v4=>vif v4 (pr (.len true) [v1] fun v5=>pr (.sls false true) [v0, v5] fun v6=>pr (.bin .eql .no) [v6, v1] fun v7=>some v7) (some (.bool false))
theorem s.zq8 (e : Ev) (Γ : Gam) (v0 v1 : V) : stp e Γ 66 0 [v0, v1] = y.zq8 Γ v0 v1 := by kernel_rfl
theorem w.zq8 (e : Ev) (v0 v1 : V) : vl e 66 0 [v0, v1] = y.zq8 (vl e) v0 v1 := Zac (s.zq8 e _ v0 v1)
noncomputable def y.zq60 (Γ : Gam) (v0 v1 : V) : Option V :=
 ca Γ 79 [v0, v1] fun v2=>some v2
theorem s.zq60 (e : Ev) (Γ : Gam) (v0 v1 : V) : stp e Γ 70 0 [v0, v1] = y.zq60 Γ v0 v1 := by kernel_rfl
theorem w.zq60 (e : Ev) (v0 v1 : V) : vl e 70 0 [v0, v1] = y.zq60 (vl e) v0 v1 := Zac (s.zq60 e _ v0 v1)
noncomputable def y.seichelaw08_TreeRefuses (Γ : Gam) (v0 v1 : V) : Option V :=
 ca Γ 6 [] fun v2=>pr (.un .not) [v2] fun v3=>vif v3 (some (.bool false)) (ca Γ 7 [v0, .int .i64 60, .int .i64 4096] fun v4=>vif v4 (some (.bool true)) (pr (.rapp 2) [.agg [], .int .i64 0, v0] fun v6=>pr (.rlen 2) [.int .i64 0, v0] fun v7=>pr (.bin .geq .no) [v1, .int .i64 0] fun v8=>vif v8 (pr (.bin .lss .no) [v1, v7] fun v9=>vif v9 (pr (.mkz (.int .u8 0)) [.int .i64 32769, .int .i64 32769] fun v10=>pr .b2s [v10] fun v11=>pr .chkd [v7, v1] fun v12=>pr (.std 1 1 2) [v6, v12, v11] fun v13=>Γ 3 28 [v7, v13]) (Γ 3 28 [v7, v6])) (Γ 3 28 [v7, v6])))
theorem s.seichelaw08_TreeRefuses (e : Ev) (Γ : Gam) (v0 v1 : V) : Go.Abs.step Tryd.prog (rowA :: tabs) e cfg Γ 3 0 [v0, v1] = y.seichelaw08_TreeRefuses Γ v0 v1 := by kernel_rfl
theorem w.seichelaw08_TreeRefuses (e : Ev) (v0 v1 : V) : vlA e 3 0 [v0, v1] = y.seichelaw08_TreeRefuses (vlA e) v0 v1 := Zac (s.seichelaw08_TreeRefuses e _ v0 v1)
noncomputable def y.seichelaw08_TreeRefuses_28 (Γ : Gam) (v0 v1 : V) : Option V :=
 ch Γ 10128 [] fun v2=>pr (.ext 0) [v2] fun v3=>pr (.ext 1) [v2] fun v4=>pr (.ext 2) [v2] fun v5=>ch Γ 10145 [v0, v1, v3, v4, v5] fun v6=>pr (.ext 0) [v6] fun v7=>pr (.ext 1) [v6] fun v8=>pr (.ext 2) [v6] fun v9=>pr (.ext 3) [v6] fun v10=>pr (.ext 4) [v6] fun v11=>pr (.ext 5) [v6] fun v12=>pr (.cat [some 32]) [v7] fun v13=>pr (.snapv 2) [v9, .int .i64 0, v0] fun v14=>ca Γ 10 [v14] fun v15=>pr .flr [v15] fun v16=>pr (.bin .eql .no) [v8, v16] fun v17=>vif v17 (pr (.bin .eql .no) [v8, .int .i64 0] fun v18=>vif v18 (some (.bool true)) (ch Γ 10176 [v10, v11, v12] fun v19=>pr (.ext 0) [v19] fun v20=>pr (.ext 1) [v19] fun v21=>pr (.ext 2) [v19] fun v22=>pr (.ext 3) [v19] fun v23=>pr (.bin .eql .no) [v20, .int .i64 0] fun v24=>some v24)) (some (.bool false))
theorem s.seichelaw08_TreeRefuses_28 (e : Ev) (Γ : Gam) (v0 v1 : V) : Go.Abs.step Tryd.prog (rowA :: tabs) e cfg Γ 3 28 [v0, v1] = y.seichelaw08_TreeRefuses_28 Γ v0 v1 := by kernel_rfl
theorem w.seichelaw08_TreeRefuses_28 (e : Ev) (v0 v1 : V) : vlA e 3 28 [v0, v1] = y.seichelaw08_TreeRefuses_28 (vlA e) v0 v1 := Zac (s.seichelaw08_TreeRefuses_28 e _ v0 v1)
noncomputable def y.zq40 (Γ : Gam) (v0 v1 v2 : V) : Option V :=
 pr (.len false) [v0] fun v3=>Γ 7 10 [v0, v1, v2, .int .i64 0, v0, v3, .int .i64 0]
theorem s.zq40 (e : Ev) (Γ : Gam) (v0 v1 v2 : V) : stp e Γ 7 0 [v0, v1, v2] = y.zq40 Γ v0 v1 v2 := by kernel_rfl
theorem w.zq40 (e : Ev) (v0 v1 v2 : V) : vl e 7 0 [v0, v1, v2] = y.zq40 (vl e) v0 v1 v2 := Zac (s.zq40 e _ v0 v1 v2)
noncomputable def y.zq40_10 (Γ : Gam) (v0 v1 v2 v3 v4 v5 v6 : V) : Option V :=
 pr (.bin .lss .no) [v6, v5] fun v7=>vif v7 (pr (.elem 2) [v4, v6] fun v8=>pr (.ld (some 2) 0) [v8] fun v9=>pr (.cat [some 2]) [v9] fun v10=>pr (.ld none 0) [v10] fun v11=>pr (.len true) [v11] fun v12=>pr (.ld none 1) [v10] fun v13=>pr (.len true) [v13] fun v14=>pr (.bin .add .no) [v12, v14] fun v15=>pr (.bin .add .no) [v3, v15] fun v16=>pr (.bin .gtr .no) [v16, v2] fun v17=>vif v17 (some (.bool true)) (pr (.bin .add .no) [v6, .int .i64 1] fun v18=>Γ 7 10 [v0, v1, v2, v16, v4, v5, v18])) (pr (.len false) [v0] fun v8=>pr (.bin .gtr .no) [v8, v1] fun v9=>some v9)
theorem s.zq40_10 (e : Ev) (Γ : Gam) (v0 v1 v2 v3 v4 v5 v6 : V) : stp e Γ 7 10 [v0, v1, v2, v3, v4, v5, v6] = y.zq40_10 Γ v0 v1 v2 v3 v4 v5 v6 := by kernel_rfl
theorem w.zq40_10 (e : Ev) (v0 v1 v2 v3 v4 v5 v6 : V) : vl e 7 10 [v0, v1, v2, v3, v4, v5, v6] = y.zq40_10 (vl e) v0 v1 v2 v3 v4 v5 v6 := Zac (s.zq40_10 e _ v0 v1 v2 v3 v4 v5 v6)
noncomputable def y.zq18 (Γ : Gam) (v0 : V) : Option V :=
 pr (.len true) [v0] fun v1=>pr (.bin .gtr .no) [v1, .int .i64 128] fun v2=>vif v2 (some (.bool false)) (ca Γ 31 [v0, .str [47]] fun v3=>pr (.len false) [v3] fun v4=>pr (.bin .leq .no) [v4, .int .i64 16] fun v5=>vif v5 (ca Γ 32 [v3, .fn 33 []] fun v6=>pr (.un .not) [v6] fun v7=>some v7) (some (.bool false)))
theorem s.zq18 (e : Ev) (Γ : Gam) (v0 : V) : stp e Γ 19 0 [v0] = y.zq18 Γ v0 := by kernel_rfl
theorem w.zq18 (e : Ev) (v0 : V) : vl e 19 0 [v0] = y.zq18 (vl e) v0 := Zac (s.zq18 e _ v0)
noncomputable def y.zq39 (Γ : Gam) (v0 v1 : V) : Option V :=
 pr (.bin .eql .no) [v0, .str []] fun v2=>vif v2 (pr (.bin .neq .no) [v1, .str []] fun v3=>some (.tup [v1, v3])) (pr (.len true) [v0] fun v3=>pr (.len true) [v1] fun v4=>pr (.bin .add .no) [v3, .int .i64 1] fun v5=>pr (.bin .leq .no) [v4, v5] fun v6=>vif v6 (some (.tup [.str [], .bool false])) (pr (.sls false true) [v1, v3] fun v7=>pr (.bin .neq .no) [v7, v0] fun v8=>vif v8 (some (.tup [.str [], .bool false])) (pr .idx [v1, v3] fun v9=>pr (.bin .neq .no) [v9, .int .u8 47] fun v10=>vif v10 (some (.tup [.str [], .bool false])) (pr (.bin .add .no) [v3, .int .i64 1] fun v11=>pr (.sls true false) [v1, v11] fun v12=>some (.tup [v12, .bool true])))))
theorem s.zq39 (e : Ev) (Γ : Gam) (v0 v1 : V) : stp e Γ 23 0 [v0, v1] = y.zq39 Γ v0 v1 := by kernel_rfl
theorem w.zq39 (e : Ev) (v0 v1 : V) : vl e 23 0 [v0, v1] = y.zq39 (vl e) v0 v1 := Zac (s.zq39 e _ v0 v1)
noncomputable def y.zq14 (Γ : Gam) (v0 : V) : Option V :=
 pr (.bsl 1) [v0] fun v1=>ca Γ 44 [.str [116, 114, 101, 101], v1] fun v2=>pr (.cat [some 32]) [v2] fun v3=>some v3
theorem s.zq14 (e : Ev) (Γ : Gam) (v0 : V) : stp e Γ 27 0 [v0] = y.zq14 Γ v0 := by kernel_rfl
theorem w.zq14 (e : Ev) (v0 : V) : vl e 27 0 [v0] = y.zq14 (vl e) v0 := Zac (s.zq14 e _ v0)
noncomputable def y.zq58 (Γ : Gam) (v0 v1 : V) : Option V :=
 ca Γ 51 [v0, v1] fun v2=>pr (.ext 0) [v2] fun v3=>pr (.ext 1) [v2] fun v4=>some (.tup [v3, v4])
theorem s.zq58 (e : Ev) (Γ : Gam) (v0 v1 : V) : stp e Γ 35 0 [v0, v1] = y.zq58 Γ v0 v1 := by kernel_rfl
theorem w.zq58 (e : Ev) (v0 v1 : V) : vl e 35 0 [v0, v1] = y.zq58 (vl e) v0 v1 := Zac (s.zq58 e _ v0 v1)
noncomputable def y.zq37 (Γ : Gam) (v0 : V) : Option V :=
 Γ 39 8 [v0, .int .i64 0]
theorem s.zq37 (e : Ev) (Γ : Gam) (v0 : V) : stp e Γ 39 0 [v0] = y.zq37 Γ v0 := by kernel_rfl
theorem w.zq37 (e : Ev) (v0 : V) : vl e 39 0 [v0] = y.zq37 (vl e) v0 := Zac (s.zq37 e _ v0)
noncomputable def y.zq37_8 (Γ : Gam) (v0 v1 : V) : Option V :=
 pr (.len true) [v0] fun v2=>pr (.bin .lss .no) [v1, v2] fun v3=>vif v3 (pr .idx [v0, v1] fun v4=>pr (.bin .eql .no) [v4, .int .u8 0] fun v5=>vif v5 (some (.bool false)) (pr .idx [v0, v1] fun v6=>pr (.bin .eql .no) [v6, .int .u8 47] fun v7=>vif v7 (some (.bool false)) (pr (.bin .add .no) [v1, .int .i64 1] fun v8=>Γ 39 8 [v0, v8]))) (pr (.bin .neq .no) [v0, .str []] fun v4=>vif v4 (pr (.bin .neq .no) [v0, .str [46]] fun v5=>vif v5 (pr (.bin .neq .no) [v0, .str [46, 46]] fun v6=>some v6) (some (.bool false))) (some (.bool false)))
theorem s.zq37_8 (e : Ev) (Γ : Gam) (v0 v1 : V) : stp e Γ 39 8 [v0, v1] = y.zq37_8 Γ v0 v1 := by kernel_rfl
theorem w.zq37_8 (e : Ev) (v0 v1 : V) : vl e 39 8 [v0, v1] = y.zq37_8 (vl e) v0 v1 := Zac (s.zq37_8 e _ v0 v1)
noncomputable def y.zq2 (Γ : Gam) (v0 : V) : Option V :=
 pr (.len false) [v0] fun v1=>Γ 43 10 [v0, .int .i64 8, v0, v1, .int .i64 0]
theorem s.zq2 (e : Ev) (Γ : Gam) (v0 : V) : stp e Γ 43 0 [v0] = y.zq2 Γ v0 := by kernel_rfl
theorem w.zq2 (e : Ev) (v0 : V) : vl e 43 0 [v0] = y.zq2 (vl e) v0 := Zac (s.zq2 e _ v0)
noncomputable def y.zq2_10 (Γ : Gam) (v0 v1 v2 v3 v4 : V) : Option V :=
 pr (.bin .lss .no) [v4, v3] fun v5=>vif v5 (pr (.elem 1) [v2, v4] fun v6=>pr (.ld none 0) [v6] fun v7=>pr (.len true) [v7] fun v8=>pr (.bin .add .no) [.int .i64 8, v8] fun v9=>pr (.bin .add .no) [v1, v9] fun v10=>pr (.bin .add .no) [v4, .int .i64 1] fun v11=>Γ 43 10 [v0, v10, v2, v3, v11]) (pr (.mks 1) [.int .i64 0, v1] fun v6=>pr (.len false) [v0] fun v7=>ca Γ 59 [v7] fun v8=>pr (.app 1) [v6, v8] fun v9=>pr (.len false) [v0] fun v10=>Γ 43 31 [v9, v0, v10, .int .i64 0])
theorem s.zq2_10 (e : Ev) (Γ : Gam) (v0 v1 v2 v3 v4 : V) : stp e Γ 43 10 [v0, v1, v2, v3, v4] = y.zq2_10 Γ v0 v1 v2 v3 v4 := by kernel_rfl
theorem w.zq2_10 (e : Ev) (v0 v1 v2 v3 v4 : V) : vl e 43 10 [v0, v1, v2, v3, v4] = y.zq2_10 (vl e) v0 v1 v2 v3 v4 := Zac (s.zq2_10 e _ v0 v1 v2 v3 v4)
noncomputable def y.zq2_31 (Γ : Gam) (v0 v1 v2 v3 : V) : Option V :=
 pr (.bin .lss .no) [v3, v2] fun v4=>vif v4 (pr (.elem 1) [v1, v3] fun v5=>pr (.ld none 0) [v5] fun v6=>pr (.len true) [v6] fun v7=>ca Γ 59 [v7] fun v8=>pr (.app 1) [v0, v8] fun v9=>pr (.app 1) [v9, v6] fun v10=>pr (.bin .add .no) [v3, .int .i64 1] fun v11=>Γ 43 31 [v10, v1, v2, v11]) (pr .b2s [v0] fun v5=>some v5)
theorem s.zq2_31 (e : Ev) (Γ : Gam) (v0 v1 v2 v3 : V) : stp e Γ 43 31 [v0, v1, v2, v3] = y.zq2_31 Γ v0 v1 v2 v3 := by kernel_rfl
theorem w.zq2_31 (e : Ev) (v0 v1 v2 v3 : V) : vl e 43 31 [v0, v1, v2, v3] = y.zq2_31 (vl e) v0 v1 v2 v3 := Zac (s.zq2_31 e _ v0 v1 v2 v3)
noncomputable def y.zq0 (Γ : Gam) (v0 v1 : V) : Option V :=
 ca Γ 62 [v0] fun v2=>ca Γ 62 [v1] fun v3=>vif v2 (vif v3 (some (.int .i64 0)) (some (.int .i64 (-1)))) (vif v3 (some (.int .i64 1)) (pr (.bin .lss .no) [v0, v1] fun v4=>vif v4 (some (.int .i64 (-1))) (pr (.bin .gtr .no) [v0, v1] fun v5=>vif v5 (some (.int .i64 1)) (some (.int .i64 0)))))
theorem s.zq0 (e : Ev) (Γ : Gam) (v0 v1 : V) : stp e Γ 47 0 [v0, v1] = y.zq0 Γ v0 v1 := by kernel_rfl
theorem w.zq0 (e : Ev) (v0 v1 : V) : vl e 47 0 [v0, v1] = y.zq0 (vl e) v0 v1 := Zac (s.zq0 e _ v0 v1)
noncomputable def y.zq7 (Γ : Gam) (v0 v1 : V) : Option V :=
 ca Γ 66 [v0, v1] fun v2=>pr (.un .not) [v2] fun v3=>vif v3 (some (.tup [v0, .bool false])) (pr (.len true) [v1] fun v4=>pr (.sls true false) [v0, v4] fun v5=>some (.tup [v5, .bool true]))
theorem s.zq7 (e : Ev) (Γ : Gam) (v0 v1 : V) : stp e Γ 51 0 [v0, v1] = y.zq7 Γ v0 v1 := by kernel_rfl
theorem w.zq7 (e : Ev) (v0 v1 : V) : vl e 51 0 [v0, v1] = y.zq7 (vl e) v0 v1 := Zac (s.zq7 e _ v0 v1)
noncomputable def y.zq3 (Γ : Gam) (v0 : V) : Option V :=
 Γ 59 10 [v0, .int .i64 0, .agg [.int .u8 0, .int .u8 0, .int .u8 0, .int .u8 0, .int .u8 0, .int .u8 0, .int .u8 0, .int .u8 0]]
theorem s.zq3 (e : Ev) (Γ : Gam) (v0 : V) : stp e Γ 59 0 [v0] = y.zq3 Γ v0 := by kernel_rfl
theorem w.zq3 (e : Ev) (v0 : V) : vl e 59 0 [v0] = y.zq3 (vl e) v0 := Zac (s.zq3 e _ v0)
noncomputable def y.zq3_10 (Γ : Gam) (v0 v1 v2 : V) : Option V :=
 pr (.bin .lss .no) [v1, .int .i64 8] fun v3=>vif v3 (pr (.i2i .u64) [v0] fun v4=>pr (.bin .mul .no) [.int .i64 8, v1] fun v5=>pr (.bin .sub .no) [.int .i64 56, v5] fun v6=>pr (.bin .shr .no) [v4, v6] fun v7=>pr (.i2i .u8) [v7] fun v8=>pr (.chk 8) [v1] fun v9=>pr (.std 1 0 1) [v2, v9, v8] fun v10=>pr (.bin .add .no) [v1, .int .i64 1] fun v11=>Γ 59 10 [v0, v11, v10]) (pr (.b2so 0 8) [v2] fun v4=>some v4)
theorem s.zq3_10 (e : Ev) (Γ : Gam) (v0 v1 v2 : V) : stp e Γ 59 10 [v0, v1, v2] = y.zq3_10 Γ v0 v1 v2 := by kernel_rfl
theorem w.zq3_10 (e : Ev) (v0 v1 v2 : V) : vl e 59 10 [v0, v1, v2] = y.zq3_10 (vl e) v0 v1 v2 := Zac (s.zq3_10 e _ v0 v1 v2)
noncomputable def y.zq6 (Γ : Gam) (v0 v1 : V) : Option V :=
 pr (.len true) [v0] fun v2=>pr (.bin .sub .no) [v2, .int .i64 1] fun v3=>Γ 79 8 [v0, v1, v3]
theorem s.zq6 (e : Ev) (Γ : Gam) (v0 v1 : V) : stp e Γ 79 0 [v0, v1] = y.zq6 Γ v0 v1 := by kernel_rfl
theorem w.zq6 (e : Ev) (v0 v1 : V) : vl e 79 0 [v0, v1] = y.zq6 (vl e) v0 v1 := Zac (s.zq6 e _ v0 v1)
noncomputable def y.zq6_8 (Γ : Gam) (v0 v1 v2 : V) : Option V :=
 pr (.bin .geq .no) [v2, .int .i64 0] fun v3=>vif v3 (pr .idx [v0, v2] fun v4=>pr (.bin .eql .no) [v4, v1] fun v5=>vif v5 (some v2) (pr (.bin .sub .no) [v2, .int .i64 1] fun v6=>Γ 79 8 [v0, v1, v6])) (some (.int .i64 (-1)))
theorem s.zq6_8 (e : Ev) (Γ : Gam) (v0 v1 v2 : V) : stp e Γ 79 8 [v0, v1, v2] = y.zq6_8 Γ v0 v1 v2 := by kernel_rfl
theorem w.zq6_8 (e : Ev) (v0 v1 v2 : V) : vl e 79 8 [v0, v1, v2] = y.zq6_8 (vl e) v0 v1 v2 := Zac (s.zq6_8 e _ v0 v1 v2)
noncomputable def y.seichelaw08_TreeRefuses_p (Γ : Gam) (v0 v1 : V) : Option V :=
 ca Γ 6 [] fun v2=>pr (.un .not) [v2] fun v3=>vif v3 (some (.bool false)) (ca Γ 7 [v0, .int .i64 60, .int .i64 4096] fun v4=>vif v4 (some (.bool true)) (pr (.bsl 2) [] fun v5=>pr (.app 2) [v5, v0] fun v6=>pr (.bin .geq .no) [v1, .int .i64 0] fun v7=>vif v7 (pr (.len false) [v6] fun v8=>pr (.bin .lss .no) [v1, v8] fun v9=>vif v9 (pr (.mkz (.int .u8 0)) [.int .i64 32769, .int .i64 32769] fun v10=>pr .b2s [v10] fun v11=>pr (.elem 2) [v6, v1] fun v12=>
none) (
     Γ 3 28 [v6])) (
    Γ 3 28 [v6])))
theorem s.seichelaw08_TreeRefuses_p (e : Ev) (Γ : Gam) (v0 v1 : V) : Go.Abs.step Tryd.prog (rowB :: tabs) e cfg Γ 3 0 [v0, v1] = y.seichelaw08_TreeRefuses_p Γ v0 v1 := by kernel_rfl
theorem w.seichelaw08_TreeRefuses_p (e : Ev) (v0 v1 : V) : vlB e 3 0 [v0, v1] = y.seichelaw08_TreeRefuses_p (vlB e) v0 v1 := Zac (s.seichelaw08_TreeRefuses_p e _ v0 v1)
noncomputable def y.seichelaw08_TreeRefuses_p_28 (Γ : Gam) (v0 : V) : Option V :=
 ch Γ 10128 [] fun v1=>pr (.ext 0) [v1] fun v2=>pr (.ext 1) [v1] fun v3=>pr (.ext 2) [v1] fun v4=>ch Γ 10144 [v0, v2, v3, v4] fun v5=>pr (.ext 0) [v5] fun v6=>pr (.ext 1) [v5] fun v7=>pr (.ext 2) [v5] fun v8=>pr (.ext 3) [v5] fun v9=>pr (.ext 4) [v5] fun v10=>pr (.cat [some 32]) [v6] fun v11=>ca Γ 10 [v0] fun v12=>pr (.bin .eql .no) [v7, v12] fun v13=>vif v13 (pr (.bin .eql .no) [v7, .int .i64 0] fun v14=>vif v14 (some (.bool true)) (ch Γ 10176 [v8, v9, v10] fun v15=>pr (.ext 0) [v15] fun v16=>pr (.ext 1) [v15] fun v17=>pr (.ext 2) [v15] fun v18=>pr (.ext 3) [v15] fun v19=>pr (.bin .eql .no) [v16, .int .i64 0] fun v20=>some v20)) (some (.bool false))
theorem s.seichelaw08_TreeRefuses_p_28 (e : Ev) (Γ : Gam) (v0 : V) : Go.Abs.step Tryd.prog (rowB :: tabs) e cfg Γ 3 28 [v0] = y.seichelaw08_TreeRefuses_p_28 Γ v0 := by kernel_rfl
theorem w.seichelaw08_TreeRefuses_p_28 (e : Ev) (v0 : V) : vlB e 3 28 [v0] = y.seichelaw08_TreeRefuses_p_28 (vlB e) v0 := Zac (s.seichelaw08_TreeRefuses_p_28 e _ v0)
noncomputable def y.zq62_h0 (Γ : Gam) : Option V :=
 some (.tup [(.iface 0 (.tup [])), (.iface 0 (.tup [])), (.iface 0 (.tup []))])
theorem s.zq62_h0 (e : Ev) (Γ : Gam) : stp e Γ 10128 1 [] = y.zq62_h0 Γ := by kernel_rfl
theorem w.zq62_h0 (e : Ev) : vl e 10128 1 [] = y.zq62_h0 (vl e) := Zac (s.zq62_h0 e _)
noncomputable def y.zq25_h0 (Γ : Gam) (v0 v1 : V) : Option V :=
 Γ 11136 8 [.int .i64 0, v0, v1, (.agg (repl 64 (.int .u32 0)))]
theorem s.zq25_h0 (e : Ev) (Γ : Gam) (v0 v1 : V) : stp e Γ 11136 1 [v0, v1] = y.zq25_h0 Γ v0 v1 := by kernel_rfl
theorem w.zq25_h0 (e : Ev) (v0 v1 : V) : vl e 11136 1 [v0, v1] = y.zq25_h0 (vl e) v0 v1 := Zac (s.zq25_h0 e _ v0 v1)
noncomputable def y.zq25_h0_8 (Γ : Gam) (v0 v1 v2 v3 : V) : Option V :=
 pr (.bin .lss .no) [v0, .int .i64 16] fun v4=>vif v4 (pr (.bin .mul .no) [.int .i64 4, v0] fun v5=>pr (.chk 64) [v5] fun v6=>pr (.snapd 0 64) [v2, v6] fun v7=>ca Γ 80 [v7] fun v8=>pr .flr [v8] fun v9=>pr (.chk 64) [v0] fun v10=>pr (.std 1 0 1) [v3, v10, v9] fun v11=>pr (.bin .add .no) [v0, .int .i64 1] fun v12=>Γ 11136 8 [v12, v1, v2, v11]) (Γ 11136 25 [.int .i64 16, v1, v2, v3])
theorem s.zq25_h0_8 (e : Ev) (Γ : Gam) (v0 v1 v2 v3 : V) : stp e Γ 11136 8 [v0, v1, v2, v3] = y.zq25_h0_8 Γ v0 v1 v2 v3 := by kernel_rfl
theorem w.zq25_h0_8 (e : Ev) (v0 v1 v2 v3 : V) : vl e 11136 8 [v0, v1, v2, v3] = y.zq25_h0_8 (vl e) v0 v1 v2 v3 := Zac (s.zq25_h0_8 e _ v0 v1 v2 v3)
noncomputable def y.zq25_h0_25 (Γ : Gam) (v0 v1 v2 v3 : V) : Option V :=
 pr (.bin .lss .no) [v0, .int .i64 64] fun v4=>vif v4 (pr (.bin .sub .no) [v0, .int .i64 15] fun v5=>pr (.chk 64) [v5] fun v6=>pr (.ldd none 0 1) [v3, v6] fun v7=>pr (.bin .sub .no) [v0, .int .i64 2] fun v8=>pr (.chk 64) [v8] fun v9=>pr (.ldd none 0 1) [v3, v9] fun v10=>ca Γ 81 [v7, (.int .i64 (-7))] fun v11=>ca Γ 81 [v7, (.int .i64 (-18))] fun v12=>pr (.bin .xor .no) [v11, v12] fun v13=>pr (.bin .shr .no) [v7, .int .u64 3] fun v14=>pr (.bin .xor .no) [v13, v14] fun v15=>ca Γ 81 [v10, (.int .i64 (-17))] fun v16=>ca Γ 81 [v10, (.int .i64 (-19))] fun v17=>pr (.bin .xor .no) [v16, v17] fun v18=>pr (.bin .shr .no) [v10, .int .u64 10] fun v19=>pr (.bin .xor .no) [v18, v19] fun v20=>pr (.bin .sub .no) [v0, .int .i64 16] fun v21=>pr (.chk 64) [v21] fun v22=>pr (.ldd none 0 1) [v3, v22] fun v23=>pr (.bin .add .no) [v23, v15] fun v24=>pr (.bin .sub .no) [v0, .int .i64 7] fun v25=>pr (.chk 64) [v25] fun v26=>pr (.ldd none 0 1) [v3, v26] fun v27=>pr (.bin .add .no) [v24, v27] fun v28=>pr (.bin .add .no) [v28, v20] fun v29=>pr (.chk 64) [v0] fun v30=>pr (.std 1 0 1) [v3, v30, v29] fun v31=>pr (.bin .add .no) [v0, .int .i64 1] fun v32=>Γ 11136 25 [v32, v1, v2, v31]) (pr (.ld none 0) [v1] fun v5=>pr (.ld none 1) [v1] fun v6=>pr (.ld none 2) [v1] fun v7=>pr (.ld none 3) [v1] fun v8=>pr (.ld none 4) [v1] fun v9=>pr (.ld none 5) [v1] fun v10=>pr (.ld none 6) [v1] fun v11=>pr (.ld none 7) [v1] fun v12=>Γ 11136 48 [v5, v6, v7, v8, v9, v10, v11, v12, v3, .int .i64 0, v1, v2])
theorem s.zq25_h0_25 (e : Ev) (Γ : Gam) (v0 v1 v2 v3 : V) : stp e Γ 11136 25 [v0, v1, v2, v3] = y.zq25_h0_25 Γ v0 v1 v2 v3 := by kernel_rfl
theorem w.zq25_h0_25 (e : Ev) (v0 v1 v2 v3 : V) : vl e 11136 25 [v0, v1, v2, v3] = y.zq25_h0_25 (vl e) v0 v1 v2 v3 := Zac (s.zq25_h0_25 e _ v0 v1 v2 v3)
noncomputable def y.zq25_h0_48 (Γ : Gam) (v0 v1 v2 v3 v4 v5 v6 v7 v8 v9 v10 v11 : V) : Option V :=
 pr (.bin .lss .no) [v9, .int .i64 64] fun v12=>vif v12 (pr (.idxa 64 1 none) [v8, v9] fun v13=>ca Γ 81 [v4, (.int .i64 (-6))] fun v14=>ca Γ 81 [v4, (.int .i64 (-11))] fun v15=>pr (.bin .xor .no) [v14, v15] fun v16=>ca Γ 81 [v4, (.int .i64 (-25))] fun v17=>pr (.bin .xor .no) [v16, v17] fun v18=>pr (.bin .add .no) [v7, v18] fun v19=>pr (.bin .and .no) [v4, v5] fun v20=>pr (.un .xor) [v4] fun v21=>pr (.bin .and .no) [v21, v6] fun v22=>pr (.bin .xor .no) [v20, v22] fun v23=>pr (.bin .add .no) [v19, v23] fun v24=>pr (.chk 64) [v9] fun v25=>pr (.ldd none 0 1) [(.agg (.int .u32 1116352408 :: .int .u32 1899447441 :: .int .u32 3049323471 :: .int .u32 3921009573 :: .int .u32 961987163 :: .int .u32 1508970993 :: .int .u32 2453635748 :: .int .u32 2870763221 :: .int .u32 3624381080 :: .int .u32 310598401 :: .int .u32 607225278 :: .int .u32 1426881987 :: .int .u32 1925078388 :: .int .u32 2162078206 :: .int .u32 2614888103 :: .int .u32 3248222580 :: .int .u32 3835390401 :: .int .u32 4022224774 :: .int .u32 264347078 :: .int .u32 604807628 :: .int .u32 770255983 :: .int .u32 1249150122 :: .int .u32 1555081692 :: .int .u32 1996064986 :: .int .u32 2554220882 :: .int .u32 2821834349 :: .int .u32 2952996808 :: .int .u32 3210313671 :: .int .u32 3336571891 :: .int .u32 3584528711 :: .int .u32 113926993 :: .int .u32 338241895 :: .int .u32 666307205 :: .int .u32 773529912 :: .int .u32 1294757372 :: .int .u32 1396182291 :: .int .u32 1695183700 :: .int .u32 1986661051 :: .int .u32 2177026350 :: .int .u32 2456956037 :: .int .u32 2730485921 :: .int .u32 2820302411 :: .int .u32 3259730800 :: .int .u32 3345764771 :: .int .u32 3516065817 :: .int .u32 3600352804 :: .int .u32 4094571909 :: .int .u32 275423344 :: .int .u32 430227734 :: .int .u32 506948616 :: .int .u32 659060556 :: .int .u32 883997877 :: .int .u32 958139571 :: .int .u32 1322822218 :: .int .u32 1537002063 :: .int .u32 1747873779 :: .int .u32 1955562222 :: .int .u32 2024104815 :: .int .u32 2227730452 :: .int .u32 2361852424 :: .int .u32 2428436474 :: .int .u32 2756734187 :: .int .u32 3204031479 :: .int .u32 3329325298 :: [])), v25] fun v26=>pr (.bin .add .no) [v24, v26] fun v27=>pr (.bin .add .no) [v27, v13] fun v28=>ca Γ 81 [v0, (.int .i64 (-2))] fun v29=>ca Γ 81 [v0, (.int .i64 (-13))] fun v30=>pr (.bin .xor .no) [v29, v30] fun v31=>ca Γ 81 [v0, (.int .i64 (-22))] fun v32=>pr (.bin .xor .no) [v31, v32] fun v33=>pr (.bin .and .no) [v0, v1] fun v34=>pr (.bin .and .no) [v0, v2] fun v35=>pr (.bin .xor .no) [v34, v35] fun v36=>pr (.bin .and .no) [v1, v2] fun v37=>pr (.bin .xor .no) [v36, v37] fun v38=>pr (.bin .add .no) [v33, v38] fun v39=>pr (.bin .add .no) [v28, v39] fun v40=>pr (.bin .add .no) [v3, v28] fun v41=>pr (.bin .add .no) [v9, .int .i64 1] fun v42=>Γ 11136 48 [v40, v0, v1, v2, v41, v4, v5, v6, v8, v42, v10, v11]) (pr (.cat [none, none, none, none, none, none, none, none]) [v0, v1, v2, v3, v4, v5, v6, v7] fun v13=>Γ 11136 72 [v13, .int .i64 0, v10, v11])
theorem s.zq25_h0_48 (e : Ev) (Γ : Gam) (v0 v1 v2 v3 v4 v5 v6 v7 v8 v9 v10 v11 : V) : stp e Γ 11136 48 [v0, v1, v2, v3, v4, v5, v6, v7, v8, v9, v10, v11] = y.zq25_h0_48 Γ v0 v1 v2 v3 v4 v5 v6 v7 v8 v9 v10 v11 := by kernel_rfl
theorem w.zq25_h0_48 (e : Ev) (v0 v1 v2 v3 v4 v5 v6 v7 v8 v9 v10 v11 : V) : vl e 11136 48 [v0, v1, v2, v3, v4, v5, v6, v7, v8, v9, v10, v11] = y.zq25_h0_48 (vl e) v0 v1 v2 v3 v4 v5 v6 v7 v8 v9 v10 v11 := Zac (s.zq25_h0_48 e _ v0 v1 v2 v3 v4 v5 v6 v7 v8 v9 v10 v11)
noncomputable def y.zq25_h0_72 (Γ : Gam) (v0 v1 v2 v3 : V) : Option V :=
 pr (.bin .lss .no) [v1, .int .i64 8] fun v4=>vif v4 (pr (.idxa 8 1 none) [v0, v1] fun v5=>pr (.chk 8) [v1] fun v6=>pr (.ldd none 0 1) [v2, v6] fun v7=>pr (.bin .add .no) [v7, v5] fun v8=>pr (.chk 8) [v1] fun v9=>pr (.std 1 0 1) [v2, v9, v8] fun v10=>pr (.bin .add .no) [v1, .int .i64 1] fun v11=>Γ 11136 72 [v0, v11, v10, v3]) (some (.tup [v2, v3]))
theorem s.zq25_h0_72 (e : Ev) (Γ : Gam) (v0 v1 v2 v3 : V) : stp e Γ 11136 72 [v0, v1, v2, v3] = y.zq25_h0_72 Γ v0 v1 v2 v3 := by kernel_rfl
theorem w.zq25_h0_72 (e : Ev) (v0 v1 v2 v3 : V) : vl e 11136 72 [v0, v1, v2, v3] = y.zq25_h0_72 (vl e) v0 v1 v2 v3 := Zac (s.zq25_h0_72 e _ v0 v1 v2 v3)
noncomputable def y.zq46_h0 (Γ : Gam) (v0 : V) : Option V :=
 vamb v0 (some (.tup [.int .i64 0, .agg []])) (pr (.rapp 1) [.agg [], .int .i64 0, v0] fun v3=>pr (.rlen 1) [.int .i64 0, v0] fun v4=>some (.tup [v4, v3]))
theorem s.zq46_h0 (e : Ev) (Γ : Gam) (v0 : V) : stp e Γ 10880 1 [v0] = y.zq46_h0 Γ v0 := by kernel_rfl
theorem w.zq46_h0 (e : Ev) (v0 : V) : vl e 10880 1 [v0] = y.zq46_h0 (vl e) v0 := Zac (s.zq46_h0 e _ v0)
noncomputable def y.zq26_h0 (Γ : Gam) (v0 v1 v2 v3 : V) : Option V :=
 pr (.len false) [v0] fun v4=>pr (.bin .gtr .no) [v4, .int .i64 512] fun v5=>vif v5 (pr (.cat []) [] fun v6=>pr (.cat [some 32]) [(.agg (repl 32 (.int .u8 0)))] fun v7=>some (.tup [v7, .int .i64 3, v1, v2, v3])) (ch Γ 10240 [v0] fun v6=>pr (.ext 0) [v6] fun v7=>pr (.ext 1) [v6] fun v8=>ch Γ 10256 [v7, .fn 17 [], v8] fun v9=>Γ 10144 28 [v7, v7, v7, .int .i64 0, v1, v2, v3, (.agg (repl 32 (.int .u8 0))), v9])
theorem s.zq26_h0 (e : Ev) (Γ : Gam) (v0 v1 v2 v3 : V) : stp e Γ 10144 1 [v0, v1, v2, v3] = y.zq26_h0 Γ v0 v1 v2 v3 := by kernel_rfl
theorem w.zq26_h0 (e : Ev) (v0 v1 v2 v3 : V) : vl e 10144 1 [v0, v1, v2, v3] = y.zq26_h0 (vl e) v0 v1 v2 v3 := Zac (s.zq26_h0 e _ v0 v1 v2 v3)
noncomputable def y.zq26_h0_28 (Γ : Gam) (v0 v1 v2 v3 v4 v5 v6 v7 v8 : V) : Option V :=
 pr (.bin .lss .no) [v3, v2] fun v9=>vif v9 (pr .chkd [v1, v3] fun v10=>pr (.ldd (some 2) 0 2) [v8, v10] fun v11=>pr (.cat [some 2]) [v11] fun v12=>pr (.ld none 0) [v12] fun v13=>ca Γ 19 [v13] fun v14=>pr (.un .not) [v14] fun v15=>vif v15 (pr (.cat []) [] fun v16=>pr (.cat [some 32]) [(.agg (repl 32 (.int .u8 0)))] fun v17=>some (.tup [v17, .int .i64 1, v4, v5, v6])) (pr (.bin .gtr .no) [v3, .int .i64 0] fun v16=>vif v16 (pr (.bin .sub .no) [v3, .int .i64 1] fun v17=>pr .chkd [v0, v17] fun v18=>pr (.ldd none 0 2) [v8, v18] fun v19=>pr (.ld none 0) [v12] fun v20=>ca Γ 20 [v19, v20] fun v21=>pr (.ext 0) [v21] fun v22=>pr (.ext 1) [v21] fun v23=>vif v23 (pr (.cat []) [] fun v24=>pr (.cat [some 32]) [(.agg (repl 32 (.int .u8 0)))] fun v25=>some (.tup [v25, .int .i64 1, v4, v5, v6])) (pr (.bin .sub .no) [v3, .int .i64 1] fun v24=>pr .chkd [v0, v24] fun v25=>pr (.ldd none 0 2) [v8, v25] fun v26=>pr (.ld none 0) [v12] fun v27=>pr (.bin .eql .no) [v26, v27] fun v28=>vif v28 (pr (.cat []) [] fun v29=>pr (.cat [some 32]) [(.agg (repl 32 (.int .u8 0)))] fun v30=>some (.tup [v30, .int .i64 1, v4, v5, v6])) (pr (.bin .add .no) [v3, .int .i64 1] fun v29=>Γ 10144 28 [v0, v1, v2, v29, v4, v5, v6, v7, v8]))) (pr (.bin .add .no) [v3, .int .i64 1] fun v17=>Γ 10144 28 [v0, v1, v2, v17, v4, v5, v6, v7, v8]))) (Γ 10144 65 [v0, v0, v0, .int .i64 0, v4, v5, v6, v7, v8])
theorem s.zq26_h0_28 (e : Ev) (Γ : Gam) (v0 v1 v2 v3 v4 v5 v6 v7 v8 : V) : stp e Γ 10144 28 [v0, v1, v2, v3, v4, v5, v6, v7, v8] = y.zq26_h0_28 Γ v0 v1 v2 v3 v4 v5 v6 v7 v8 := by kernel_rfl
theorem w.zq26_h0_28 (e : Ev) (v0 v1 v2 v3 v4 v5 v6 v7 v8 : V) : vl e 10144 28 [v0, v1, v2, v3, v4, v5, v6, v7, v8] = y.zq26_h0_28 (vl e) v0 v1 v2 v3 v4 v5 v6 v7 v8 := Zac (s.zq26_h0_28 e _ v0 v1 v2 v3 v4 v5 v6 v7 v8)
noncomputable def y.zq26_h0_65 (Γ : Gam) (v0 v1 v2 v3 v4 v5 v6 v7 v8 : V) : Option V :=
 pr (.bin .lss .no) [v3, v2] fun v9=>vif v9 (pr .chkd [v1, v3] fun v10=>pr (.ldd (some 2) 0 2) [v8, v10] fun v11=>pr (.cat [some 2]) [v11] fun v12=>pr (.ld none 1) [v12] fun v13=>pr (.len true) [v13] fun v14=>pr (.bin .gtr .no) [v14, .int .i64 32768] fun v15=>vif v15 (pr (.cat []) [] fun v16=>pr (.cat [some 32]) [(.agg (repl 32 (.int .u8 0)))] fun v17=>some (.tup [v17, .int .i64 3, v4, v5, v6])) (pr (.bin .add .no) [v3, .int .i64 1] fun v16=>Γ 10144 65 [v0, v1, v2, v16, v4, v5, v6, v7, v8])) (ch Γ 10336 [.str [], .int .i64 0, v0, v8, v4, v5, v6] fun v10=>pr (.ext 0) [v10] fun v11=>pr (.ext 1) [v10] fun v12=>pr (.ext 2) [v10] fun v13=>pr (.ext 3) [v10] fun v14=>pr (.ext 4) [v10] fun v15=>pr (.ext 5) [v10] fun v16=>pr (.cat [some 32]) [v11] fun v17=>some (.tup [v17, v12, v14, v15, v16]))
theorem s.zq26_h0_65 (e : Ev) (Γ : Gam) (v0 v1 v2 v3 v4 v5 v6 v7 v8 : V) : stp e Γ 10144 65 [v0, v1, v2, v3, v4, v5, v6, v7, v8] = y.zq26_h0_65 Γ v0 v1 v2 v3 v4 v5 v6 v7 v8 := by kernel_rfl
theorem w.zq26_h0_65 (e : Ev) (v0 v1 v2 v3 v4 v5 v6 v7 v8 : V) : vl e 10144 65 [v0, v1, v2, v3, v4, v5, v6, v7, v8] = y.zq26_h0_65 (vl e) v0 v1 v2 v3 v4 v5 v6 v7 v8 := Zac (s.zq26_h0_65 e _ v0 v1 v2 v3 v4 v5 v6 v7 v8)
noncomputable def y.zq49_h0 (Γ : Gam) (v0 v1 v2 : V) : Option V :=
 ch Γ 10784 [v0, v1, v2] fun v4=>pr (.ext 0) [v4] fun v5=>pr (.ext 1) [v4] fun v6=>pr (.bin .eql .no) [v5, (.int .i64 (-1))] fun v7=>vif v7 (some (.tup [v0, v6])) (pr (.bin .add .no) [v5, .int .i64 1] fun v8=>Γ 10864 18 [v0, v1, v5, v8, v6])
theorem s.zq49_h0 (e : Ev) (Γ : Gam) (v0 v1 v2 : V) : stp e Γ 10864 1 [v0, v1, v2] = y.zq49_h0 Γ v0 v1 v2 := by kernel_rfl
theorem w.zq49_h0 (e : Ev) (v0 v1 v2 : V) : vl e 10864 1 [v0, v1, v2] = y.zq49_h0 (vl e) v0 v1 v2 := Zac (s.zq49_h0 e _ v0 v1 v2)
noncomputable def y.zq49_h0_18 (Γ : Gam) (v0 v1 v2 v3 v4 : V) : Option V :=
 pr (.bin .lss .no) [v3, v0] fun v5=>vif v5 (pr .chkd [v0, v3] fun v6=>pr (.ldd none 0 1) [v4, v6] fun v7=>cv Γ v1 [v7] fun v8=>pr (.un .not) [v8] fun v9=>vif v9 (pr .chkd [v0, v2] fun v10=>pr (.std 1 0 1) [v4, v10, v7] fun v11=>pr (.bin .add .no) [v2, .int .i64 1] fun v12=>pr (.bin .add .no) [v3, .int .i64 1] fun v13=>Γ 10864 18 [v0, v1, v12, v13, v11]) (pr (.bin .add .no) [v3, .int .i64 1] fun v10=>Γ 10864 18 [v0, v1, v2, v10, v4])) (pr .chkd [v0, v2] fun v6=>pr (.clrx (.str [])) [v4, v0, v6] fun v7=>pr .chkl [v0, v2] fun v8=>some (.tup [v8, v7]))
theorem s.zq49_h0_18 (e : Ev) (Γ : Gam) (v0 v1 v2 v3 v4 : V) : stp e Γ 10864 18 [v0, v1, v2, v3, v4] = y.zq49_h0_18 Γ v0 v1 v2 v3 v4 := by kernel_rfl
theorem w.zq49_h0_18 (e : Ev) (v0 v1 v2 v3 v4 : V) : vl e 10864 18 [v0, v1, v2, v3, v4] = y.zq49_h0_18 (vl e) v0 v1 v2 v3 v4 := Zac (s.zq49_h0_18 e _ v0 v1 v2 v3 v4)
noncomputable def y.zq26_h1 (Γ : Gam) (v0 v1 v2 v3 v4 : V) : Option V :=
 pr (.bin .gtr .no) [v0, .int .i64 512] fun v5=>vif v5 (pr (.cat []) [] fun v6=>pr (.cat [some 32]) [(.agg (repl 32 (.int .u8 0)))] fun v7=>some (.tup [v7, .int .i64 3, v1, v2, v3, v4])) (ch Γ 10241 [v0, v1] fun v6=>pr (.ext 0) [v6] fun v7=>pr (.ext 1) [v6] fun v8=>pr (.ext 2) [v6] fun v9=>ch Γ 10256 [v7, .fn 17 [], v9] fun v10=>Γ 10145 28 [v7, v7, v7, .int .i64 0, v8, v2, v3, v4, (.agg (repl 32 (.int .u8 0))), v10])
theorem s.zq26_h1 (e : Ev) (Γ : Gam) (v0 v1 v2 v3 v4 : V) : stp e Γ 10145 1 [v0, v1, v2, v3, v4] = y.zq26_h1 Γ v0 v1 v2 v3 v4 := by kernel_rfl
theorem w.zq26_h1 (e : Ev) (v0 v1 v2 v3 v4 : V) : vl e 10145 1 [v0, v1, v2, v3, v4] = y.zq26_h1 (vl e) v0 v1 v2 v3 v4 := Zac (s.zq26_h1 e _ v0 v1 v2 v3 v4)
noncomputable def y.zq26_h1_28 (Γ : Gam) (v0 v1 v2 v3 v4 v5 v6 v7 v8 v9 : V) : Option V :=
 pr (.bin .lss .no) [v3, v2] fun v10=>vif v10 (pr .chkd [v1, v3] fun v11=>pr (.ldd (some 2) 0 2) [v9, v11] fun v12=>pr (.cat [some 2]) [v12] fun v13=>pr (.ld none 0) [v13] fun v14=>ca Γ 19 [v14] fun v15=>pr (.un .not) [v15] fun v16=>vif v16 (pr (.cat []) [] fun v17=>pr (.cat [some 32]) [(.agg (repl 32 (.int .u8 0)))] fun v18=>some (.tup [v18, .int .i64 1, v4, v5, v6, v7])) (pr (.bin .gtr .no) [v3, .int .i64 0] fun v17=>vif v17 (pr (.bin .sub .no) [v3, .int .i64 1] fun v18=>pr .chkd [v0, v18] fun v19=>pr (.ldd none 0 2) [v9, v19] fun v20=>pr (.ld none 0) [v13] fun v21=>ca Γ 20 [v20, v21] fun v22=>pr (.ext 0) [v22] fun v23=>pr (.ext 1) [v22] fun v24=>vif v24 (pr (.cat []) [] fun v25=>pr (.cat [some 32]) [(.agg (repl 32 (.int .u8 0)))] fun v26=>some (.tup [v26, .int .i64 1, v4, v5, v6, v7])) (pr (.bin .sub .no) [v3, .int .i64 1] fun v25=>pr .chkd [v0, v25] fun v26=>pr (.ldd none 0 2) [v9, v26] fun v27=>pr (.ld none 0) [v13] fun v28=>pr (.bin .eql .no) [v27, v28] fun v29=>vif v29 (pr (.cat []) [] fun v30=>pr (.cat [some 32]) [(.agg (repl 32 (.int .u8 0)))] fun v31=>some (.tup [v31, .int .i64 1, v4, v5, v6, v7])) (pr (.bin .add .no) [v3, .int .i64 1] fun v30=>Γ 10145 28 [v0, v1, v2, v30, v4, v5, v6, v7, v8, v9]))) (pr (.bin .add .no) [v3, .int .i64 1] fun v18=>Γ 10145 28 [v0, v1, v2, v18, v4, v5, v6, v7, v8, v9]))) (Γ 10145 65 [v0, v0, v0, .int .i64 0, v4, v5, v6, v7, v8, v9])
theorem s.zq26_h1_28 (e : Ev) (Γ : Gam) (v0 v1 v2 v3 v4 v5 v6 v7 v8 v9 : V) : stp e Γ 10145 28 [v0, v1, v2, v3, v4, v5, v6, v7, v8, v9] = y.zq26_h1_28 Γ v0 v1 v2 v3 v4 v5 v6 v7 v8 v9 := by kernel_rfl
theorem w.zq26_h1_28 (e : Ev) (v0 v1 v2 v3 v4 v5 v6 v7 v8 v9 : V) : vl e 10145 28 [v0, v1, v2, v3, v4, v5, v6, v7, v8, v9] = y.zq26_h1_28 (vl e) v0 v1 v2 v3 v4 v5 v6 v7 v8 v9 := Zac (s.zq26_h1_28 e _ v0 v1 v2 v3 v4 v5 v6 v7 v8 v9)
end Go.Proofs.YtpmgdngjbdkdfaaDoor
namespace Go.Proofs.YtpmgdngjbdkdfaaDoor
open Go.Abs
noncomputable def y.zq26_h1_65 (Γ : Gam) (v0 v1 v2 v3 v4 v5 v6 v7 v8 v9 : V) : Option V :=
 pr (.bin .lss .no) [v3, v2] fun v10=>vif v10 (pr .chkd [v1, v3] fun v11=>pr (.ldd (some 2) 0 2) [v9, v11] fun v12=>pr (.cat [some 2]) [v12] fun v13=>pr (.ld none 1) [v13] fun v14=>pr (.len true) [v14] fun v15=>pr (.bin .gtr .no) [v15, .int .i64 32768] fun v16=>vif v16 (pr (.cat []) [] fun v17=>pr (.cat [some 32]) [(.agg (repl 32 (.int .u8 0)))] fun v18=>some (.tup [v18, .int .i64 3, v4, v5, v6, v7])) (pr (.bin .add .no) [v3, .int .i64 1] fun v17=>Γ 10145 65 [v0, v1, v2, v17, v4, v5, v6, v7, v8, v9])) (ch Γ 10336 [.str [], .int .i64 0, v0, v9, v5, v6, v7] fun v11=>pr (.ext 0) [v11] fun v12=>pr (.ext 1) [v11] fun v13=>pr (.ext 2) [v11] fun v14=>pr (.ext 3) [v11] fun v15=>pr (.ext 4) [v11] fun v16=>pr (.ext 5) [v11] fun v17=>pr (.cat [some 32]) [v12] fun v18=>some (.tup [v18, v13, v4, v15, v16, v17]))
theorem s.zq26_h1_65 (e : Ev) (Γ : Gam) (v0 v1 v2 v3 v4 v5 v6 v7 v8 v9 : V) : stp e Γ 10145 65 [v0, v1, v2, v3, v4, v5, v6, v7, v8, v9] = y.zq26_h1_65 Γ v0 v1 v2 v3 v4 v5 v6 v7 v8 v9 := by kernel_rfl
theorem w.zq26_h1_65 (e : Ev) (v0 v1 v2 v3 v4 v5 v6 v7 v8 v9 : V) : vl e 10145 65 [v0, v1, v2, v3, v4, v5, v6, v7, v8, v9] = y.zq26_h1_65 (vl e) v0 v1 v2 v3 v4 v5 v6 v7 v8 v9 := Zac (s.zq26_h1_65 e _ v0 v1 v2 v3 v4 v5 v6 v7 v8 v9)
noncomputable def y.zq45_h0 (Γ : Gam) (v0 : V) : Option V :=
 vamb v0 (some (.tup [.int .i64 0, .agg []])) (pr (.rapp 2) [.agg [], .int .i64 0, v0] fun v3=>pr (.rlen 2) [.int .i64 0, v0] fun v4=>some (.tup [v4, v3]))
theorem s.zq45_h0 (e : Ev) (Γ : Gam) (v0 : V) : stp e Γ 10240 1 [v0] = y.zq45_h0 Γ v0 := by kernel_rfl
theorem w.zq45_h0 (e : Ev) (v0 : V) : vl e 10240 1 [v0] = y.zq45_h0 (vl e) v0 := Zac (s.zq45_h0 e _ v0)
noncomputable def y.zq50_h0 (Γ : Gam) (v0 v1 v2 : V) : Option V :=
 Γ 10784 8 [v0, v1, v0, .int .i64 0, v2]
theorem s.zq50_h0 (e : Ev) (Γ : Gam) (v0 v1 v2 : V) : stp e Γ 10784 1 [v0, v1, v2] = y.zq50_h0 Γ v0 v1 v2 := by kernel_rfl
theorem w.zq50_h0 (e : Ev) (v0 v1 v2 : V) : vl e 10784 1 [v0, v1, v2] = y.zq50_h0 (vl e) v0 v1 v2 := Zac (s.zq50_h0 e _ v0 v1 v2)
noncomputable def y.zq50_h0_8 (Γ : Gam) (v0 v1 v2 v3 v4 : V) : Option V :=
 pr (.bin .lss .no) [v3, v2] fun v5=>vif v5 (pr .chkd [v0, v3] fun v6=>pr (.ldd none 0 1) [v4, v6] fun v7=>cv Γ v1 [v7] fun v8=>vif v8 (some (.tup [v3, v4])) (pr (.bin .add .no) [v3, .int .i64 1] fun v9=>Γ 10784 8 [v0, v1, v2, v9, v4])) (some (.tup [(.int .i64 (-1)), v4]))
theorem s.zq50_h0_8 (e : Ev) (Γ : Gam) (v0 v1 v2 v3 v4 : V) : stp e Γ 10784 8 [v0, v1, v2, v3, v4] = y.zq50_h0_8 Γ v0 v1 v2 v3 v4 := by kernel_rfl
theorem w.zq50_h0_8 (e : Ev) (v0 v1 v2 v3 v4 : V) : vl e 10784 8 [v0, v1, v2, v3, v4] = y.zq50_h0_8 (vl e) v0 v1 v2 v3 v4 := Zac (s.zq50_h0_8 e _ v0 v1 v2 v3 v4)
noncomputable def y.zq45_h1 (Γ : Gam) (v0 v1 : V) : Option V :=
 pr .chkd [v0, .int .i64 0] fun v3=>pr (.snapv 2) [v1, .int .i64 0, v0] fun v5=>pr (.rapp 2) [.agg [], .int .i64 0, v5] fun v6=>pr (.rlen 2) [.int .i64 0, v5] fun v7=>some (.tup [v7, v1, v6])
theorem s.zq45_h1 (e : Ev) (Γ : Gam) (v0 v1 : V) : stp e Γ 10241 1 [v0, v1] = y.zq45_h1 Γ v0 v1 := by kernel_rfl
theorem w.zq45_h1 (e : Ev) (v0 v1 : V) : vl e 10241 1 [v0, v1] = y.zq45_h1 (vl e) v0 v1 := Zac (s.zq45_h1 e _ v0 v1)
noncomputable def y.zq31_h0 (Γ : Gam) (v0 v1 v2 : V) : Option V :=
 pr .mln [v0] fun v3=>pr .mln [v1] fun v4=>pr (.bin .add .no) [v3, v4] fun v5=>pr .mln [v2] fun v6=>pr (.bin .add .no) [v5, v6] fun v7=>some (.tup [v7, v0, v1, v2])
theorem s.zq31_h0 (e : Ev) (Γ : Gam) (v0 v1 v2 : V) : stp e Γ 10176 1 [v0, v1, v2] = y.zq31_h0 Γ v0 v1 v2 := by kernel_rfl
theorem w.zq31_h0 (e : Ev) (v0 v1 v2 : V) : vl e 10176 1 [v0, v1, v2] = y.zq31_h0 (vl e) v0 v1 v2 := Zac (s.zq31_h0 e _ v0 v1 v2)
noncomputable def y.zq28_h0 (Γ : Gam) (v0 v1 v2 v3 : V) : Option V :=
 pr .scs [v0] fun v4=>pr (.ld (some 32) 0) [v4] fun v5=>ch Γ 10384 [.str [], v5, .int .i64 1, .sl false 33 [], .int .i64 4096, v1, v2, v3] fun v6=>pr (.ext 0) [v6] fun v7=>pr (.ext 1) [v6] fun v8=>pr (.ext 2) [v6] fun v9=>pr (.ext 3) [v6] fun v10=>pr (.ext 4) [v6] fun v11=>pr (.ext 5) [v6] fun v12=>pr (.bin .neq .no) [v7, .int .i64 0] fun v13=>vif v13 (some (.tup [.sl false 33 [], v7, v10, v11, v12])) (some (.tup [v8, .int .i64 0, v10, v11, v12]))
theorem s.zq28_h0 (e : Ev) (Γ : Gam) (v0 v1 v2 v3 : V) : stp e Γ 10192 1 [v0, v1, v2, v3] = y.zq28_h0 Γ v0 v1 v2 v3 := by kernel_rfl
theorem w.zq28_h0 (e : Ev) (v0 v1 v2 v3 : V) : vl e 10192 1 [v0, v1, v2, v3] = y.zq28_h0 (vl e) v0 v1 v2 v3 := Zac (s.zq28_h0 e _ v0 v1 v2 v3)
noncomputable def y.zq30_h0 (Γ : Gam) (v0 v1 v2 v3 : V) : Option V :=
 ca Γ 26 [v0] fun v4=>pr (.ext 0) [v4] fun v5=>pr (.ext 1) [v4] fun v6=>pr (.bin .neq .no) [v6, .int .i64 0] fun v7=>vif v7 (pr (.cat []) [] fun v8=>pr (.cat [some 32]) [(.agg (repl 32 (.int .u8 0)))] fun v9=>some (.tup [v9, v6, v1, v2, v3])) (ca Γ 27 [v5] fun v8=>pr (.cat [some 32]) [v8] fun v9=>pr (.mup (true, (repl 32 ((some .u8, true))))) [v2, v9, v5] fun v10=>pr (.cat [some 32]) [v9] fun v11=>some (.tup [v11, .int .i64 0, v1, v10, v3]))
theorem s.zq30_h0 (e : Ev) (Γ : Gam) (v0 v1 v2 v3 : V) : stp e Γ 10224 1 [v0, v1, v2, v3] = y.zq30_h0 Γ v0 v1 v2 v3 := by kernel_rfl
theorem w.zq30_h0 (e : Ev) (v0 v1 v2 v3 : V) : vl e 10224 1 [v0, v1, v2, v3] = y.zq30_h0 (vl e) v0 v1 v2 v3 := Zac (s.zq30_h0 e _ v0 v1 v2 v3)
noncomputable def y.zq51_h0 (Γ : Gam) (v0 v1 v2 : V) : Option V :=
 ch Γ 10449 [v0, v0, v1, v2] fun v3=>some v3
theorem s.zq51_h0 (e : Ev) (Γ : Gam) (v0 v1 v2 : V) : stp e Γ 10256 1 [v0, v1, v2] = y.zq51_h0 Γ v0 v1 v2 := by kernel_rfl
theorem w.zq51_h0 (e : Ev) (v0 v1 v2 : V) : vl e 10256 1 [v0, v1, v2] = y.zq51_h0 (vl e) v0 v1 v2 := Zac (s.zq51_h0 e _ v0 v1 v2)
noncomputable def y.zq34_h0 (Γ : Gam) (v0 v1 v2 v3 v4 v5 v6 v7 : V) : Option V :=
 pr .scs [v1] fun v8=>pr (.bin .gtr .no) [v2, .int .i64 16] fun v9=>vif v9 (some (.tup [.int .i64 8, v3, v4, v5, v6, v7])) (pr (.ld (some 32) 0) [v8] fun v10=>ch Γ 10208 [v10, v5, v6, v7] fun v11=>pr (.ext 0) [v11] fun v12=>pr (.ext 1) [v11] fun v13=>pr (.ext 2) [v11] fun v14=>pr (.ext 3) [v11] fun v15=>pr (.ext 4) [v11] fun v16=>pr (.bin .neq .no) [v13, .int .i64 0] fun v17=>vif v17 (some (.tup [v13, v3, v4, v14, v15, v16])) (pr (.len false) [v12] fun v18=>Γ 10384 26 [v0, v2, v12, v18, .int .i64 0, v3, v4, v14, v15, v16]))
theorem s.zq34_h0 (e : Ev) (Γ : Gam) (v0 v1 v2 v3 v4 v5 v6 v7 : V) : stp e Γ 10384 1 [v0, v1, v2, v3, v4, v5, v6, v7] = y.zq34_h0 Γ v0 v1 v2 v3 v4 v5 v6 v7 := by kernel_rfl
theorem w.zq34_h0 (e : Ev) (v0 v1 v2 v3 v4 v5 v6 v7 : V) : vl e 10384 1 [v0, v1, v2, v3, v4, v5, v6, v7] = y.zq34_h0 (vl e) v0 v1 v2 v3 v4 v5 v6 v7 := Zac (s.zq34_h0 e _ v0 v1 v2 v3 v4 v5 v6 v7)
noncomputable def y.zq34_h0_26 (Γ : Gam) (v0 v1 v2 v3 v4 v5 v6 v7 v8 v9 : V) : Option V :=
 pr (.bin .lss .no) [v4, v3] fun v10=>vif v10 (pr (.elem 34) [v2, v4] fun v11=>pr (.ld (some 34) 0) [v11] fun v12=>pr (.cat [some 34]) [v12] fun v13=>pr (.bin .eql .no) [v6, .int .i64 0] fun v14=>vif v14 (some (.tup [.int .i64 3, v5, v6, v7, v8, v9])) (pr (.bin .sub .no) [v6, .int .i64 1] fun v15=>pr (.ld none 0) [v13] fun v16=>pr (.bsl 1) [v0, v16] fun v17=>ca Γ 37 [v17] fun v18=>pr (.ld none 1) [v13] fun v19=>pr (.un .not) [v19] fun v20=>vif v20 (pr (.ld (some 32) 2) [v13] fun v21=>pr (.cat [none, some 32]) [v18, v21] fun v22=>pr (.bsl 33) [v22] fun v23=>pr (.app 33) [v5, v23] fun v24=>pr (.bin .add .no) [v4, .int .i64 1] fun v25=>Γ 10384 26 [v0, v1, v2, v3, v25, v24, v15, v7, v8, v9]) (pr (.ld (some 32) 2) [v13] fun v21=>pr (.bin .add .no) [v1, .int .i64 1] fun v22=>ch Γ 10384 [v18, v21, v22, v5, v15, v7, v8, v9] fun v23=>pr (.ext 0) [v23] fun v24=>pr (.ext 1) [v23] fun v25=>pr (.ext 2) [v23] fun v26=>pr (.ext 3) [v23] fun v27=>pr (.ext 4) [v23] fun v28=>pr (.ext 5) [v23] fun v29=>pr (.bin .neq .no) [v24, .int .i64 0] fun v30=>vif v30 (some (.tup [v24, v25, v26, v27, v28, v29])) (pr (.bin .add .no) [v4, .int .i64 1] fun v31=>Γ 10384 26 [v0, v1, v2, v3, v31, v25, v26, v27, v28, v29])))) (some (.tup [.int .i64 0, v5, v6, v7, v8, v9]))
theorem s.zq34_h0_26 (e : Ev) (Γ : Gam) (v0 v1 v2 v3 v4 v5 v6 v7 v8 v9 : V) : stp e Γ 10384 26 [v0, v1, v2, v3, v4, v5, v6, v7, v8, v9] = y.zq34_h0_26 Γ v0 v1 v2 v3 v4 v5 v6 v7 v8 v9 := by kernel_rfl
theorem w.zq34_h0_26 (e : Ev) (v0 v1 v2 v3 v4 v5 v6 v7 v8 v9 : V) : vl e 10384 26 [v0, v1, v2, v3, v4, v5, v6, v7, v8, v9] = y.zq34_h0_26 (vl e) v0 v1 v2 v3 v4 v5 v6 v7 v8 v9 := Zac (s.zq34_h0_26 e _ v0 v1 v2 v3 v4 v5 v6 v7 v8 v9)
noncomputable def y.zq54_h1 (Γ : Gam) (v0 v1 v2 v3 : V) : Option V :=
 Γ 10449 8 [v0, v1, v2, .int .i64 20, .int .i64 0, .int .i64 20, v3]
theorem s.zq54_h1 (e : Ev) (Γ : Gam) (v0 v1 v2 v3 : V) : stp e Γ 10449 1 [v0, v1, v2, v3] = y.zq54_h1 Γ v0 v1 v2 v3 := by kernel_rfl
theorem w.zq54_h1 (e : Ev) (v0 v1 v2 v3 : V) : vl e 10449 1 [v0, v1, v2, v3] = y.zq54_h1 (vl e) v0 v1 v2 v3 := Zac (s.zq54_h1 e _ v0 v1 v2 v3)
noncomputable def y.zq54_h1_8 (Γ : Gam) (v0 v1 v2 v3 v4 v5 v6 : V) : Option V :=
 pr (.bin .leq .no) [v5, v1] fun v7=>vif v7 (ch Γ 10721 [v0, v4, v5, v2, v6] fun v8=>pr (.bin .add .no) [v5, v3] fun v10=>Γ 10449 8 [v0, v1, v2, v3, v5, v10, v8]) (ch Γ 10721 [v0, v4, v1, v2, v6] fun v8=>Γ 10449 24 [v0, v1, v2, v3, v8])
theorem s.zq54_h1_8 (e : Ev) (Γ : Gam) (v0 v1 v2 v3 v4 v5 v6 : V) : stp e Γ 10449 8 [v0, v1, v2, v3, v4, v5, v6] = y.zq54_h1_8 Γ v0 v1 v2 v3 v4 v5 v6 := by kernel_rfl
theorem w.zq54_h1_8 (e : Ev) (v0 v1 v2 v3 v4 v5 v6 : V) : vl e 10449 8 [v0, v1, v2, v3, v4, v5, v6] = y.zq54_h1_8 (vl e) v0 v1 v2 v3 v4 v5 v6 := Zac (s.zq54_h1_8 e _ v0 v1 v2 v3 v4 v5 v6)
noncomputable def y.zq54_h1_24 (Γ : Gam) (v0 v1 v2 v3 v4 : V) : Option V :=
 pr (.bin .lss .no) [v3, v1] fun v5=>vif v5 (pr (.bin .mul .no) [.int .i64 2, v3] fun v6=>Γ 10449 36 [v0, v1, v2, v3, .int .i64 0, v6, v4]) (some v4)
theorem s.zq54_h1_24 (e : Ev) (Γ : Gam) (v0 v1 v2 v3 v4 : V) : stp e Γ 10449 24 [v0, v1, v2, v3, v4] = y.zq54_h1_24 Γ v0 v1 v2 v3 v4 := by kernel_rfl
theorem w.zq54_h1_24 (e : Ev) (v0 v1 v2 v3 v4 : V) : vl e 10449 24 [v0, v1, v2, v3, v4] = y.zq54_h1_24 (vl e) v0 v1 v2 v3 v4 := Zac (s.zq54_h1_24 e _ v0 v1 v2 v3 v4)
noncomputable def y.zq54_h1_36 (Γ : Gam) (v0 v1 v2 v3 v4 v5 v6 : V) : Option V :=
 pr (.bin .leq .no) [v5, v1] fun v7=>vif v7 (pr (.bin .add .no) [v4, v3] fun v8=>ch Γ 10737 [v0, v4, v8, v5, v2, v6] fun v9=>pr (.bin .mul .no) [.int .i64 2, v3] fun v11=>pr (.bin .add .no) [v5, v11] fun v12=>Γ 10449 36 [v0, v1, v2, v3, v5, v12, v9]) (pr (.bin .add .no) [v4, v3] fun v8=>pr (.bin .lss .no) [v8, v1] fun v9=>vif v9 (ch Γ 10737 [v0, v4, v8, v1, v2, v6] fun v10=>pr (.bin .mul .no) [v3, .int .i64 2] fun v12=>Γ 10449 24 [v0, v1, v2, v12, v10]) (pr (.bin .mul .no) [v3, .int .i64 2] fun v10=>Γ 10449 24 [v0, v1, v2, v10, v6]))
theorem s.zq54_h1_36 (e : Ev) (Γ : Gam) (v0 v1 v2 v3 v4 v5 v6 : V) : stp e Γ 10449 36 [v0, v1, v2, v3, v4, v5, v6] = y.zq54_h1_36 Γ v0 v1 v2 v3 v4 v5 v6 := by kernel_rfl
theorem w.zq54_h1_36 (e : Ev) (v0 v1 v2 v3 v4 v5 v6 : V) : vl e 10449 36 [v0, v1, v2, v3, v4, v5, v6] = y.zq54_h1_36 (vl e) v0 v1 v2 v3 v4 v5 v6 := Zac (s.zq54_h1_36 e _ v0 v1 v2 v3 v4 v5 v6)
noncomputable def y.zq32_h0 (Γ : Gam) (v0 v1 v2 v3 : V) : Option V :=
 pr .scs [v0] fun v4=>pr (.ld (some 32) 0) [v4] fun v5=>pr (.mlk (true, (repl 32 ((some .u8, true)))) (.str []) true) [v2, v5] fun v6=>pr (.ext 0) [v6] fun v7=>pr (.ext 1) [v6] fun v8=>pr (.un .not) [v8] fun v9=>vif v9 (some (.tup [.sl false 34 [], .int .i64 5, v1, v2, v3])) (ca Γ 25 [v7] fun v10=>pr (.ext 0) [v10] fun v11=>pr (.ext 1) [v10] fun v12=>some (.tup [v11, v12, v1, v2, v3]))
theorem s.zq32_h0 (e : Ev) (Γ : Gam) (v0 v1 v2 v3 : V) : stp e Γ 10208 1 [v0, v1, v2, v3] = y.zq32_h0 Γ v0 v1 v2 v3 := by kernel_rfl
theorem w.zq32_h0 (e : Ev) (v0 v1 v2 v3 : V) : vl e 10208 1 [v0, v1, v2, v3] = y.zq32_h0 (vl e) v0 v1 v2 v3 := Zac (s.zq32_h0 e _ v0 v1 v2 v3)
noncomputable def y.zq52_h1 (Γ : Gam) (v0 v1 v2 v3 v4 : V) : Option V :=
 pr (.bin .add .no) [v1, .int .i64 1] fun v5=>Γ 10721 5 [v0, v1, v2, v3, v5, v4]
theorem s.zq52_h1 (e : Ev) (Γ : Gam) (v0 v1 v2 v3 v4 : V) : stp e Γ 10721 1 [v0, v1, v2, v3, v4] = y.zq52_h1 Γ v0 v1 v2 v3 v4 := by kernel_rfl
theorem w.zq52_h1 (e : Ev) (v0 v1 v2 v3 v4 : V) : vl e 10721 1 [v0, v1, v2, v3, v4] = y.zq52_h1 (vl e) v0 v1 v2 v3 v4 := Zac (s.zq52_h1 e _ v0 v1 v2 v3 v4)
noncomputable def y.zq52_h1_5 (Γ : Gam) (v0 v1 v2 v3 v4 v5 : V) : Option V :=
 pr (.bin .lss .no) [v4, v2] fun v6=>vif v6 (Γ 10721 17 [v0, v1, v2, v3, v4, v4, v5]) (some v5)
theorem s.zq52_h1_5 (e : Ev) (Γ : Gam) (v0 v1 v2 v3 v4 v5 : V) : stp e Γ 10721 5 [v0, v1, v2, v3, v4, v5] = y.zq52_h1_5 Γ v0 v1 v2 v3 v4 v5 := by kernel_rfl
theorem w.zq52_h1_5 (e : Ev) (v0 v1 v2 v3 v4 v5 : V) : vl e 10721 5 [v0, v1, v2, v3, v4, v5] = y.zq52_h1_5 (vl e) v0 v1 v2 v3 v4 v5 := Zac (s.zq52_h1_5 e _ v0 v1 v2 v3 v4 v5)
noncomputable def y.zq52_h1_17 (Γ : Gam) (v0 v1 v2 v3 v4 v5 v6 : V) : Option V :=
 pr (.bin .gtr .no) [v5, v1] fun v7=>vif v7 (pr .chkd [v0, v5] fun v8=>pr (.ldd (some 2) 0 2) [v6, v8] fun v9=>pr (.bin .sub .no) [v5, .int .i64 1] fun v10=>pr .chkd [v0, v10] fun v11=>pr (.ldd (some 2) 0 2) [v6, v11] fun v12=>cv Γ v3 [v9, v12] fun v13=>pr (.bin .lss .no) [v13, .int .i64 0] fun v14=>vif v14 (pr (.bin .sub .no) [v5, .int .i64 1] fun v15=>pr (.bin .sub .no) [v5, .int .i64 1] fun v16=>pr .chkd [v0, v16] fun v17=>pr (.ldd (some 2) 0 2) [v6, v17] fun v18=>pr .chkd [v0, v5] fun v19=>pr (.ldd (some 2) 0 2) [v6, v19] fun v20=>pr .chkd [v0, v5] fun v21=>pr (.std 2 0 2) [v6, v21, v18] fun v22=>pr .chkd [v0, v15] fun v23=>pr (.std 2 0 2) [v22, v23, v20] fun v24=>pr (.bin .sub .no) [v5, .int .i64 1] fun v25=>Γ 10721 17 [v0, v1, v2, v3, v4, v25, v24]) (pr (.bin .add .no) [v4, .int .i64 1] fun v15=>Γ 10721 5 [v0, v1, v2, v3, v15, v6])) (pr (.bin .add .no) [v4, .int .i64 1] fun v8=>Γ 10721 5 [v0, v1, v2, v3, v8, v6])
theorem s.zq52_h1_17 (e : Ev) (Γ : Gam) (v0 v1 v2 v3 v4 v5 v6 : V) : stp e Γ 10721 17 [v0, v1, v2, v3, v4, v5, v6] = y.zq52_h1_17 Γ v0 v1 v2 v3 v4 v5 v6 := by kernel_rfl
theorem w.zq52_h1_17 (e : Ev) (v0 v1 v2 v3 v4 v5 v6 : V) : vl e 10721 17 [v0, v1, v2, v3, v4, v5, v6] = y.zq52_h1_17 (vl e) v0 v1 v2 v3 v4 v5 v6 := Zac (s.zq52_h1_17 e _ v0 v1 v2 v3 v4 v5 v6)
noncomputable def y.zq56_h1 (Γ : Gam) (v0 v1 v2 v3 v4 v5 : V) : Option V :=
 pr (.bin .sub .no) [v2, v1] fun v6=>pr (.bin .eql .no) [v6, .int .i64 1] fun v7=>vif v7 (Γ 10737 12 [v0, v1, v4, v2, v3, v5]) (pr (.bin .sub .no) [v3, v2] fun v8=>pr (.bin .eql .no) [v8, .int .i64 1] fun v9=>vif v9 (Γ 10737 54 [v0, v2, v4, v1, v2, v5]) (pr (.bin .add .no) [v1, v3] fun v10=>pr (.i2i .u64) [v10] fun v11=>pr (.bin .shr .no) [v11, .int .u64 1] fun v12=>pr (.i2i .i64) [v12] fun v13=>pr (.bin .add .no) [v13, v2] fun v14=>pr (.bin .gtr .no) [v2, v13] fun v15=>vif v15 (pr (.bin .sub .no) [v14, v3] fun v16=>Γ 10737 102 [v0, v1, v2, v3, v4, v13, v14, v16, v13, v5]) (Γ 10737 102 [v0, v1, v2, v3, v4, v13, v14, v1, v2, v5])))
theorem s.zq56_h1 (e : Ev) (Γ : Gam) (v0 v1 v2 v3 v4 v5 : V) : stp e Γ 10737 1 [v0, v1, v2, v3, v4, v5] = y.zq56_h1 Γ v0 v1 v2 v3 v4 v5 := by kernel_rfl
theorem w.zq56_h1 (e : Ev) (v0 v1 v2 v3 v4 v5 : V) : vl e 10737 1 [v0, v1, v2, v3, v4, v5] = y.zq56_h1 (vl e) v0 v1 v2 v3 v4 v5 := Zac (s.zq56_h1 e _ v0 v1 v2 v3 v4 v5)
noncomputable def y.zq56_h1_12 (Γ : Gam) (v0 v1 v2 v3 v4 v5 : V) : Option V :=
 pr (.bin .lss .no) [v3, v4] fun v6=>vif v6 (pr (.bin .add .no) [v3, v4] fun v7=>pr (.i2i .u64) [v7] fun v8=>pr (.bin .shr .no) [v8, .int .u64 1] fun v9=>pr (.i2i .i64) [v9] fun v10=>pr .chkd [v0, v10] fun v11=>pr (.ldd (some 2) 0 2) [v5, v11] fun v12=>pr .chkd [v0, v1] fun v13=>pr (.ldd (some 2) 0 2) [v5, v13] fun v14=>cv Γ v2 [v12, v14] fun v15=>pr (.bin .lss .no) [v15, .int .i64 0] fun v16=>vif v16 (pr (.bin .add .no) [v10, .int .i64 1] fun v17=>Γ 10737 12 [v0, v1, v2, v17, v4, v5]) (Γ 10737 12 [v0, v1, v2, v3, v10, v5])) (Γ 10737 31 [v0, v3, v1, v5])
theorem s.zq56_h1_12 (e : Ev) (Γ : Gam) (v0 v1 v2 v3 v4 v5 : V) : stp e Γ 10737 12 [v0, v1, v2, v3, v4, v5] = y.zq56_h1_12 Γ v0 v1 v2 v3 v4 v5 := by kernel_rfl
theorem w.zq56_h1_12 (e : Ev) (v0 v1 v2 v3 v4 v5 : V) : vl e 10737 12 [v0, v1, v2, v3, v4, v5] = y.zq56_h1_12 (vl e) v0 v1 v2 v3 v4 v5 := Zac (s.zq56_h1_12 e _ v0 v1 v2 v3 v4 v5)
noncomputable def y.zq56_h1_31 (Γ : Gam) (v0 v1 v2 v3 : V) : Option V :=
 pr (.bin .sub .no) [v1, .int .i64 1] fun v4=>pr (.bin .lss .no) [v2, v4] fun v5=>vif v5 (pr (.bin .add .no) [v2, .int .i64 1] fun v6=>pr (.bin .add .no) [v2, .int .i64 1] fun v7=>pr .chkd [v0, v7] fun v8=>pr (.ldd (some 2) 0 2) [v3, v8] fun v9=>pr .chkd [v0, v2] fun v10=>pr (.ldd (some 2) 0 2) [v3, v10] fun v11=>pr .chkd [v0, v2] fun v12=>pr (.std 2 0 2) [v3, v12, v9] fun v13=>pr .chkd [v0, v6] fun v14=>pr (.std 2 0 2) [v13, v14, v11] fun v15=>pr (.bin .add .no) [v2, .int .i64 1] fun v16=>Γ 10737 31 [v0, v1, v16, v15]) (some v3)
theorem s.zq56_h1_31 (e : Ev) (Γ : Gam) (v0 v1 v2 v3 : V) : stp e Γ 10737 31 [v0, v1, v2, v3] = y.zq56_h1_31 Γ v0 v1 v2 v3 := by kernel_rfl
theorem w.zq56_h1_31 (e : Ev) (v0 v1 v2 v3 : V) : vl e 10737 31 [v0, v1, v2, v3] = y.zq56_h1_31 (vl e) v0 v1 v2 v3 := Zac (s.zq56_h1_31 e _ v0 v1 v2 v3)
noncomputable def y.zq56_h1_54 (Γ : Gam) (v0 v1 v2 v3 v4 v5 : V) : Option V :=
 pr (.bin .lss .no) [v3, v4] fun v6=>vif v6 (pr (.bin .add .no) [v3, v4] fun v7=>pr (.i2i .u64) [v7] fun v8=>pr (.bin .shr .no) [v8, .int .u64 1] fun v9=>pr (.i2i .i64) [v9] fun v10=>pr .chkd [v0, v1] fun v11=>pr (.ldd (some 2) 0 2) [v5, v11] fun v12=>pr .chkd [v0, v10] fun v13=>pr (.ldd (some 2) 0 2) [v5, v13] fun v14=>cv Γ v2 [v12, v14] fun v15=>pr (.bin .lss .no) [v15, .int .i64 0] fun v16=>pr (.un .not) [v16] fun v17=>vif v17 (pr (.bin .add .no) [v10, .int .i64 1] fun v18=>Γ 10737 54 [v0, v1, v2, v18, v4, v5]) (Γ 10737 54 [v0, v1, v2, v3, v10, v5])) (Γ 10737 73 [v0, v3, v1, v5])
theorem s.zq56_h1_54 (e : Ev) (Γ : Gam) (v0 v1 v2 v3 v4 v5 : V) : stp e Γ 10737 54 [v0, v1, v2, v3, v4, v5] = y.zq56_h1_54 Γ v0 v1 v2 v3 v4 v5 := by kernel_rfl
theorem w.zq56_h1_54 (e : Ev) (v0 v1 v2 v3 v4 v5 : V) : vl e 10737 54 [v0, v1, v2, v3, v4, v5] = y.zq56_h1_54 (vl e) v0 v1 v2 v3 v4 v5 := Zac (s.zq56_h1_54 e _ v0 v1 v2 v3 v4 v5)
noncomputable def y.zq56_h1_73 (Γ : Gam) (v0 v1 v2 v3 : V) : Option V :=
 pr (.bin .gtr .no) [v2, v1] fun v4=>vif v4 (pr (.bin .sub .no) [v2, .int .i64 1] fun v5=>pr (.bin .sub .no) [v2, .int .i64 1] fun v6=>pr .chkd [v0, v6] fun v7=>pr (.ldd (some 2) 0 2) [v3, v7] fun v8=>pr .chkd [v0, v2] fun v9=>pr (.ldd (some 2) 0 2) [v3, v9] fun v10=>pr .chkd [v0, v2] fun v11=>pr (.std 2 0 2) [v3, v11, v8] fun v12=>pr .chkd [v0, v5] fun v13=>pr (.std 2 0 2) [v12, v13, v10] fun v14=>pr (.bin .sub .no) [v2, .int .i64 1] fun v15=>Γ 10737 73 [v0, v1, v15, v14]) (some v3)
theorem s.zq56_h1_73 (e : Ev) (Γ : Gam) (v0 v1 v2 v3 : V) : stp e Γ 10737 73 [v0, v1, v2, v3] = y.zq56_h1_73 Γ v0 v1 v2 v3 := by kernel_rfl
theorem w.zq56_h1_73 (e : Ev) (v0 v1 v2 v3 : V) : vl e 10737 73 [v0, v1, v2, v3] = y.zq56_h1_73 (vl e) v0 v1 v2 v3 := Zac (s.zq56_h1_73 e _ v0 v1 v2 v3)
noncomputable def y.zq56_h1_102 (Γ : Gam) (v0 v1 v2 v3 v4 v5 v6 v7 v8 v9 : V) : Option V :=
 pr (.bin .sub .no) [v6, .int .i64 1] fun v10=>Γ 10737 106 [v0, v1, v2, v3, v4, v5, v6, v7, v8, v10, v9]
theorem s.zq56_h1_102 (e : Ev) (Γ : Gam) (v0 v1 v2 v3 v4 v5 v6 v7 v8 v9 : V) : stp e Γ 10737 102 [v0, v1, v2, v3, v4, v5, v6, v7, v8, v9] = y.zq56_h1_102 Γ v0 v1 v2 v3 v4 v5 v6 v7 v8 v9 := by kernel_rfl
theorem w.zq56_h1_102 (e : Ev) (v0 v1 v2 v3 v4 v5 v6 v7 v8 v9 : V) : vl e 10737 102 [v0, v1, v2, v3, v4, v5, v6, v7, v8, v9] = y.zq56_h1_102 (vl e) v0 v1 v2 v3 v4 v5 v6 v7 v8 v9 := Zac (s.zq56_h1_102 e _ v0 v1 v2 v3 v4 v5 v6 v7 v8 v9)
noncomputable def y.zq56_h1_106 (Γ : Gam) (v0 v1 v2 v3 v4 v5 v6 v7 v8 v9 v10 : V) : Option V :=
 pr (.bin .lss .no) [v7, v8] fun v11=>vif v11 (pr (.bin .add .no) [v7, v8] fun v12=>pr (.i2i .u64) [v12] fun v13=>pr (.bin .shr .no) [v13, .int .u64 1] fun v14=>pr (.i2i .i64) [v14] fun v15=>pr (.bin .sub .no) [v9, v15] fun v16=>pr .chkd [v0, v16] fun v17=>pr (.ldd (some 2) 0 2) [v10, v17] fun v18=>pr .chkd [v0, v15] fun v19=>pr (.ldd (some 2) 0 2) [v10, v19] fun v20=>cv Γ v4 [v18, v20] fun v21=>pr (.bin .lss .no) [v21, .int .i64 0] fun v22=>pr (.un .not) [v22] fun v23=>vif v23 (pr (.bin .add .no) [v15, .int .i64 1] fun v24=>Γ 10737 106 [v0, v1, v2, v3, v4, v5, v6, v24, v8, v9, v10]) (Γ 10737 106 [v0, v1, v2, v3, v4, v5, v6, v7, v15, v9, v10])) (pr (.bin .sub .no) [v6, v7] fun v12=>pr (.bin .lss .no) [v7, v2] fun v13=>vif v13 (pr (.bin .lss .no) [v2, v12] fun v14=>vif v14 (ch Γ 10977 [v0, v7, v2, v12, v4, v10] fun v15=>Γ 10737 129 [v0, v1, v3, v4, v5, v7, v12, v15]) (Γ 10737 129 [v0, v1, v3, v4, v5, v7, v12, v10])) (Γ 10737 129 [v0, v1, v3, v4, v5, v7, v12, v10]))
theorem s.zq56_h1_106 (e : Ev) (Γ : Gam) (v0 v1 v2 v3 v4 v5 v6 v7 v8 v9 v10 : V) : stp e Γ 10737 106 [v0, v1, v2, v3, v4, v5, v6, v7, v8, v9, v10] = y.zq56_h1_106 Γ v0 v1 v2 v3 v4 v5 v6 v7 v8 v9 v10 := by kernel_rfl
theorem w.zq56_h1_106 (e : Ev) (v0 v1 v2 v3 v4 v5 v6 v7 v8 v9 v10 : V) : vl e 10737 106 [v0, v1, v2, v3, v4, v5, v6, v7, v8, v9, v10] = y.zq56_h1_106 (vl e) v0 v1 v2 v3 v4 v5 v6 v7 v8 v9 v10 := Zac (s.zq56_h1_106 e _ v0 v1 v2 v3 v4 v5 v6 v7 v8 v9 v10)
noncomputable def y.zq56_h1_129 (Γ : Gam) (v0 v1 v2 v3 v4 v5 v6 v7 : V) : Option V :=
 pr (.bin .lss .no) [v1, v5] fun v8=>vif v8 (pr (.bin .lss .no) [v5, v4] fun v9=>vif v9 (ch Γ 10737 [v0, v1, v5, v4, v3, v7] fun v10=>pr (.bin .lss .no) [v4, v6] fun v12=>vif v12 (pr (.bin .lss .no) [v6, v2] fun v13=>vif v13 (ch Γ 10737 [v0, v4, v6, v2, v3, v10] fun v14=>some v14) (some v10)) (some v10)) (pr (.bin .lss .no) [v4, v6] fun v10=>vif v10 (pr (.bin .lss .no) [v6, v2] fun v11=>vif v11 (ch Γ 10737 [v0, v4, v6, v2, v3, v7] fun v12=>some v12) (some v7)) (some v7))) (pr (.bin .lss .no) [v4, v6] fun v9=>vif v9 (pr (.bin .lss .no) [v6, v2] fun v10=>vif v10 (ch Γ 10737 [v0, v4, v6, v2, v3, v7] fun v11=>some v11) (some v7)) (some v7))
theorem s.zq56_h1_129 (e : Ev) (Γ : Gam) (v0 v1 v2 v3 v4 v5 v6 v7 : V) : stp e Γ 10737 129 [v0, v1, v2, v3, v4, v5, v6, v7] = y.zq56_h1_129 Γ v0 v1 v2 v3 v4 v5 v6 v7 := by kernel_rfl
theorem w.zq56_h1_129 (e : Ev) (v0 v1 v2 v3 v4 v5 v6 v7 : V) : vl e 10737 129 [v0, v1, v2, v3, v4, v5, v6, v7] = y.zq56_h1_129 (vl e) v0 v1 v2 v3 v4 v5 v6 v7 := Zac (s.zq56_h1_129 e _ v0 v1 v2 v3 v4 v5 v6 v7)
noncomputable def y.zq53_h1 (Γ : Gam) (v0 v1 v2 v3 v4 v5 : V) : Option V :=
 pr (.bin .sub .no) [v2, v1] fun v6=>pr (.bin .sub .no) [v3, v2] fun v7=>Γ 10977 8 [v0, v2, v4, v6, v7, v5]
theorem s.zq53_h1 (e : Ev) (Γ : Gam) (v0 v1 v2 v3 v4 v5 : V) : stp e Γ 10977 1 [v0, v1, v2, v3, v4, v5] = y.zq53_h1 Γ v0 v1 v2 v3 v4 v5 := by kernel_rfl
theorem w.zq53_h1 (e : Ev) (v0 v1 v2 v3 v4 v5 : V) : vl e 10977 1 [v0, v1, v2, v3, v4, v5] = y.zq53_h1 (vl e) v0 v1 v2 v3 v4 v5 := Zac (s.zq53_h1 e _ v0 v1 v2 v3 v4 v5)
noncomputable def y.zq53_h1_8 (Γ : Gam) (v0 v1 v2 v3 v4 v5 : V) : Option V :=
 pr (.bin .neq .no) [v3, v4] fun v6=>vif v6 (pr (.bin .gtr .no) [v3, v4] fun v7=>vif v7 (pr (.bin .sub .no) [v1, v3] fun v8=>ch Γ 11153 [v0, v8, v1, v4, v2, v5] fun v9=>pr (.bin .sub .no) [v3, v4] fun v11=>Γ 10977 8 [v0, v1, v2, v11, v4, v9]) (pr (.bin .sub .no) [v1, v3] fun v8=>pr (.bin .add .no) [v1, v4] fun v9=>pr (.bin .sub .no) [v9, v3] fun v10=>ch Γ 11153 [v0, v8, v10, v3, v2, v5] fun v11=>pr (.bin .sub .no) [v4, v3] fun v13=>Γ 10977 8 [v0, v1, v2, v3, v13, v11])) (pr (.bin .sub .no) [v1, v3] fun v7=>ch Γ 11153 [v0, v7, v1, v3, v2, v5] fun v8=>some v8)
theorem s.zq53_h1_8 (e : Ev) (Γ : Gam) (v0 v1 v2 v3 v4 v5 : V) : stp e Γ 10977 8 [v0, v1, v2, v3, v4, v5] = y.zq53_h1_8 Γ v0 v1 v2 v3 v4 v5 := by kernel_rfl
theorem w.zq53_h1_8 (e : Ev) (v0 v1 v2 v3 v4 v5 : V) : vl e 10977 8 [v0, v1, v2, v3, v4, v5] = y.zq53_h1_8 (vl e) v0 v1 v2 v3 v4 v5 := Zac (s.zq53_h1_8 e _ v0 v1 v2 v3 v4 v5)
noncomputable def y.zq55_h1 (Γ : Gam) (v0 v1 v2 v3 v4 v5 : V) : Option V :=
 Γ 11153 5 [v0, v1, v2, v3, .int .i64 0, v5]
theorem s.zq55_h1 (e : Ev) (Γ : Gam) (v0 v1 v2 v3 v4 v5 : V) : stp e Γ 11153 1 [v0, v1, v2, v3, v4, v5] = y.zq55_h1 Γ v0 v1 v2 v3 v4 v5 := by kernel_rfl
theorem w.zq55_h1 (e : Ev) (v0 v1 v2 v3 v4 v5 : V) : vl e 11153 1 [v0, v1, v2, v3, v4, v5] = y.zq55_h1 (vl e) v0 v1 v2 v3 v4 v5 := Zac (s.zq55_h1 e _ v0 v1 v2 v3 v4 v5)
noncomputable def y.zq55_h1_5 (Γ : Gam) (v0 v1 v2 v3 v4 v5 : V) : Option V :=
 pr (.bin .lss .no) [v4, v3] fun v6=>vif v6 (pr (.bin .add .no) [v1, v4] fun v7=>pr (.bin .add .no) [v2, v4] fun v8=>pr (.bin .add .no) [v2, v4] fun v9=>pr .chkd [v0, v9] fun v10=>pr (.ldd (some 2) 0 2) [v5, v10] fun v11=>pr (.bin .add .no) [v1, v4] fun v12=>pr .chkd [v0, v12] fun v13=>pr (.ldd (some 2) 0 2) [v5, v13] fun v14=>pr .chkd [v0, v7] fun v15=>pr (.std 2 0 2) [v5, v15, v11] fun v16=>pr .chkd [v0, v8] fun v17=>pr (.std 2 0 2) [v16, v17, v14] fun v18=>pr (.bin .add .no) [v4, .int .i64 1] fun v19=>Γ 11153 5 [v0, v1, v2, v3, v19, v18]) (some v5)
theorem s.zq55_h1_5 (e : Ev) (Γ : Gam) (v0 v1 v2 v3 v4 v5 : V) : stp e Γ 11153 5 [v0, v1, v2, v3, v4, v5] = y.zq55_h1_5 Γ v0 v1 v2 v3 v4 v5 := by kernel_rfl
theorem w.zq55_h1_5 (e : Ev) (v0 v1 v2 v3 v4 v5 : V) : vl e 11153 5 [v0, v1, v2, v3, v4, v5] = y.zq55_h1_5 (vl e) v0 v1 v2 v3 v4 v5 := Zac (s.zq55_h1_5 e _ v0 v1 v2 v3 v4 v5)
noncomputable def y.zq33_h0 (Γ : Gam) (v0 v1 v2 v3 v4 v5 v6 : V) : Option V :=
 Γ 10336 8 [v0, v1, v2, .sl false 34 [], v3, v4, v5, v6, (.agg (repl 32 (.int .u8 0)))]
theorem s.zq33_h0 (e : Ev) (Γ : Gam) (v0 v1 v2 v3 v4 v5 v6 : V) : stp e Γ 10336 1 [v0, v1, v2, v3, v4, v5, v6] = y.zq33_h0 Γ v0 v1 v2 v3 v4 v5 v6 := by kernel_rfl
theorem w.zq33_h0 (e : Ev) (v0 v1 v2 v3 v4 v5 v6 : V) : vl e 10336 1 [v0, v1, v2, v3, v4, v5, v6] = y.zq33_h0 (vl e) v0 v1 v2 v3 v4 v5 v6 := Zac (s.zq33_h0 e _ v0 v1 v2 v3 v4 v5 v6)
noncomputable def y.zq33_h0_8 (Γ : Gam) (v0 v1 v2 v3 v4 v5 v6 v7 v8 : V) : Option V :=
 pr .vlen [v1, v2] fun v9=>pr (.bin .gtr .no) [v9, .int .i64 0] fun v10=>vif v10 (pr .vidx [v1, v2, .int .i64 0] fun v11=>pr (.ldd none 0 2) [v4, v11] fun v12=>ca Γ 20 [v0, v12] fun v13=>pr (.ext 0) [v13] fun v14=>pr (.ext 1) [v13] fun v15=>ca Γ 30 [v14] fun v16=>pr (.elem 1) [v16, .int .i64 0] fun v17=>pr (.ld none 0) [v17] fun v18=>pr (.bin .eql .no) [v18, v14] fun v19=>vif v19 (pr .vidx [v1, v2, .int .i64 0] fun v20=>pr (.ldd none 1 2) [v4, v20] fun v21=>ch Γ 10576 [v21, v5, v6, v7] fun v22=>pr (.ext 0) [v22] fun v23=>pr (.ext 1) [v22] fun v24=>pr (.ext 2) [v22] fun v25=>pr (.ext 3) [v22] fun v26=>pr (.ext 4) [v22] fun v27=>pr (.cat [some 32]) [v23] fun v28=>pr (.bin .neq .no) [v24, .int .i64 0] fun v29=>vif v29 (pr (.cat [some 32]) [v28] fun v30=>some (.tup [v30, v24, v4, v25, v26, v27])) (pr (.cat [none, some 32]) [v18, v28] fun v30=>pr (.cat [none, none, some 32]) [v18, .bool false, v28] fun v31=>pr (.bsl 34) [v31] fun v32=>pr (.app 34) [v3, v32] fun v33=>pr .vadd [v1, v2, .int .i64 1] fun v34=>Γ 10336 8 [v0, v34, v2, v33, v4, v25, v26, v27, v8])) (pr (.bsl 1) [v0, v18] fun v20=>ca Γ 37 [v20] fun v21=>Γ 10336 44 [v0, v1, v2, v3, v18, v21, .int .i64 0, v4, v5, v6, v7, v8])) (ch Γ 10224 [v3, v5, v6, v7] fun v11=>pr (.ext 0) [v11] fun v12=>pr (.ext 1) [v11] fun v13=>pr (.ext 2) [v11] fun v14=>pr (.ext 3) [v11] fun v15=>pr (.ext 4) [v11] fun v16=>pr (.cat [some 32]) [v12] fun v17=>some (.tup [v17, v13, v4, v14, v15, v16]))
theorem s.zq33_h0_8 (e : Ev) (Γ : Gam) (v0 v1 v2 v3 v4 v5 v6 v7 v8 : V) : stp e Γ 10336 8 [v0, v1, v2, v3, v4, v5, v6, v7, v8] = y.zq33_h0_8 Γ v0 v1 v2 v3 v4 v5 v6 v7 v8 := by kernel_rfl
theorem w.zq33_h0_8 (e : Ev) (v0 v1 v2 v3 v4 v5 v6 v7 v8 : V) : vl e 10336 8 [v0, v1, v2, v3, v4, v5, v6, v7, v8] = y.zq33_h0_8 (vl e) v0 v1 v2 v3 v4 v5 v6 v7 v8 := Zac (s.zq33_h0_8 e _ v0 v1 v2 v3 v4 v5 v6 v7 v8)
noncomputable def y.zq33_h0_44 (Γ : Gam) (v0 v1 v2 v3 v4 v5 v6 v7 v8 v9 v10 v11 : V) : Option V :=
 pr .vlen [v1, v2] fun v12=>pr (.bin .lss .no) [v6, v12] fun v13=>vif v13 (pr .vidx [v1, v2, v6] fun v14=>pr (.ldd none 0 2) [v7, v14] fun v15=>ca Γ 20 [v5, v15] fun v16=>pr (.ext 0) [v16] fun v17=>pr (.ext 1) [v16] fun v18=>pr (.un .not) [v18] fun v19=>vif v19 (pr .vadd [v1, v2, v6] fun v20=>ch Γ 10336 [v5, v1, v20, v7, v8, v9, v10] fun v21=>pr (.ext 0) [v21] fun v22=>pr (.ext 1) [v21] fun v23=>pr (.ext 2) [v21] fun v24=>pr (.ext 3) [v21] fun v25=>pr (.ext 4) [v21] fun v26=>pr (.ext 5) [v21] fun v27=>pr (.cat [some 32]) [v22] fun v28=>pr (.bin .neq .no) [v23, .int .i64 0] fun v29=>vif v29 (pr (.cat [some 32]) [v28] fun v30=>some (.tup [v30, v23, v24, v25, v26, v27])) (pr (.cat [none, none, some 32]) [v4, .bool true, v28] fun v30=>pr (.bsl 34) [v30] fun v31=>pr (.app 34) [v3, v31] fun v32=>pr .vadd [v1, v2, v6] fun v33=>Γ 10336 8 [v0, v33, v2, v32, v24, v25, v26, v27, v11])) (pr (.bin .add .no) [v6, .int .i64 1] fun v20=>Γ 10336 44 [v0, v1, v2, v3, v4, v5, v20, v7, v8, v9, v10, v11])) (pr .vadd [v1, v2, v6] fun v14=>ch Γ 10336 [v5, v1, v14, v7, v8, v9, v10] fun v15=>pr (.ext 0) [v15] fun v16=>pr (.ext 1) [v15] fun v17=>pr (.ext 2) [v15] fun v18=>pr (.ext 3) [v15] fun v19=>pr (.ext 4) [v15] fun v20=>pr (.ext 5) [v15] fun v21=>pr (.cat [some 32]) [v16] fun v22=>pr (.bin .neq .no) [v17, .int .i64 0] fun v23=>vif v23 (pr (.cat [some 32]) [v22] fun v24=>some (.tup [v24, v17, v18, v19, v20, v21])) (pr (.cat [none, none, some 32]) [v4, .bool true, v22] fun v24=>pr (.bsl 34) [v24] fun v25=>pr (.app 34) [v3, v25] fun v26=>pr .vadd [v1, v2, v6] fun v27=>Γ 10336 8 [v0, v27, v2, v26, v18, v19, v20, v21, v11]))
theorem s.zq33_h0_44 (e : Ev) (Γ : Gam) (v0 v1 v2 v3 v4 v5 v6 v7 v8 v9 v10 v11 : V) : stp e Γ 10336 44 [v0, v1, v2, v3, v4, v5, v6, v7, v8, v9, v10, v11] = y.zq33_h0_44 Γ v0 v1 v2 v3 v4 v5 v6 v7 v8 v9 v10 v11 := by kernel_rfl
theorem w.zq33_h0_44 (e : Ev) (v0 v1 v2 v3 v4 v5 v6 v7 v8 v9 v10 v11 : V) : vl e 10336 44 [v0, v1, v2, v3, v4, v5, v6, v7, v8, v9, v10, v11] = y.zq33_h0_44 (vl e) v0 v1 v2 v3 v4 v5 v6 v7 v8 v9 v10 v11 := Zac (s.zq33_h0_44 e _ v0 v1 v2 v3 v4 v5 v6 v7 v8 v9 v10 v11)
end Go.Proofs.YtpmgdngjbdkdfaaDoor
namespace Go.Proofs.YtpmgdngjbdkdfaaDoor
open Go.Abs
noncomputable def y.zq29_h0 (Γ : Gam) (v0 v1 v2 v3 : V) : Option V :=
 pr (.len true) [v0] fun v4=>pr (.bin .gtr .no) [v4, .int .i64 32768] fun v5=>vif v5 (pr (.cat []) [] fun v6=>pr (.cat [some 32]) [(.agg (repl 32 (.int .u8 0)))] fun v7=>some (.tup [v7, .int .i64 3, v1, v2, v3])) (ca Γ 52 [v0] fun v6=>pr (.cat [some 32]) [v6] fun v7=>pr (.mup (true, (repl 32 ((some .u8, true))))) [v1, v7, v0] fun v8=>pr (.cat [some 32]) [v7] fun v9=>some (.tup [v9, .int .i64 0, v8, v2, v3]))
theorem s.zq29_h0 (e : Ev) (Γ : Gam) (v0 v1 v2 v3 : V) : stp e Γ 10576 1 [v0, v1, v2, v3] = y.zq29_h0 Γ v0 v1 v2 v3 := by kernel_rfl
theorem w.zq29_h0 (e : Ev) (v0 v1 v2 v3 : V) : vl e 10576 1 [v0, v1, v2, v3] = y.zq29_h0 (vl e) v0 v1 v2 v3 := Zac (s.zq29_h0 e _ v0 v1 v2 v3)
end Go.Proofs.YtpmgdngjbdkdfaaDoor

namespace Go.Proofs.YtpmgdngjbdkdfaaDoor
open Go.Abs
theorem Zay {i n : Nat} (h : i < n) (hn : n <= 1152921504606846976) : IntKind.i64.wrap ((i : Int) + 1) = ((i + 1 : Nat) : Int) := w64 _ (by omega)
abbrev I (n : Int) : V := .int .i64 n
abbrev strs (l : List Bytes) : V := .sl false 1 (l.map .str)
theorem Zui {l : List Bytes} {x : Bytes} (h : l.length + 1 <= Lim) : evp (.app 1) [strs l, .sl false 1 [.str x]] = some (strs (l ++ [x])) := by
 rw [strs, Zwf (by simpa using h)]; simp
theorem Zl9 {x : Bytes} : evp (.bsl 1) [.str x] = some (.sl false 1 [.str x]) := rfl
theorem Zh6 {l : List Bytes} {i : Nat} (h : i < l.length) : evp (.elem 1) [strs l, .int .i64 i] = some (.str l[i]) := Zmq (by simp [h])
theorem Zxi {x : Bytes} {l : List Bytes} : evp (.elem 1) [strs (x :: l), .int .i64 0] = some (.str x) := Zmq (i := 0) rfl
theorem Zis {x : Bytes} : evp (.ld none 0) [.str x] = some (.str x) := rfl
theorem Zqa {l : List Bytes} : evp (.len false) [strs l] = some (.int .i64 l.length) := by rw [strs, Zu4, Xcp]
theorem Zt8 {o : Option V} {v : V} {k : V -> Option V} {R : Option V} (h : o = some v) (hk : k v = R) : o.bind k = R := by rw [h]; exact hk
theorem Zof {k : IntKind} {a b : Int} : evp (.bin .mul .no) [.int k a, .int k b] = some (.int k (k.wrap (a * b))) := by simp [evp, abin, aint]
theorem Z5m {k : Nat} (h0 : k ≠ 0) {n : Nat} (h : n < 4611686018427387904) : evp (.bin .quo .no) [.int .i64 (n : Int), .int .i64 (k : Int)] = some (.int .i64 ((n / k : Nat) : Int)) := by
 show (if (k : Int) = 0 then none else some (V.int .i64 (IntKind.i64.wrap ((n : Int).tdiv (k : Int))))) = _
 have := Nat.div_le_self n k
 have e1 : (n : Int).tdiv (k : Int) = ((n / k : Nat) : Int) := (Int.ofNat_tdiv n k).symm
 rw [if_neg (by omega), e1]
 generalize n / k = q at *
 rw [w64 _ (by omega)]
theorem Z5o {k : Nat} (h0 : k ≠ 0) {n : Nat} : evp (.bin .rem .no) [.int .i64 (n : Int), .int .i64 (k : Int)] = some (.int .i64 ((n % k : Nat) : Int)) := by
 show (if (k : Int) = 0 then none else some (V.int .i64 ((n : Int).tmod (k : Int)))) = _
 rw [if_neg (by omega), <- Int.ofNat_tmod]
abbrev bsl (l : Bytes) : V := .sl false 1 (l.map byteV)
theorem Zed : ∀ l : Bytes, Zbq (l.map byteV) = some l
 | [] => rfl
 | c :: r => by
  have ih := Zed r
  have hc : UInt8.ofNat ((c.toNat : Int).toNat) = c := by rw [Xbe]; exact UInt8.ofNat_toNat
  show ((Zbq (r.map byteV)).map (UInt8.ofNat ((c.toNat : Int).toNat) :: ·)) = _
  rw [ih, hc]; rfl
theorem Z2n {l : Bytes} : evp .b2s [bsl l] = some (.str l) := by
 show (Zbq (l.map byteV)).map V.str = _
 rw [Zed]; rfl
theorem Zaq {n i : Nat} (h : i < n) : evp .chkd [I n, I i] = some (I i) := by
 show (if 0 <= (i : Int) /\ (i : Int) < (n : Int) then some (V.int .i64 (i : Int)) else none) = _
 rw [if_pos (by omega)]
theorem Zz3 {n i : Nat} (h : i <= n) : evp .chkl [I n, I i] = some (I i) := by
 show (if 0 <= (i : Int) /\ (i : Int) <= (n : Int) then some (V.int .i64 (i : Int)) else none) = _
 rw [if_pos (by omega)]
end Go.Proofs.YtpmgdngjbdkdfaaDoor
namespace Go.Proofs.YtpmgdngjbdkdfaaDoor
open Go.Abs
set_option maxRecDepth 10000
variable {e : Ev}
abbrev Fi := Bytes × Bytes
abbrev fv (f : Fi) : V := .agg [.str f.1, .str f.2]
def fl : List Fi -> List V
 | [] => []
 | f :: r => .str f.1 :: .str f.2 :: fl r
abbrev aggF (l : List Fi) : V := .agg (fl l)
abbrev Zat (l : List Fi) : V := .sl false 2 (l.map fv)
theorem Zmj : ∀ l : List Fi, (fl l).length = 2 * l.length
 | [] => rfl
 | f :: r => by simp only [fl, Xau, Zmj r]; omega
theorem Zuh : ∀ l m : List Fi, fl (l ++ m) = fl l ++ fl m
 | [], m => rfl
 | f :: r, m => by simp only [Xbf, fl, Zuh r m]
theorem Zfl : ∀ (l : List Fi) (i : Nat), (fl l).drop (i * 2) = fl (l.drop i)
 | l, 0 => by simp
 | [], i + 1 => by simp [fl]
 | f :: r, i + 1 => by
  have := Zfl r i
  rw [show (i + 1) * 2 = i * 2 + 1 + 1 by omega]
  simpa only [fl, Xdw] using this
theorem Zol : ∀ (l : List Fi) (i : Nat), (fl l).take (i * 2) = fl (l.take i)
 | l, 0 => by simp [fl]
 | [], i + 1 => by simp [fl]
 | f :: r, i + 1 => by
  have := Zol r i
  rw [show (i + 1) * 2 = i * 2 + 1 + 1 by omega]
  simp only [fl, Xct, this]
theorem Zb3 {l : List Fi} {i : Nat} (h : i < l.length) : evp (.ldd (some 2) 0 2) [aggF l, I i] = some (fv l[i]) := by
 show Zak (some 2) (fl l) (0 + (i : Int).toNat * 2) = _
 have hd : (fl l).drop (i * 2) = .str l[i].1 :: .str l[i].2 :: fl (l.drop (i + 1)) := by rw [Zfl, Xao h]; rfl
 simp only [Zak, Xbe, Xan]
 rw [if_pos (by rw [Zmj]; omega), hd]; rfl
theorem Zr8 {l : List Fi} {i : Nat} (h : i < l.length) : evp (.ldd none 0 2) [aggF l, I i] = some (.str l[i].1) := by
 show (fl l)[0 + (i : Int).toNat * 2]? = _
 have hd : (fl l).drop (i * 2) = .str l[i].1 :: .str l[i].2 :: fl (l.drop (i + 1)) := by rw [Zfl, Xao h]; rfl
 have := congrArg (fun z => z[0]?) hd
 simp only [Xb7, Xcq] at this
 simpa using this
theorem Z1m {l : List Fi} {i : Nat} (h : i < l.length) : evp (.ldd none 1 2) [aggF l, I i] = some (.str l[i].2) := by
 show (fl l)[1 + (i : Int).toNat * 2]? = _
 have hd : (fl l).drop (i * 2) = .str l[i].1 :: .str l[i].2 :: fl (l.drop (i + 1)) := by rw [Zfl, Xao h]; rfl
 have := congrArg (fun z => z[1]?) hd
 simp only [Xb7] at this
 rw [Xbe, Xd8]; simpa using this
theorem Zmw {l : List Fi} {i : Nat} {x : Fi} (h : i < l.length) : evp (.std 2 0 2) [aggF l, I i, fv x] = some (aggF (l.set i x)) := by
 show vSet 2 (0 + (i : Int).toNat * 2) (aggF l) (fv x) = _
 unfold vSet
 rw [if_pos ⟨rfl, rfl, by simp [V.cells, Zmj]; omega⟩]
 simp only [V.cells, Xan, Xbe, Zao, Xau, Xa5]
 rw [Zol, show i * 2 + (0 + 1 + 1) = (i + 1) * 2 by omega, Zfl, Xb8, if_pos h, aggF, Zuh]; simp only [fl, Xap, Xbf, Xbg]
theorem Zdq {a b : Nat} (h : a + b <= 1152921504606846976) : IntKind.i64.wrap ((a : Int) + (b : Int)) = ((a + b : Nat) : Int) := by
 rw [<- Xe7]; exact w64 _ (by omega)
theorem Zei {a b : Nat} (hb : b <= a) (h : a <= 1152921504606846976) : IntKind.i64.wrap ((a : Int) - (b : Int)) = ((a - b : Nat) : Int) := by
 rw [<- Int.ofNat_sub hb]; exact w64 _ (by omega)
theorem Zm5 {a : Nat} (hb : 1 <= a) (h : a <= 1152921504606846976) : IntKind.i64.wrap ((a : Int) - 1) = ((a - 1 : Nat) : Int) := Zei (b := 1) hb h
theorem Z05 {a b : Nat} (h : a * b <= 1152921504606846976) : IntKind.i64.wrap ((a : Int) * (b : Int)) = ((a * b : Nat) : Int) := by
 rw [<- Xei]; exact w64 _ (by omega)
theorem Znf {a : Nat} (h : a <= 1152921504606846976) : evp (.i2i .u64) [I a] = some (.int .u64 a) := by
 show some (V.int .u64 (IntKind.u64.wrap a)) = _
 have : IntKind.u64.wrap (a : Int) = a := by simp [IntKind.wrap, IntKind.signed, IntKind.bits]; omega
 rw [this]
theorem Zh7 {a : Nat} : evp (.bin .shr .no) [.int .u64 (a : Int), .int .u64 1] = some (.int .u64 ((a / 2 : Nat) : Int)) := by
 show (if (1 : Int) < 0 then none else some (V.int .u64 (Int.fdiv (a : Int) 2))) = _
 rw [if_neg (by omega), Xc1 _ (by omega)]
 rfl
theorem Zn6 {a : Nat} (h : a <= 1152921504606846976) : evp (.i2i .i64) [.int .u64 (a : Int)] = some (I a) := by
 show some (V.int .i64 (IntKind.i64.wrap a)) = _
 rw [w64 _ (by omega)]
theorem Zp1 {α : Type} {p : List α -> Prop} (h0 : p []) (h1 : ∀ l x, p l -> p (l ++ [x])) (l : List α) : p l := by
 rw [<- List.reverse_reverse l]
 generalize l.reverse = m
 induction m with
 | nil => exact h0
 | cons x m ih => rw [List.reverse_cons]; exact h1 _ _ ih
structure Ord (e : Ev) (G : Fi -> Prop) (cmp : Fi -> Fi -> Int) : Prop where
 run : ∀ a b, G a -> G b -> Zeg (vl e) (.fn 17 []) [fv a, fv b] = some (I (cmp a b))
 asy : ∀ a b, cmp a b < 0 -> ¬ cmp b a < 0
 tr : ∀ a b c, ¬ cmp b a < 0 -> ¬ cmp c b < 0 -> ¬ cmp c a < 0
abbrev Le (cmp : Fi -> Fi -> Int) (a b : Fi) : Prop := ¬ cmp b a < 0
abbrev So (cmp : Fi -> Fi -> Int) (l : List Fi) : Prop := l.Pairwise (Le cmp)
abbrev cmpV : V := .fn 17 []
section
variable {G : Fi -> Prop} {cmp : Fi -> Fi -> Int} (ho : Ord e G cmp)
include ho
theorem Zzy {a b c : Fi} (h1 : cmp a b < 0) (h2 : Le cmp b c) : cmp a c < 0 := by
 by_cases h : cmp a c < 0
 ·exact h
 ·exact absurd h1 (ho.tr b c a h2 h)
theorem Zpu {a b c : Fi} (h1 : Le cmp a b) (h2 : cmp b c < 0) : cmp a c < 0 := by
 by_cases h : cmp a c < 0
 ·exact h
 ·exact absurd h2 (ho.tr c a b h h1)
theorem v.ins17 (pre : List Fi) (b : Nat) (hb : b <= 1000000000) (i n : Nat) : ∀ (T1 T2 rest : List Fi) (x : Fi), (∀ f ∈ pre ++ (T1 ++ x :: T2) ++ rest, G f) -> So cmp (T1 ++ T2) -> (∀ t ∈ T2, cmp x t < 0) -> (pre ++ (T1 ++ x :: T2) ++ rest).length = n -> n <= 1000000000 -> i <= 1000000000 ->
  ∃ S, S.Perm (T1 ++ x :: T2) /\ So cmp S /\ vl e 10721 17 [I n, I pre.length, I b, cmpV, I i, I (pre.length + T1.length : Nat), aggF (pre ++ (T1 ++ x :: T2) ++ rest)] = vl e 10721 5 [I n, I pre.length, I b, cmpV, I (i + 1 : Nat), aggF (pre ++ S ++ rest)] := by
 intro T1
 induction T1 using Zp1 with
 | h0 =>
  intro T2 rest x hG hs hx hn hn2 hi
  refine ⟨x :: T2, by simp, ?_, ?_⟩
  ·rw [Xbg] at hs
   exact Xc6.2 ⟨fun t ht => ho.asy _ _ (hx t ht), hs⟩
  ·rw [w.zq52_h1_17]; unfold y.zq52_h1_17
   simp only [yy, if_neg (show ¬((pre.length : Int) < ((pre.length + 0 : Nat) : Int)) by omega), Xa5, Zay (show i < i + 1 by omega) (by omega)]
   rfl
 | h1 T1 u ih =>
  intro T2 rest x hG hs hx hn hn2 hi
  have hlen := hn
  simp only [Xai, Xau, Xa5] at hlen
  have hj : pre.length + (T1.length + 1) < (pre ++ ((T1 ++ [u]) ++ x :: T2) ++ rest).length := by rw [hn]; omega
  have gx : (pre ++ ((T1 ++ [u]) ++ x :: T2) ++ rest)[pre.length + (T1.length + 1)]'hj = x := by
   rw [Xb1 (show pre ++ ((T1 ++ [u]) ++ x :: T2) ++ rest = (pre ++ T1 ++ [u]) ++ x :: (T2 ++ rest) by simp)]
   rw [Xbs (by simp)]
   simp
  have gy : (pre ++ ((T1 ++ [u]) ++ x :: T2) ++ rest)[pre.length + T1.length]'(by omega) = u := by
   rw [Xb1 (show pre ++ ((T1 ++ [u]) ++ x :: T2) ++ rest = (pre ++ T1) ++ u :: (x :: T2 ++ rest) by simp)]
   rw [Xbs (by simp)]
   simp
  have hc := ho.run x u (hG x (by simp)) (hG u (by simp))
  have e1 : (pre.length + (T1.length + 1) : Nat) - 1 = pre.length + T1.length := by omega
  have c1 : evp .chkd [I n, I (pre.length + (T1.length + 1) : Nat)] = some (I (pre.length + (T1.length + 1) : Nat)) := Zaq (by omega)
  have c2 : evp .chkd [I n, I (pre.length + T1.length : Nat)] = some (I (pre.length + T1.length : Nat)) := Zaq (by omega)
  have l1 : evp (.ldd (some 2) 0 2) [aggF (pre ++ ((T1 ++ [u]) ++ x :: T2) ++ rest), I (pre.length + (T1.length + 1) : Nat)] = some (fv x) := by rw [Zb3 hj, gx]
  have l2 : evp (.ldd (some 2) 0 2) [aggF (pre ++ ((T1 ++ [u]) ++ x :: T2) ++ rest), I (pre.length + T1.length : Nat)] = some (fv u) := by rw [Zb3 (by omega), gy]
  have p1 : IntKind.i64.wrap (((pre.length + (T1.length + 1) : Nat) : Int) - 1) = ((pre.length + T1.length : Nat) : Int) := by rw [Zm5 (by omega) (by omega), e1]
  rw [w.zq52_h1_17]; unfold y.zq52_h1_17
  simp only [Xai, Xau, Xa5, Xan] at *
  by_cases hlt : cmp x u < 0
  ·have s1 : evp (.std 2 0 2) [aggF (pre ++ ((T1 ++ [u]) ++ x :: T2) ++ rest), I (pre.length + (T1.length + 1) : Nat), fv u] = some (aggF (pre ++ ((T1 ++ [u]) ++ u :: T2) ++ rest)) := by
    rw [Zmw hj]; congr 3
    rw [show pre ++ ((T1 ++ [u]) ++ x :: T2) ++ rest = (pre ++ T1 ++ [u]) ++ x :: (T2 ++ rest) by simp, Xcb _ _ (by simp)]
    simp
   have s2 : evp (.std 2 0 2) [aggF (pre ++ ((T1 ++ [u]) ++ u :: T2) ++ rest), I (pre.length + T1.length : Nat), fv x] = some (aggF (pre ++ (T1 ++ x :: (u :: T2)) ++ rest)) := by
    rw [Zmw (by simp)]; congr 3
    rw [show pre ++ ((T1 ++ [u]) ++ u :: T2) ++ rest = (pre ++ T1) ++ u :: (u :: T2 ++ rest) by simp, Xcb _ _ (by simp)]
    simp
   obtain ⟨S, q1, q2, q3⟩ := ih (u :: T2) rest x (fun f hf => hG f (by grind)) (by simpa using hs) (fun t ht => by
    rcases Xay.1 ht with rfl | ht
    ·exact hlt
    ·exact hx t ht) (by simp; omega) hn2 hi
   refine ⟨S, q1.trans (by simp only [Xap, Xdq]; exact (List.Perm.swap u x T2).append_left T1), q2, ?_⟩
   simp only [yy, if_pos (show (pre.length : Int) < ((pre.length + (T1.length + 1) : Nat) : Int) by omega), c1, c2, l1, l2, p1, cv, hc, if_pos hlt, s1, s2]
   exact q3
  ·refine ⟨(T1 ++ [u]) ++ x :: T2, .refl _, ?_, ?_⟩
   ·simp only [So, Xap, Xdq] at hs ⊢
    have h1 := Xch.1 hs
    have h2 := Xc6.1 h1.2.1
    refine Xch.2 ⟨h1.1, Xc6.2 ⟨fun t ht => ?_, Xc6.2 ⟨fun t ht => ho.asy _ _ (hx t ht), h2.2⟩⟩, fun a ha t ht => ?_⟩
    ·rcases Xay.1 ht with rfl | ht
     ·exact hlt
     ·exact h2.1 t ht
    ·have hay : Le cmp a u := h1.2.2 a ha u (by simp)
     rcases Xay.1 ht with rfl | ht
     ·exact hay
     ·rcases Xay.1 ht with rfl | ht
      ·exact ho.tr _ _ _ hay hlt
      ·exact h1.2.2 a ha t (by simp [ht])
   ·simp only [yy, if_pos (show (pre.length : Int) < ((pre.length + (T1.length + 1) : Nat) : Int) by omega), c1, c2, l1, l2, p1, cv, hc, if_neg hlt, Zay (show i < i + 1 by omega) (by omega)]
theorem v.ins5 (pre : List Fi) (b : Nat) (hb : b <= 1000000000) (n : Nat) (hn2 : n <= 1000000000) : ∀ (rest T post : List Fi), (∀ f ∈ pre ++ (T ++ rest) ++ post, G f) -> So cmp T -> (pre ++ (T ++ rest) ++ post).length = n -> pre.length + (T ++ rest).length = b ->
  ∃ S, S.Perm (T ++ rest) /\ So cmp S /\ vl e 10721 5 [I n, I pre.length, I b, cmpV, I (pre.length + T.length : Nat), aggF (pre ++ (T ++ rest) ++ post)] = some (aggF (pre ++ S ++ post)) := by
 intro rest
 induction rest with
 | nil =>
  intro T post hG hs hn hl
  refine ⟨T, by simp, hs, ?_⟩
  rw [w.zq52_h1_5]; unfold y.zq52_h1_5
  simp only [Xaw] at *
  simp only [yy, if_neg (show ¬(((pre.length + T.length : Nat) : Int) < (b : Int)) by omega)]
 | cons x rest ih =>
  intro T post hG hs hn hl
  simp only [Xai, Xau] at hl
  have hlen := hn
  simp only [Xai, Xau] at hlen
  have e0 : pre ++ (T ++ x :: rest) ++ post = pre ++ (T ++ x :: []) ++ (rest ++ post) := by simp
  obtain ⟨S, q1, q2, q3⟩ := v.ins17 ho pre b hb (pre.length + T.length) n T [] (rest ++ post) x (by rw [<- e0]; exact hG) (by simpa using hs) (by simp) (by rw [<- e0]; exact hn) hn2 (by omega)
  have hSl : S.length = T.length + 1 := by rw [q1.length_eq]; simp
  have e1 : pre ++ S ++ (rest ++ post) = pre ++ (S ++ rest) ++ post := by simp
  have hp : (S ++ rest).Perm (T ++ x :: rest) := (q1.append_right rest).trans (by simp)
  obtain ⟨S', r1, r2, r3⟩ := ih S post (fun f hf => hG f (by
   simp only [Xa3] at hf ⊢
   rcases hf with (hf | hf) | hf
   ·exact .inl (.inl hf)
   ·have := hp.mem_iff.1 (Xa3.2 hf)
    exact .inl (.inr (Xa3.1 this))
   ·exact .inr hf)) q2 (by rw [Xai, Xai, hp.length_eq]; simp; omega) (by rw [hp.length_eq]; simp; omega)
  refine ⟨S', r1.trans hp, r2, ?_⟩
  rw [w.zq52_h1_5]; unfold y.zq52_h1_5
  simp only [yy, if_pos (show ((pre.length + T.length : Nat) : Int) < (b : Int) by omega)]
  rw [e0, q3, e1, show pre.length + T.length + 1 = pre.length + S.length by omega]
  exact r3
theorem v.ins (pre T post : List Fi) (hG : ∀ f ∈ pre ++ T ++ post, G f) (hn2 : (pre ++ T ++ post).length <= 1000000000) (hT : T ≠ []) :
  ∃ S, S.Perm T /\ So cmp S /\ vl e 10721 1 [I (pre ++ T ++ post).length, I pre.length, I (pre.length + T.length : Nat), cmpV, aggF (pre ++ T ++ post)] = some (aggF (pre ++ S ++ post)) := by
 cases T with
 | nil => exact absurd rfl hT
 | cons x r =>
  have hl : (pre ++ x :: r ++ post).length = pre.length + (r.length + 1) + post.length := by simp; omega
  obtain ⟨S, q1, q2, q3⟩ := v.ins5 ho pre (pre.length + (x :: r).length) (by simp; omega) _ hn2 r [x] post (by simpa using hG) (by simp [So]) (by simp) (by simp)
  refine ⟨S, by simpa using q1, q2, ?_⟩
  rw [w.zq52_h1]; unfold y.zq52_h1
  simp only [yy, Zay (show pre.length < pre.length + 1 by omega) (by omega)]
  simpa using q3
end
end Go.Proofs.YtpmgdngjbdkdfaaDoor
namespace Go.Proofs.YtpmgdngjbdkdfaaDoor
open Go.Abs
set_option maxRecDepth 10000
variable {e : Ev}
theorem v.swp5 (n a b c : Nat) (hn2 : n <= 1000000000) (hb : b <= 1000000000) (hc : c <= 1000000000) (ha : a <= 1000000000) : ∀ (X Y pre mid post : List Fi) (i : Nat), X.length = Y.length -> i + X.length = c -> a + i = pre.length -> b + i = pre.length + X.length + mid.length -> (pre ++ X ++ mid ++ Y ++ post).length = n ->
  vl e 11153 5 [I n, I a, I b, I c, I i, aggF (pre ++ X ++ mid ++ Y ++ post)] = some (aggF (pre ++ Y ++ mid ++ X ++ post)) := by
 intro X
 induction X with
 | nil =>
  intro Y pre mid post i hxy hi hai hbi hn
  have : Y = [] := Xa7 hxy.symm
  subst this
  simp only [Xa5] at *
  rw [w.zq55_h1_5]; unfold y.zq55_h1_5
  simp only [yy, if_neg (show ¬((i : Int) < (c : Int)) by omega)]
 | cons x X ih =>
  intro Y pre mid post i hxy hi hai hbi hn
  match Y, hxy with
  | u :: Y, hxy =>
  simp only [Xau, Nat.add_right_cancel_iff] at hxy
  simp only [Xai, Xau] at hn hi hbi
  have hA : a + i < (pre ++ x :: X ++ mid ++ u :: Y ++ post).length := by simp; omega
  have hB : b + i < (pre ++ x :: X ++ mid ++ u :: Y ++ post).length := by simp; omega
  have gx : (pre ++ x :: X ++ mid ++ u :: Y ++ post)[a + i]'hA = x := by
   rw [Xb1 (show pre ++ x :: X ++ mid ++ u :: Y ++ post = pre ++ x :: (X ++ mid ++ u :: Y ++ post) by simp)]
   simp [Xbs, hai]
  have gu : (pre ++ x :: X ++ mid ++ u :: Y ++ post)[b + i]'hB = u := by
   rw [Xb1 (show pre ++ x :: X ++ mid ++ u :: Y ++ post = (pre ++ x :: X ++ mid) ++ u :: (Y ++ post) by simp)]
   rw [Xbs (by simp; omega)]
   simp only [Xai, Xau]
   simp [show b + i - (pre.length + (X.length + 1) + mid.length) = 0 by omega]
  have c1 : evp .chkd [I n, I (b + i : Nat)] = some (I (b + i : Nat)) := Zaq (by omega)
  have c2 : evp .chkd [I n, I (a + i : Nat)] = some (I (a + i : Nat)) := Zaq (by omega)
  have l1 : evp (.ldd (some 2) 0 2) [aggF (pre ++ x :: X ++ mid ++ u :: Y ++ post), I (b + i : Nat)] = some (fv u) := by rw [Zb3 hB, gu]
  have l2 : evp (.ldd (some 2) 0 2) [aggF (pre ++ x :: X ++ mid ++ u :: Y ++ post), I (a + i : Nat)] = some (fv x) := by rw [Zb3 hA, gx]
  have s1 : evp (.std 2 0 2) [aggF (pre ++ x :: X ++ mid ++ u :: Y ++ post), I (a + i : Nat), fv u] = some (aggF (pre ++ u :: X ++ mid ++ u :: Y ++ post)) := by
   rw [Zmw hA]; congr 3
   rw [show pre ++ x :: X ++ mid ++ u :: Y ++ post = pre ++ x :: (X ++ mid ++ u :: Y ++ post) by simp, Xcb _ _ (by omega)]
   simp [hai]
  have s2 : evp (.std 2 0 2) [aggF (pre ++ u :: X ++ mid ++ u :: Y ++ post), I (b + i : Nat), fv x] = some (aggF ((pre ++ [u]) ++ X ++ (mid ++ [x]) ++ Y ++ post)) := by
   rw [Zmw (by simp; omega)]; congr 3
   rw [show pre ++ u :: X ++ mid ++ u :: Y ++ post = (pre ++ u :: X ++ mid) ++ u :: (Y ++ post) by simp, Xcb _ _ (by simp; omega)]
   simp only [Xai, Xau]
   simp [show b + i - (pre.length + (X.length + 1) + mid.length) = 0 by omega]
  have := ih Y (pre ++ [u]) (mid ++ [x]) post (i + 1) hxy (by omega) (by simp; omega) (by simp; omega) (by simp; omega)
  rw [w.zq55_h1_5]; unfold y.zq55_h1_5
  simp only [yy, if_pos (show (i : Int) < (c : Int) by omega), Zdq (show a + i <= _ by omega), Zdq (show b + i <= _ by omega), c1, c2, l1, l2, s1, s2, Zay (show i < i + 1 by omega) (by omega)]
  rw [this]
  simp
theorem v.swp (X Y pre mid post : List Fi) (q : V) (hxy : X.length = Y.length) (n : Nat) (hn : n = (pre ++ X ++ mid ++ Y ++ post).length) (hn2 : n <= 1000000000) (a b c : Nat) (ha : a = pre.length) (hb : b = pre.length + X.length + mid.length) (hc : c = X.length) :
  vl e 11153 1 [I n, I a, I b, I c, q, aggF (pre ++ X ++ mid ++ Y ++ post)] = some (aggF (pre ++ Y ++ mid ++ X ++ post)) := by
 have hl := hn
 simp only [Xai] at hl
 rw [w.zq55_h1]; unfold y.zq55_h1
 exact v.swp5 n a b c hn2 (by omega) (by omega) (by omega) X Y pre mid post 0 hxy (by omega) (by omega) (by omega) hn.symm
theorem Zgf {α : Type} (l : List α) (k : Nat) : l = l.take k ++ l.drop k := (Xbi k l).symm
theorem v.rotF8 (n m : Nat) (q : V) (hn2 : n <= 1000000000) : ∀ (k : Nat) (U W pre suf : List Fi), U.length + W.length <= k -> 0 < U.length -> 0 < W.length -> pre.length + U.length = m -> (pre ++ U ++ W ++ suf).length = n ->
  vl e 10977 8 [I n, I m, q, I U.length, I W.length, aggF (pre ++ U ++ W ++ suf)] = some (aggF (pre ++ W ++ U ++ suf)) := by
 intro k
 induction k with
 | zero => intro U W pre suf hk hu; omega
 | succ k ih =>
  intro U W pre suf hk hu hw hm hn
  have hl := hn
  simp only [Xai] at hl
  rw [w.zq53_h1_8]; unfold y.zq53_h1_8
  rcases Xbw U.length W.length with h | h | h
  ·-- the part behind is longer
   obtain ⟨W1, W2, rfl, hW2⟩ : ∃ W1 W2, W = W1 ++ W2 /\ W2.length = U.length := ⟨W.take (W.length - U.length), W.drop (W.length - U.length), Zgf _ _, by simp; omega⟩
   simp only [Xai] at *
   have hs := v.swp (e := e) U W2 pre W1 suf q (by omega) n (by simp; omega) hn2 (m - U.length) (m + (W1.length + W2.length) - U.length) U.length (by omega) (by omega) rfl
   have := ih W2 W1 pre (U ++ suf) (by omega) (by omega) (by omega) (by omega) (by simp; omega)
   simp only [yy, if_neg (show ¬((U.length : Int) = ((W1.length + W2.length : Nat) : Int)) by omega), if_neg (show ¬(((W1.length + W2.length : Nat) : Int) < (U.length : Int)) by omega), Zei (show U.length <= m by omega) (by omega), Zdq (show m + (W1.length + W2.length) <= _ by omega), Zei (show U.length <= m + (W1.length + W2.length) by omega) (by omega), Zei (show U.length <= W1.length + W2.length by omega) (by omega)]
   rw [show pre ++ U ++ (W1 ++ W2) ++ suf = pre ++ U ++ W1 ++ W2 ++ suf by simp, hs]
   simp only [Xaj]
   rw [show W1.length + W2.length - U.length = W1.length by omega, <- hW2, show pre ++ W2 ++ W1 ++ U ++ suf = pre ++ W2 ++ W1 ++ (U ++ suf) by simp, this]
   simp
  ·have hs := v.swp (e := e) U W pre [] suf q h n (by simpa using hn.symm) hn2 (m - U.length) m U.length (by omega) (by simp; omega) rfl
   simp only [Xaw] at hs
   simp only [yy, if_pos (show (U.length : Int) = (W.length : Int) by omega), Zei (show U.length <= m by omega) (by omega)]
   rw [hs]; rfl
  ·obtain ⟨U1, U2, rfl, hU1⟩ : ∃ U1 U2, U = U1 ++ U2 /\ U1.length = W.length := ⟨U.take W.length, U.drop W.length, Zgf _ _, by simp; omega⟩
   simp only [Xai] at *
   have hs := v.swp (e := e) U1 W pre U2 suf q (by omega) n (by simp; omega) hn2 (m - (U1.length + U2.length)) m W.length (by omega) (by omega) (by omega)
   have := ih U2 U1 (pre ++ W) suf (by omega) (by omega) (by omega) (by simp; omega) (by simp; omega)
   simp only [yy, if_neg (show ¬(((U1.length + U2.length : Nat) : Int) = (W.length : Int)) by omega), if_pos (show ((W.length : Nat) : Int) < ((U1.length + U2.length : Nat) : Int) by omega), Zei (show U1.length + U2.length <= m by omega) (by omega), Zei (show W.length <= U1.length + U2.length by omega) (by omega)]
   rw [show pre ++ (U1 ++ U2) ++ W ++ suf = pre ++ U1 ++ U2 ++ W ++ suf by simp, hs]
   simp only [Xaj]
   rw [show U1.length + U2.length - W.length = U2.length by omega, <- hU1, this]
   simp
theorem v.rotF (n a m b : Nat) (q : V) (hn2 : n <= 1000000000) (U W pre suf : List Fi) (hu : U ≠ []) (hw : W ≠ []) (ha : a = pre.length) (hm : m = pre.length + U.length) (hb : b = m + W.length) (hn : n = (pre ++ U ++ W ++ suf).length) :
  vl e 10977 1 [I n, I a, I m, I b, q, aggF (pre ++ U ++ W ++ suf)] = some (aggF (pre ++ W ++ U ++ suf)) := by
 have hl := hn
 simp only [Xai] at hl
 rw [w.zq53_h1]; unfold y.zq53_h1
 simp only [yy, Zei (show a <= m by omega) (by omega), Zei (show m <= b by omega) (by omega)]
 rw [show m - a = U.length by omega, show b - m = W.length by omega]
 exact v.rotF8 n m q hn2 _ U W pre suf (Xag _) (Xax.2 hu) (Xax.2 hw) hm.symm hn.symm
end Go.Proofs.YtpmgdngjbdkdfaaDoor
namespace Go.Proofs.YtpmgdngjbdkdfaaDoor
open Go.Abs
set_option maxRecDepth 10000
variable {e : Ev}
theorem at_F {l pre post : List Fi} {x : Fi} {i : Nat} (h : l = pre ++ x :: post) (hi : i = pre.length) : evp (.ldd (some 2) 0 2) [aggF l, I i] = some (fv x) := by
 subst hi
 rw [Zb3 (by rw [h]; simp)]
 congr 2
 rw [Xb1 h, Xbs (Xag _)]
 simp
theorem Zvh {l pre post : List Fi} {x u : Fi} {i : Nat} (h : l = pre ++ x :: post) (hi : i = pre.length) : evp (.std 2 0 2) [aggF l, I i, fv u] = some (aggF (pre ++ u :: post)) := by
 subst hi
 rw [Zmw (by rw [h]; simp), h, Xcb _ _ (Xag _)]
 simp
theorem v.sym31 (n : Nat) (hn2 : n <= 1000000000) : ∀ (y1 A rest : List Fi) (x : Fi) (i k : Nat), k = A.length -> i = k + y1.length + 1 -> (A ++ x :: y1 ++ rest).length = n ->
  vl e 10737 31 [I n, I i, I k, aggF (A ++ x :: y1 ++ rest)] = some (aggF (A ++ y1 ++ x :: rest)) := by
 intro y1
 induction y1 with
 | nil =>
  intro A rest x i k hk hi hn
  simp only [Xai, Xau, Xa5] at hn hi
  rw [w.zq56_h1_31]; unfold y.zq56_h1_31
  simp only [yy, Zm5 (show 1 <= i by omega) (by omega), if_neg (show ¬((k : Int) < ((i - 1 : Nat) : Int)) by omega)]
  simp
 | cons u y1 ih =>
  intro A rest x i k hk hi hn
  simp only [Xai, Xau] at hn hi
  have c1 : evp .chkd [I n, I (k + 1 : Nat)] = some (I (k + 1 : Nat)) := Zaq (by omega)
  have c2 : evp .chkd [I n, I k] = some (I k) := Zaq (by omega)
  have l1 : evp (.ldd (some 2) 0 2) [aggF (A ++ x :: u :: y1 ++ rest), I (k + 1 : Nat)] = some (fv u) := at_F (pre := A ++ [x]) (post := y1 ++ rest) (by simp) (by simp [hk])
  have l2 : evp (.ldd (some 2) 0 2) [aggF (A ++ x :: u :: y1 ++ rest), I k] = some (fv x) := at_F (pre := A) (post := u :: y1 ++ rest) (by simp) hk
  have s1 : evp (.std 2 0 2) [aggF (A ++ x :: u :: y1 ++ rest), I k, fv u] = some (aggF (A ++ u :: (u :: y1 ++ rest))) := Zvh (x := x) (by simp) hk
  have s2 : evp (.std 2 0 2) [aggF (A ++ u :: (u :: y1 ++ rest)), I (k + 1 : Nat), fv x] = some (aggF ((A ++ [u]) ++ x :: (y1 ++ rest))) := Zvh (x := u) (by simp) (by simp [hk])
  have := ih (A ++ [u]) rest x i (k + 1) (by simp [hk]) (by omega) (by simp; omega)
  rw [w.zq56_h1_31]; unfold y.zq56_h1_31
  simp only [yy, Zm5 (show 1 <= i by omega) (by omega), if_pos (show (k : Int) < ((i - 1 : Nat) : Int) by omega), Zay (show k < k + 1 by omega) (by omega), c1, c2, l1, l2, s1, s2]
  rw [show A ++ [u] ++ x :: (y1 ++ rest) = A ++ [u] ++ x :: y1 ++ rest by simp, this]
  simp
theorem v.sym73 (n : Nat) (hn2 : n <= 1000000000) : ∀ (x2 A rest : List Fi) (u : Fi) (i k : Nat), i = A.length -> k = i + x2.length -> (A ++ x2 ++ u :: rest).length = n ->
  vl e 10737 73 [I n, I i, I k, aggF (A ++ x2 ++ u :: rest)] = some (aggF (A ++ u :: x2 ++ rest)) := by
 intro x2
 induction x2 using Zp1 with
 | h0 =>
  intro A rest u i k hi hk hn
  simp only [Xai, Xau, Xa5] at hn hk
  rw [w.zq56_h1_73]; unfold y.zq56_h1_73
  simp only [yy, if_neg (show ¬((i : Int) < (k : Int)) by omega)]
  simp
 | h1 x2 x ih =>
  intro A rest u i k hi hk hn
  simp only [Xai, Xau, Xa5] at hn hk
  have c1 : evp .chkd [I n, I (k - 1 : Nat)] = some (I (k - 1 : Nat)) := Zaq (by omega)
  have c2 : evp .chkd [I n, I k] = some (I k) := Zaq (by omega)
  have l1 : evp (.ldd (some 2) 0 2) [aggF (A ++ (x2 ++ [x]) ++ u :: rest), I (k - 1 : Nat)] = some (fv x) := at_F (pre := A ++ x2) (post := u :: rest) (by simp) (by simp; omega)
  have l2 : evp (.ldd (some 2) 0 2) [aggF (A ++ (x2 ++ [x]) ++ u :: rest), I k] = some (fv u) := at_F (pre := A ++ x2 ++ [x]) (post := rest) (by simp) (by simp; omega)
  have s1 : evp (.std 2 0 2) [aggF (A ++ (x2 ++ [x]) ++ u :: rest), I k, fv x] = some (aggF ((A ++ x2 ++ [x]) ++ x :: rest)) := Zvh (x := u) (by simp) (by simp; omega)
  have s2 : evp (.std 2 0 2) [aggF ((A ++ x2 ++ [x]) ++ x :: rest), I (k - 1 : Nat), fv u] = some (aggF ((A ++ x2) ++ u :: (x :: rest))) := Zvh (x := x) (by simp) (by simp; omega)
  have := ih A (x :: rest) u i (k - 1) hi (by omega) (by simp; omega)
  rw [w.zq56_h1_73]; unfold y.zq56_h1_73
  simp only [yy, Zm5 (show 1 <= k by omega) (by omega), if_pos (show (i : Int) < (k : Int) by omega), c1, c2, l1, l2, s1, s2]
  rw [this]
  simp
theorem Znc {l : List Fi} {P : Fi -> Prop} {p : Nat} (h : ∀ k (h : k < l.length), k < p -> P l[k]) : ∀ t ∈ l.take p, P t := by
 intro t ht
 obtain ⟨k, hk, rfl⟩ := Xb6.1 ht
 simp only [Xbt] at hk
 rw [List.getElem_take]
 exact h k (by omega) (by omega)
theorem Zi9 {l : List Fi} {P : Fi -> Prop} {p : Nat} (h : ∀ k (h : k < l.length), p <= k -> P l[k]) : ∀ t ∈ l.drop p, P t := by
 intro t ht
 obtain ⟨k, hk, rfl⟩ := Xb6.1 ht
 simp only [Xcj] at hk
 rw [List.getElem_drop]
 exact h (p + k) (by omega) (by omega)
section
variable {G : Fi -> Prop} {cmp : Fi -> Fi -> Int} (ho : Ord e G cmp)
include ho
theorem Zwj (x : Fi) : Le cmp x x := fun h => ho.asy x x h h
theorem Zfe {l : List Fi} (hs : So cmp l) {i j : Nat} (hij : i <= j) (hj : j < l.length) : Le cmp (l[i]'(by omega)) l[j] := by
 rcases Xbu hij with h | h
 ·exact Xbd.1 hs i j (by omega) hj h
 ·subst h; exact Zwj ho _
theorem v.sym12 (n : Nat) (hn2 : n <= 1000000000) (pre ys post : List Fi) (x : Fi) (hG : ∀ f ∈ pre ++ x :: ys ++ post, G f) (hs : So cmp ys) (hn : (pre ++ x :: ys ++ post).length = n) : ∀ (d p q : Nat), q - p <= d -> p <= q -> q <= ys.length -> (∀ k (h : k < ys.length), k < p -> cmp ys[k] x < 0) -> (∀ k (h : k < ys.length), q <= k -> ¬ cmp ys[k] x < 0) ->
  ∃ p', p' <= ys.length /\ (∀ k (h : k < ys.length), k < p' -> cmp ys[k] x < 0) /\ (∀ k (h : k < ys.length), p' <= k -> ¬ cmp ys[k] x < 0) /\
  vl e 10737 12 [I n, I pre.length, cmpV, I (pre.length + 1 + p : Nat), I (pre.length + 1 + q : Nat), aggF (pre ++ x :: ys ++ post)] = vl e 10737 31 [I n, I (pre.length + 1 + p' : Nat), I pre.length, aggF (pre ++ x :: ys ++ post)] := by
 have hl := hn
 simp only [Xai, Xau] at hl
 intro d
 induction d with
 | zero =>
  intro p q hd hpq hq h1 h2
  have : p = q := by omega
  subst this
  refine ⟨p, hq, h1, h2, ?_⟩
  rw [w.zq56_h1_12]; unfold y.zq56_h1_12
  simp only [yy, if_neg (show ¬(((pre.length + 1 + p : Nat) : Int) < ((pre.length + 1 + p : Nat) : Int)) by omega)]
 | succ d ih =>
  intro p q hd hpq hq h1 h2
  rcases Xbu hpq with hlt | rfl
  rotate_left
  ·exact ih p p (by omega) (Xag _) hq h1 h2
  obtain ⟨t, ht, ht1, ht2⟩ : ∃ t, (pre.length + 1 + p + (pre.length + 1 + q)) / 2 = pre.length + 1 + t /\ p <= t /\ t < q := ⟨(pre.length + 1 + p + (pre.length + 1 + q)) / 2 - (pre.length + 1), by omega, by omega, by omega⟩
  have htl : t < ys.length := by omega
  have c1 : evp .chkd [I n, I (pre.length + 1 + t : Nat)] = some (I (pre.length + 1 + t : Nat)) := Zaq (by omega)
  have c2 : evp .chkd [I n, I pre.length] = some (I pre.length) := Zaq (by omega)
  have l1 : evp (.ldd (some 2) 0 2) [aggF (pre ++ x :: ys ++ post), I (pre.length + 1 + t : Nat)] = some (fv ys[t]) := at_F (pre := pre ++ x :: ys.take t) (post := ys.drop (t + 1) ++ post) (by
   have := Xao htl
   rw [Xap pre, Xbf, Xap, Xbf, <- Xbf (a := ys[t]), <- this, <- Xap (ys.take t), Xbi]) (by simp; omega)
  have l2 : evp (.ldd (some 2) 0 2) [aggF (pre ++ x :: ys ++ post), I pre.length] = some (fv x) := at_F (pre := pre) (post := ys ++ post) (by simp) rfl
  have hc := ho.run ys[t] x (hG _ (by simp)) (hG _ (by simp))
  by_cases hx : cmp ys[t] x < 0
  ·obtain ⟨p', r1, r2, r3, r4⟩ := ih (t + 1) q (by omega) (by omega) hq (fun k hk hkt => by
    exact Zpu ho (Zfe ho hs (show k <= t by omega) htl) hx) h2
   refine ⟨p', r1, r2, r3, ?_⟩
   rw [w.zq56_h1_12]; unfold y.zq56_h1_12
   simp only [yy, if_pos (show ((pre.length + 1 + p : Nat) : Int) < ((pre.length + 1 + q : Nat) : Int) by omega), Zdq (show pre.length + 1 + p + (pre.length + 1 + q) <= _ by omega), Znf (show pre.length + 1 + p + (pre.length + 1 + q) <= _ by omega), Zh7, ht, Zn6 (show pre.length + 1 + t <= _ by omega), c1, c2, l1, l2, cv, hc, if_pos hx, Zay (show pre.length + 1 + t < n by omega) (by omega)]
   exact r4
  ·obtain ⟨p', r1, r2, r3, r4⟩ := ih p t (by omega) (by omega) (by omega) h1 (fun k hk hkt h => hx (Zpu ho (Zfe ho hs hkt hk) h))
   refine ⟨p', r1, r2, r3, ?_⟩
   rw [w.zq56_h1_12]; unfold y.zq56_h1_12
   simp only [yy, if_pos (show ((pre.length + 1 + p : Nat) : Int) < ((pre.length + 1 + q : Nat) : Int) by omega), Zdq (show pre.length + 1 + p + (pre.length + 1 + q) <= _ by omega), Znf (show pre.length + 1 + p + (pre.length + 1 + q) <= _ by omega), Zh7, ht, Zn6 (show pre.length + 1 + t <= _ by omega), c1, c2, l1, l2, cv, hc, if_neg hx]
   exact r4
theorem v.sym54 (n : Nat) (hn2 : n <= 1000000000) (pre xs post : List Fi) (u : Fi) (hG : ∀ f ∈ pre ++ xs ++ u :: post, G f) (hs : So cmp xs) (hn : (pre ++ xs ++ u :: post).length = n) (m : Nat) (hm : m = pre.length + xs.length) : ∀ (d p q : Nat), q - p <= d -> p <= q -> q <= xs.length -> (∀ k (h : k < xs.length), k < p -> ¬ cmp u xs[k] < 0) -> (∀ k (h : k < xs.length), q <= k -> cmp u xs[k] < 0) ->
  ∃ p', p' <= xs.length /\ (∀ k (h : k < xs.length), k < p' -> ¬ cmp u xs[k] < 0) /\ (∀ k (h : k < xs.length), p' <= k -> cmp u xs[k] < 0) /\
  vl e 10737 54 [I n, I m, cmpV, I (pre.length + p : Nat), I (pre.length + q : Nat), aggF (pre ++ xs ++ u :: post)] = vl e 10737 73 [I n, I (pre.length + p' : Nat), I m, aggF (pre ++ xs ++ u :: post)] := by
 have hl := hn
 simp only [Xai, Xau] at hl
 intro d
 induction d with
 | zero =>
  intro p q hd hpq hq h1 h2
  have : p = q := by omega
  subst this
  refine ⟨p, hq, h1, h2, ?_⟩
  rw [w.zq56_h1_54]; unfold y.zq56_h1_54
  simp only [yy, if_neg (show ¬(((pre.length + p : Nat) : Int) < ((pre.length + p : Nat) : Int)) by omega)]
 | succ d ih =>
  intro p q hd hpq hq h1 h2
  rcases Xbu hpq with hlt | rfl
  rotate_left
  ·exact ih p p (by omega) (Xag _) hq h1 h2
  obtain ⟨t, ht, ht1, ht2⟩ : ∃ t, (pre.length + p + (pre.length + q)) / 2 = pre.length + t /\ p <= t /\ t < q := ⟨(pre.length + p + (pre.length + q)) / 2 - pre.length, by omega, by omega, by omega⟩
  have htl : t < xs.length := by omega
  have c1 : evp .chkd [I n, I (pre.length + t : Nat)] = some (I (pre.length + t : Nat)) := Zaq (by omega)
  have c2 : evp .chkd [I n, I m] = some (I m) := Zaq (by omega)
  have l1 : evp (.ldd (some 2) 0 2) [aggF (pre ++ xs ++ u :: post), I (pre.length + t : Nat)] = some (fv xs[t]) := at_F (pre := pre ++ xs.take t) (post := xs.drop (t + 1) ++ u :: post) (by
   have := Xao htl
   rw [Xap, Xap, <- Xbf, <- this, <- Xap (xs.take t), Xbi]) (by simp; omega)
  have l2 : evp (.ldd (some 2) 0 2) [aggF (pre ++ xs ++ u :: post), I m] = some (fv u) := at_F (pre := pre ++ xs) (post := post) rfl (by simp [hm])
  have hc := ho.run u xs[t] (hG _ (by simp)) (hG _ (by simp))
  by_cases hx : cmp u xs[t] < 0
  ·obtain ⟨p', r1, r2, r3, r4⟩ := ih p t (by omega) (by omega) (by omega) h1 (fun k hk hkt => Zzy ho hx (Zfe ho hs hkt hk))
   refine ⟨p', r1, r2, r3, ?_⟩
   rw [w.zq56_h1_54]; unfold y.zq56_h1_54
   simp only [yy, if_pos (show ((pre.length + p : Nat) : Int) < ((pre.length + q : Nat) : Int) by omega), Zdq (show pre.length + p + (pre.length + q) <= _ by omega), Znf (show pre.length + p + (pre.length + q) <= _ by omega), Zh7, ht, Zn6 (show pre.length + t <= _ by omega), c1, c2, l1, l2, cv, hc, if_pos hx]
   exact r4
  ·obtain ⟨p', r1, r2, r3, r4⟩ := ih (t + 1) q (by omega) (by omega) hq (fun k hk hkt h => hx (Zzy ho h (Zfe ho hs (show k <= t by omega) htl))) h2
   refine ⟨p', r1, r2, r3, ?_⟩
   rw [w.zq56_h1_54]; unfold y.zq56_h1_54
   simp only [yy, if_pos (show ((pre.length + p : Nat) : Int) < ((pre.length + q : Nat) : Int) by omega), Zdq (show pre.length + p + (pre.length + q) <= _ by omega), Znf (show pre.length + p + (pre.length + q) <= _ by omega), Zh7, ht, Zn6 (show pre.length + t <= _ by omega), c1, c2, l1, l2, cv, hc, if_neg hx, Zay (show pre.length + t < n by omega) (by omega)]
   exact r4
end
end Go.Proofs.YtpmgdngjbdkdfaaDoor
namespace Go.Proofs.YtpmgdngjbdkdfaaDoor
open Go.Abs
set_option maxRecDepth 10000
variable {e : Ev}
section
variable {G : Fi -> Prop} {cmp : Fi -> Fi -> Int} (ho : Ord e G cmp)
include ho
theorem v.sym106 (n : Nat) (hn2 : n <= 1000000000) (L : List Fi) (hL : L.length = n) (hG : ∀ f ∈ L, G f) (a m b mm nn lo hi : Nat) (hnn : nn <= 2000000000) (hhi : hi <= n) (hp : ∀ c, lo <= c -> c < hi -> c + 1 <= nn /\ nn - 1 - c < n)
  (hmono : ∀ c c' (_ : lo <= c) (_ : c <= c') (_ : c' < hi), ¬ cmp (L.getD (nn - 1 - c') ([], [])) (L.getD c' ([], [])) < 0 -> ¬ cmp (L.getD (nn - 1 - c) ([], [])) (L.getD c ([], [])) < 0) : ∀ (d s r : Nat), r - s <= d -> lo <= s -> s <= r -> r <= hi -> (∀ c, lo <= c -> c < s -> ¬ cmp (L.getD (nn - 1 - c) ([], [])) (L.getD c ([], [])) < 0) -> (∀ c, r <= c -> c < hi -> cmp (L.getD (nn - 1 - c) ([], [])) (L.getD c ([], [])) < 0) ->
  ∃ s', lo <= s' /\ s' <= hi /\ (∀ c, lo <= c -> c < s' -> ¬ cmp (L.getD (nn - 1 - c) ([], [])) (L.getD c ([], [])) < 0) /\ (∀ c, s' <= c -> c < hi -> cmp (L.getD (nn - 1 - c) ([], [])) (L.getD c ([], [])) < 0) /\
   vl e 10737 106 [I n, I a, I m, I b, cmpV, I mm, I nn, I s, I r, I (nn - 1 : Nat), aggF L] = vl e 10737 106 [I n, I a, I m, I b, cmpV, I mm, I nn, I s', I s', I (nn - 1 : Nat), aggF L] := by
 intro d
 induction d with
 | zero =>
  intro s r hd hls hsr hrh h1 h2
  have : s = r := by omega
  subst this
  exact ⟨s, hls, hrh, h1, h2, rfl⟩
 | succ d ih =>
  intro s r hd hls hsr hrh h1 h2
  rcases Xbu hsr with hlt | rfl
  rotate_left
  ·exact ⟨s, hls, hrh, h1, h2, rfl⟩
  obtain ⟨t, ht, ht1, ht2⟩ : ∃ t, (s + r) / 2 = t /\ s <= t /\ t < r := ⟨_, rfl, by omega, by omega⟩
  obtain ⟨hp1, hp2⟩ := hp t (by omega) (by omega)
  have c1 : evp .chkd [I n, I (nn - 1 - t : Nat)] = some (I (nn - 1 - t : Nat)) := Zaq (by omega)
  have c2 : evp .chkd [I n, I t] = some (I t) := Zaq (by omega)
  have g1 : nn - 1 - t < L.length := by omega
  have g2 : t < L.length := by omega
  have e1 : L.getD (nn - 1 - t) ([], []) = L[nn - 1 - t] := by simp [List.getD, g1]
  have e2 : L.getD t ([], []) = L[t] := by simp [List.getD, g2]
  have l1 := Zb3 g1
  have l2 := Zb3 g2
  have hc := ho.run L[nn - 1 - t] L[t] (hG _ (Xav g1)) (hG _ (Xav g2))
  by_cases hx : cmp L[nn - 1 - t] L[t] < 0
  ·obtain ⟨s', r1, r2, r3, r4, r5⟩ := ih s t (by omega) hls (by omega) (by omega) h1 (fun c hc1 hc2 => by
    refine Classical.byContradiction fun hno => ?_
    have := hmono t c (by omega) hc1 hc2 hno
    rw [e1, e2] at this
    exact this hx)
   refine ⟨s', r1, r2, r3, r4, ?_⟩
   rw [w.zq56_h1_106]; unfold y.zq56_h1_106
   simp only [yy, if_pos (show (s : Int) < (r : Int) by omega), Zdq (show s + r <= _ by omega), Znf (show s + r <= _ by omega), Zh7, ht, Zn6 (show t <= _ by omega), Zei (show t <= nn - 1 by omega) (by omega), c1, c2, l1, l2, cv, hc, if_pos hx]
   exact r5
  ·obtain ⟨s', r1, r2, r3, r4, r5⟩ := ih (t + 1) r (by omega) (by omega) (by omega) hrh (fun c hc1 hc2 => by
    refine hmono c t hc1 (by omega) (by omega) ?_
    rw [e1, e2]; exact hx) h2
   refine ⟨s', r1, r2, r3, r4, ?_⟩
   rw [w.zq56_h1_106]; unfold y.zq56_h1_106
   simp only [yy, if_pos (show (s : Int) < (r : Int) by omega), Zdq (show s + r <= _ by omega), Znf (show s + r <= _ by omega), Zh7, ht, Zn6 (show t <= _ by omega), Zei (show t <= nn - 1 by omega) (by omega), c1, c2, l1, l2, cv, hc, if_neg hx, Zay (show t < n by omega) (by omega)]
   exact r5
omit ho in
theorem v.sym129 (n k : Nat) (hn2 : n <= 1000000000)
  (hrec : ∀ (pre xs ys suf : List Fi), xs ≠ [] -> ys ≠ [] -> xs.length + ys.length <= k -> So cmp xs -> So cmp ys -> (∀ f ∈ pre ++ xs ++ ys ++ suf, G f) -> (pre ++ xs ++ ys ++ suf).length = n ->
   ∃ zs : List Fi, zs.Perm (xs ++ ys) /\ So cmp zs /\ vl e 10737 1 [I n, I pre.length, I (pre.length + xs.length : Nat), I (pre.length + xs.length + ys.length : Nat), cmpV, aggF (pre ++ xs ++ ys ++ suf)] = some (aggF (pre ++ zs ++ suf)))
  (pre x1 y1 x2 y2 suf : List Fi) (h1 : So cmp x1) (h2 : So cmp y1) (h3 : So cmp x2) (h4 : So cmp y2) (hk1 : x1.length + y1.length <= k) (hk2 : x2.length + y2.length <= k) (hG : ∀ f ∈ pre ++ (x1 ++ y1) ++ (x2 ++ y2) ++ suf, G f) (hn : (pre ++ (x1 ++ y1) ++ (x2 ++ y2) ++ suf).length = n)
  (a b mm s en : Nat) (ha : a = pre.length) (hs : s = a + x1.length) (hm : mm = a + x1.length + y1.length) (he : en = mm + x2.length) (hb : b = mm + x2.length + y2.length) :
  ∃ z1 z2, z1.Perm (x1 ++ y1) /\ z2.Perm (x2 ++ y2) /\ So cmp z1 /\ So cmp z2 /\ vl e 10737 129 [I n, I a, I b, cmpV, I mm, I s, I en, aggF (pre ++ (x1 ++ y1) ++ (x2 ++ y2) ++ suf)] = some (aggF (pre ++ (z1 ++ z2) ++ suf)) := by
 have hl := hn
 simp only [Xai] at hl
 -- the half behind, with any half ahead
 have back : ∀ z1 : List Fi, z1.Perm (x1 ++ y1) -> ∃ z2, z2.Perm (x2 ++ y2) /\ So cmp z2 /\ (if mm < en /\ en < b then vl e 10737 1 [I n, I mm, I en, I b, cmpV, aggF (pre ++ z1 ++ (x2 ++ y2) ++ suf)] else some (aggF (pre ++ z1 ++ (x2 ++ y2) ++ suf))) = some (aggF (pre ++ (z1 ++ z2) ++ suf)) := by
  intro z1 hz1
  have hzl : z1.length = x1.length + y1.length := by rw [hz1.length_eq, Xai]
  by_cases hc : mm < en /\ en < b
  ·obtain ⟨z2, r1, r2, r3⟩ := hrec (pre ++ z1) x2 y2 suf (Xax.1 (by omega)) (Xax.1 (by omega)) hk2 h3 h4 (fun f hf => hG f (by
    have : (pre ++ z1 ++ x2 ++ y2 ++ suf).Perm (pre ++ (x1 ++ y1) ++ (x2 ++ y2) ++ suf) := by
     have := ((hz1.append_left pre).append_right (x2 ++ y2)).append_right suf
     simpa using this
    exact this.mem_iff.1 hf)) (by simp; omega)
   refine ⟨z2, r1, r2, ?_⟩
   rw [if_pos hc]
   rw [show (pre ++ z1).length = mm by simp; omega, show mm + x2.length + y2.length = b by omega, show mm + x2.length = en by omega] at r3
   rw [show pre ++ z1 ++ (x2 ++ y2) ++ suf = pre ++ z1 ++ x2 ++ y2 ++ suf by simp, r3]
   simp
  ·rw [if_neg hc]
   refine ⟨x2 ++ y2, .refl _, ?_, by simp⟩
   by_cases h0 : x2 = []
   ·subst h0; simpa using h4
   ·have hx2 := Xax.2 h0
    have : y2 = [] := Xa7 (by omega)
    subst this; simpa using h3
 rw [w.zq56_h1_129]; unfold y.zq56_h1_129
 by_cases hc1 : a < s /\ s < mm
 ·obtain ⟨z1, r1, r2, r3⟩ := hrec pre x1 y1 (x2 ++ y2 ++ suf) (Xax.1 (by omega)) (Xax.1 (by omega)) hk1 h1 h2 (fun f hf => hG f (by simpa using hf)) (by simp; omega)
  rw [show pre ++ x1 ++ y1 ++ (x2 ++ y2 ++ suf) = pre ++ (x1 ++ y1) ++ (x2 ++ y2) ++ suf by simp, show pre ++ z1 ++ (x2 ++ y2 ++ suf) = pre ++ z1 ++ (x2 ++ y2) ++ suf by simp, <- ha, <- hs, show s + y1.length = mm by omega] at r3
  obtain ⟨z2, q1, q2, q3⟩ := back z1 r1
  refine ⟨z1, z2, r1, q1, r2, q2, ?_⟩
  rw [<- q3]
  simp only [yy, if_pos (show (a : Int) < (s : Int) by omega), if_pos (show (s : Int) < (mm : Int) by omega), r3]
  by_cases hc2 : mm < en
  ·by_cases hc3 : en < b
   ·simp only [yy, if_pos (show (mm : Int) < (en : Int) by omega), if_pos (show (en : Int) < (b : Int) by omega), if_pos (show mm < en /\ en < b from ⟨hc2, hc3⟩)]
    cases vl e 10737 1 [I n, I mm, I en, I b, cmpV, aggF (pre ++ z1 ++ (x2 ++ y2) ++ suf)] <;> rfl
   ·simp only [yy, if_pos (show (mm : Int) < (en : Int) by omega), if_neg (show ¬(en : Int) < (b : Int) by omega), if_neg (show ¬(mm < en /\ en < b) by omega)]
  ·simp only [yy, if_neg (show ¬(mm : Int) < (en : Int) by omega), if_neg (show ¬(mm < en /\ en < b) by omega)]
 ·have hz : So cmp (x1 ++ y1) := by
   by_cases h0 : x1 = []
   ·subst h0; simpa using h2
   ·have hx := Xax.2 h0
    have : y1 = [] := Xa7 (by omega)
    subst this; simpa using h1
  obtain ⟨z2, q1, q2, q3⟩ := back (x1 ++ y1) (.refl _)
  refine ⟨x1 ++ y1, z2, .refl _, q1, hz, q2, ?_⟩
  rw [<- q3]
  by_cases hca : a < s
  ·have hcb : ¬ s < mm := by omega
   by_cases hc2 : mm < en
   ·by_cases hc3 : en < b
    ·simp only [yy, if_pos (show (a : Int) < (s : Int) by omega), if_neg (show ¬(s : Int) < (mm : Int) by omega), if_pos (show (mm : Int) < (en : Int) by omega), if_pos (show (en : Int) < (b : Int) by omega), if_pos (show mm < en /\ en < b from ⟨hc2, hc3⟩)]
     cases vl e 10737 1 [I n, I mm, I en, I b, cmpV, aggF (pre ++ (x1 ++ y1) ++ (x2 ++ y2) ++ suf)] <;> rfl
    ·simp only [yy, if_pos (show (a : Int) < (s : Int) by omega), if_neg (show ¬(s : Int) < (mm : Int) by omega), if_pos (show (mm : Int) < (en : Int) by omega), if_neg (show ¬(en : Int) < (b : Int) by omega), if_neg (show ¬(mm < en /\ en < b) by omega)]
   ·simp only [yy, if_pos (show (a : Int) < (s : Int) by omega), if_neg (show ¬(s : Int) < (mm : Int) by omega), if_neg (show ¬(mm : Int) < (en : Int) by omega), if_neg (show ¬(mm < en /\ en < b) by omega)]
  ·by_cases hc2 : mm < en
   ·by_cases hc3 : en < b
    ·simp only [yy, if_neg (show ¬(a : Int) < (s : Int) by omega), if_pos (show (mm : Int) < (en : Int) by omega), if_pos (show (en : Int) < (b : Int) by omega), if_pos (show mm < en /\ en < b from ⟨hc2, hc3⟩)]
     cases vl e 10737 1 [I n, I mm, I en, I b, cmpV, aggF (pre ++ (x1 ++ y1) ++ (x2 ++ y2) ++ suf)] <;> rfl
    ·simp only [yy, if_neg (show ¬(a : Int) < (s : Int) by omega), if_pos (show (mm : Int) < (en : Int) by omega), if_neg (show ¬(en : Int) < (b : Int) by omega), if_neg (show ¬(mm < en /\ en < b) by omega)]
   ·simp only [yy, if_neg (show ¬(a : Int) < (s : Int) by omega), if_neg (show ¬(mm : Int) < (en : Int) by omega), if_neg (show ¬(mm < en /\ en < b) by omega)]
end
end Go.Proofs.YtpmgdngjbdkdfaaDoor
namespace Go.Proofs.YtpmgdngjbdkdfaaDoor
open Go.Abs
set_option maxRecDepth 10000
variable {e : Ev}
theorem v.symE (n a m b : Nat) (ha : a + 1 < m) (hb : m + 1 < b) (hbn : b <= 1000000000) (row : V) : vl e 10737 1 [I n, I a, I m, I b, cmpV, row] =
  vl e 10737 106 [I n, I a, I m, I b, cmpV, I ((a + b) / 2 : Nat), I ((a + b) / 2 + m : Nat), I (if (a + b) / 2 < m then (a + b) / 2 + m - b else a : Nat), I (if (a + b) / 2 < m then (a + b) / 2 else m : Nat), I ((a + b) / 2 + m - 1 : Nat), row] := by
 obtain ⟨mm, hmm⟩ : ∃ mm, mm = (a + b) / 2 := ⟨_, rfl⟩
 have e1 : IntKind.i64.wrap ((m : Int) - (a : Int)) = ((m - a : Nat) : Int) := Zei (by omega) (by omega)
 have e2 : IntKind.i64.wrap ((b : Int) - (m : Int)) = ((b - m : Nat) : Int) := Zei (by omega) (by omega)
 have e3 : IntKind.i64.wrap ((a : Int) + (b : Int)) = ((a + b : Nat) : Int) := Zdq (by omega)
 have e4 : IntKind.i64.wrap ((mm : Int) + (m : Int)) = ((mm + m : Nat) : Int) := Zdq (by omega)
 have e5 : IntKind.i64.wrap (((mm + m : Nat) : Int) - 1) = ((mm + m - 1 : Nat) : Int) := Zm5 (by omega) (by omega)
 have n1 : ¬((m - a : Nat) : Int) = 1 := by omega
 have n2 : ¬((b - m : Nat) : Int) = 1 := by omega
 have u1 : evp (.i2i .u64) [I (a + b : Nat)] = some (.int .u64 (a + b : Nat)) := Znf (by omega)
 have u2 : evp (.i2i .i64) [.int .u64 (mm : Int)] = some (I mm) := Zn6 (by omega)
 have hh : evp (.bin .shr .no) [.int .u64 ((a + b : Nat) : Int), .int .u64 1] = some (.int .u64 (mm : Int)) := by rw [Zh7, hmm]
 rw [<- hmm, w.zq56_h1]; unfold y.zq56_h1
 by_cases hc : mm < m
 ·have e6 : IntKind.i64.wrap (((mm + m : Nat) : Int) - (b : Int)) = ((mm + m - b : Nat) : Int) := Zei (by omega) (by omega)
  simp only [yy, e1, e2, e3, e4, n1, n2, u1, hh, u2, if_false, if_pos (show (mm : Int) < (m : Int) by omega), e6]
  rw [w.zq56_h1_102]; unfold y.zq56_h1_102
  simp only [yy, e5]
  rw [if_pos hc, if_pos hc]
 ·simp only [yy, e1, e2, e3, e4, n1, n2, u1, hh, u2, if_false, if_neg (show ¬(mm : Int) < (m : Int) by omega)]
  rw [w.zq56_h1_102]; unfold y.zq56_h1_102
  simp only [yy, e5]
  rw [if_neg hc, if_neg hc]
section
variable {G : Fi -> Prop} {cmp : Fi -> Fi -> Int} (ho : Ord e G cmp)
include ho
theorem v.symA (n : Nat) (hn2 : n <= 1000000000) (pre xs ys suf : List Fi) (hx : xs ≠ []) (hy : ys ≠ []) (hsx : So cmp xs) (hsy : So cmp ys) (hG : ∀ f ∈ pre ++ xs ++ ys ++ suf, G f) (hn : (pre ++ xs ++ ys ++ suf).length = n) (h1 : xs.length = 1) : ∃ zs : List Fi, zs.Perm (xs ++ ys) /\ So cmp zs /\ vl e 10737 1 [I n, I pre.length, I (pre.length + xs.length : Nat), I (pre.length + xs.length + ys.length : Nat), cmpV, aggF (pre ++ xs ++ ys ++ suf)] = some (aggF (pre ++ zs ++ suf)) := by
 have hxp := Xax.2 hx
 have hyp := Xax.2 hy
 have hl := hn
 simp only [Xai] at hl
 obtain ⟨a, ha⟩ : ∃ a, a = pre.length := ⟨_, rfl⟩
 obtain ⟨m, hm⟩ : ∃ m, m = pre.length + xs.length := ⟨_, rfl⟩
 obtain ⟨b, hb⟩ : ∃ b, b = pre.length + xs.length + ys.length := ⟨_, rfl⟩
 rw [<- hb, <- hm, <- ha]
 rw [w.zq56_h1]; unfold y.zq56_h1
 match xs, h1 with
 | [x], _ =>
 simp only [Xau, Xa5] at *
 obtain ⟨p, r1, r2, r3, r4⟩ := v.sym12 ho n hn2 pre ys suf x (by simpa using hG) hsy (by simpa using hn) ys.length 0 ys.length (by omega) (by omega) (Xag _) (fun k _ h => absurd h (by omega)) (fun k h1 h2 => absurd h1 (by omega))
 have r5 := v.sym31 (e := e) n hn2 (ys.take p) pre (ys.drop p ++ suf) x (pre.length + 1 + p) pre.length rfl (by simp; omega) (by rw [<- hn]; simp; omega)
 have q1 := Znc (P := fun t => cmp t x < 0) r2
 have q2 := Zi9 (P := fun t => ¬ cmp t x < 0) r3
 refine ⟨ys.take p ++ x :: ys.drop p, ?_, ?_, ?_⟩
 ·exact List.perm_middle.trans (by simp)
 ·refine Xch.2 ⟨hsy.sublist (List.take_sublist _ _), Xc6.2 ⟨fun t ht => q2 t ht, hsy.sublist (Xey _ _)⟩, fun u hu t ht => ?_⟩
  rcases Xay.1 ht with rfl | ht
  ·exact ho.asy _ _ (q1 u hu)
  ·exact ho.asy _ _ (Zzy ho (q1 u hu) (q2 t ht))
 ·simp only [yy, Zei (show a <= m by omega) (by omega), if_pos (show ((m - a : Nat) : Int) = 1 by omega)]
  rw [show pre ++ [x] ++ ys ++ suf = pre ++ x :: ys ++ suf by simp, show m = pre.length + 1 + 0 by omega, show b = pre.length + 1 + ys.length by omega, ha, r4,
   show pre ++ x :: ys ++ suf = pre ++ x :: ys.take p ++ (ys.drop p ++ suf) by rw [Xap, Xbf, Xap pre, Xbf, <- Xap (ys.take p), Xbi], r5]
  simp
theorem v.symB (n : Nat) (hn2 : n <= 1000000000) (pre xs ys suf : List Fi) (hx : xs ≠ []) (hy : ys ≠ []) (hsx : So cmp xs) (hsy : So cmp ys) (hG : ∀ f ∈ pre ++ xs ++ ys ++ suf, G f) (hn : (pre ++ xs ++ ys ++ suf).length = n) (h1 : ¬ xs.length = 1) (h2 : ys.length = 1) : ∃ zs : List Fi, zs.Perm (xs ++ ys) /\ So cmp zs /\ vl e 10737 1 [I n, I pre.length, I (pre.length + xs.length : Nat), I (pre.length + xs.length + ys.length : Nat), cmpV, aggF (pre ++ xs ++ ys ++ suf)] = some (aggF (pre ++ zs ++ suf)) := by
 have hxp := Xax.2 hx
 have hyp := Xax.2 hy
 have hl := hn
 simp only [Xai] at hl
 obtain ⟨a, ha⟩ : ∃ a, a = pre.length := ⟨_, rfl⟩
 obtain ⟨m, hm⟩ : ∃ m, m = pre.length + xs.length := ⟨_, rfl⟩
 obtain ⟨b, hb⟩ : ∃ b, b = pre.length + xs.length + ys.length := ⟨_, rfl⟩
 rw [<- hb, <- hm, <- ha]
 rw [w.zq56_h1]; unfold y.zq56_h1
 match ys, h2 with
 | [u], _ =>
 simp only [Xau, Xa5] at *
 obtain ⟨p, r1, r2, r3, r4⟩ := v.sym54 ho n hn2 pre xs suf u (by simpa using hG) hsx (by simpa using hn) m hm xs.length 0 xs.length (by omega) (by omega) (Xag _) (fun k _ h => absurd h (by omega)) (fun k h1 h2 => absurd h1 (by omega))
 have r5 := v.sym73 (e := e) n hn2 (xs.drop p) (pre ++ xs.take p) suf u (pre.length + p) m (by simp; omega) (by simp; omega) (by rw [<- hn]; simp)
 have q1 := Znc (P := fun t => ¬ cmp u t < 0) r2
 have q2 := Zi9 (P := fun t => cmp u t < 0) r3
 refine ⟨xs.take p ++ u :: xs.drop p, ?_, ?_, ?_⟩
 ·refine List.perm_middle.trans ?_
  rw [Xbi]
  exact List.perm_append_comm (l₁ := [u])
 ·refine Xch.2 ⟨hsx.sublist (List.take_sublist _ _), Xc6.2 ⟨fun t ht => ho.asy _ _ (q2 t ht), hsx.sublist (Xey _ _)⟩, fun s hs t ht => ?_⟩
  rcases Xay.1 ht with rfl | ht
  ·exact q1 s hs
  ·exact ho.tr _ _ _ (q1 s hs) (ho.asy _ _ (q2 t ht))
 ·simp only [yy, Zei (show a <= m by omega) (by omega), if_neg (show ¬((m - a : Nat) : Int) = 1 by omega), Zei (show m <= b by omega) (by omega), if_pos (show ((b - m : Nat) : Int) = 1 by omega)]
  rw [<- hm, Xcq, <- ha] at r4
  rw [<- ha] at r5
  rw [show pre ++ xs ++ [u] ++ suf = pre ++ xs ++ u :: suf by simp, r4, show pre ++ xs ++ u :: suf = pre ++ xs.take p ++ xs.drop p ++ u :: suf by rw [Xap pre (xs.take p), Xbi], r5]
  simp
theorem v.symC (n : Nat) (hn2 : n <= 1000000000) (pre xs ys suf : List Fi) (hx : xs ≠ []) (hy : ys ≠ []) (hsx : So cmp xs) (hsy : So cmp ys) (hG : ∀ f ∈ pre ++ xs ++ ys ++ suf, G f) (hn : (pre ++ xs ++ ys ++ suf).length = n)
  (k : Nat) (ih : ∀ (pre xs ys suf : List Fi), xs ≠ [] -> ys ≠ [] -> xs.length + ys.length <= k -> So cmp xs -> So cmp ys -> (∀ f ∈ pre ++ xs ++ ys ++ suf, G f) -> (pre ++ xs ++ ys ++ suf).length = n ->
  ∃ zs : List Fi, zs.Perm (xs ++ ys) /\ So cmp zs /\ vl e 10737 1 [I n, I pre.length, I (pre.length + xs.length : Nat), I (pre.length + xs.length + ys.length : Nat), cmpV, aggF (pre ++ xs ++ ys ++ suf)] = some (aggF (pre ++ zs ++ suf))) (hk : xs.length + ys.length <= k + 1) (h1 : ¬ xs.length = 1) (h2 : ¬ ys.length = 1) : ∃ zs : List Fi, zs.Perm (xs ++ ys) /\ So cmp zs /\ vl e 10737 1 [I n, I pre.length, I (pre.length + xs.length : Nat), I (pre.length + xs.length + ys.length : Nat), cmpV, aggF (pre ++ xs ++ ys ++ suf)] = some (aggF (pre ++ zs ++ suf)) := by
 have hxp := Xax.2 hx
 have hyp := Xax.2 hy
 have hl := hn
 simp only [Xai] at hl
 obtain ⟨a, ha⟩ : ∃ a, a = pre.length := ⟨_, rfl⟩
 obtain ⟨m, hm⟩ : ∃ m, m = pre.length + xs.length := ⟨_, rfl⟩
 obtain ⟨b, hb⟩ : ∃ b, b = pre.length + xs.length + ys.length := ⟨_, rfl⟩
 rw [<- hb, <- hm, <- ha]
 -- the general case
 obtain ⟨mm, hmm⟩ : ∃ mm, mm = (a + b) / 2 := ⟨_, rfl⟩
 obtain ⟨nn, hnn⟩ : ∃ nn, nn = mm + m := ⟨_, rfl⟩
 obtain ⟨L, hL⟩ : ∃ L, L = pre ++ xs ++ ys ++ suf := ⟨_, rfl⟩
 obtain ⟨lo, hlo⟩ : ∃ lo, lo = if mm < m then nn - b else a := ⟨_, rfl⟩
 obtain ⟨hi, hhi⟩ : ∃ hi, hi = if mm < m then mm else m := ⟨_, rfl⟩
 have hb1 : lo <= hi /\ a <= lo /\ hi <= m /\ hi <= mm /\ nn <= lo + b /\ m <= nn - hi /\ hi <= nn := by
  by_cases hc : mm < m
  ·rw [if_pos hc] at hlo hhi; omega
  ·rw [if_neg hc] at hlo hhi; omega
 have dx : ∀ c (h : c - a < xs.length), a <= c -> L.getD c ([], []) = xs[c - a] := by
  intro c h hac
  have : c < L.length := by rw [hL, hn]; omega
  rw [Xep, Xad this, Xbz, Xb1 hL]
  rw [Xcw (by simp; omega), Xcw (by simp; omega), Xbs (by omega)]
  simp only [ha]
 have dy : ∀ c (h : c - m < ys.length), m <= c -> L.getD c ([], []) = ys[c - m] := by
  intro c h hac
  have : c < L.length := by rw [hL, hn]; omega
  rw [Xep, Xad this, Xbz, Xb1 hL]
  rw [Xcw (by simp; omega), Xbs (by simp; omega)]
  simp only [Xai, hm]
 obtain ⟨s, s1, s2, s3, s4, s5⟩ := v.sym106 ho n hn2 L (by rw [hL, hn]) (by rw [hL]; exact hG) a m b mm nn lo hi (by omega) (by omega) (fun c _ _ => by omega) (fun c c' k1 k2 k3 hle => by
  have f1 := dx c (by omega) (by omega)
  have f2 := dx c' (by omega) (by omega)
  have f3 := dy (nn - 1 - c) (by omega) (by omega)
  have f4 := dy (nn - 1 - c') (by omega) (by omega)
  rw [f4, f2] at hle
  rw [f1, f3]
  have g1 : Le cmp (xs[c - a]'(by omega)) (xs[c' - a]'(by omega)) := Zfe ho hsx (by omega) (by omega)
  have g2 : Le cmp (ys[nn - 1 - c' - m]'(by omega)) (ys[nn - 1 - c - m]'(by omega)) := Zfe ho hsy (by omega) (by omega)
  exact ho.tr _ _ _ (ho.tr _ _ _ g1 hle) g2) (hi - lo) lo hi (Xag _) (Xag _) hb1.1 (Xag _) (fun c k1 k2 => absurd k1 (by omega)) (fun c k1 k2 => absurd k1 (by omega))
 obtain ⟨en, hen⟩ : ∃ en, en = nn - s := ⟨_, rfl⟩
 obtain ⟨x1, x2, hx12, hx1⟩ : ∃ x1 x2, xs = x1 ++ x2 /\ x1.length = s - a := ⟨xs.take (s - a), xs.drop (s - a), Zgf _ _, by simp; omega⟩
 obtain ⟨y1, y2, hy12, hy1⟩ : ∃ y1 y2, ys = y1 ++ y2 /\ y1.length = en - m := ⟨ys.take (en - m), ys.drop (en - m), Zgf _ _, by simp; omega⟩
 have hxl : xs.length = x1.length + x2.length := by rw [hx12, Xai]
 have hyl : ys.length = y1.length + y2.length := by rw [hy12, Xai]
 have sx := Xch.1 (hx12 ▸ hsx)
 have sy := Xch.1 (hy12 ▸ hsy)
 have c12 : ∀ u ∈ x1, ∀ t ∈ y2, Le cmp u t := by
  intro u hu t ht
  obtain ⟨i, hi', rfl⟩ := Xb6.1 hu
  obtain ⟨j, hj, rfl⟩ := Xb6.1 ht
  have hlt : lo < s := by
   refine Nat.lt_of_le_of_ne s1 fun h => ?_
   by_cases hc : mm < m
   ·rw [if_pos hc] at hlo; omega
   ·rw [if_neg hc] at hlo; omega
  have hP := s3 (s - 1) (by omega) (by omega)
  rw [dx (s - 1) (by omega) (by omega), dy (nn - 1 - (s - 1)) (by omega) (by omega)] at hP
  have g1 : Le cmp (xs[i]'(by omega)) (xs[s - 1 - a]'(by omega)) := Zfe ho hsx (by omega) (by omega)
  have g2 : Le cmp (ys[nn - 1 - (s - 1) - m]'(by omega)) (ys[y1.length + j]'(by omega)) := Zfe ho hsy (by omega) (by omega)
  have g3 := ho.tr _ _ _ (ho.tr _ _ _ g1 hP) g2
  have f1 : xs[i]'(by omega) = x1[i] := by rw [Xb1 hx12, Xcw hi']
  have f2 : ys[y1.length + j]'(by omega) = y2[j] := by rw [Xb1 hy12, Xbs (by omega)]; simp
  rw [f1, f2] at g3
  exact g3
 have c21 : ∀ t ∈ y1, ∀ u ∈ x2, Le cmp t u := by
  intro t ht u hu
  obtain ⟨i, hi', rfl⟩ := Xb6.1 hu
  obtain ⟨j, hj, rfl⟩ := Xb6.1 ht
  have hlt : s < hi := by
   refine Nat.lt_of_le_of_ne s2 fun h => ?_
   by_cases hc : mm < m
   ·rw [if_pos hc] at hhi; omega
   ·rw [if_neg hc] at hhi; omega
  have hP := s4 s (Xag _) hlt
  rw [dx s (by omega) (by omega), dy (nn - 1 - s) (by omega) (by omega)] at hP
  have g1 : Le cmp (xs[s - a]'(by omega)) (xs[x1.length + i]'(by omega)) := Zfe ho hsx (by omega) (by omega)
  have g2 : Le cmp (ys[j]'(by omega)) (ys[nn - 1 - s - m]'(by omega)) := Zfe ho hsy (by omega) (by omega)
  have g3 := ho.tr _ _ _ (ho.tr _ _ _ g2 (ho.asy _ _ hP)) g1
  have f1 : xs[x1.length + i]'(by omega) = x2[i] := by rw [Xb1 hx12, Xbs (by omega)]; simp
  have f2 : ys[j]'(by omega) = y1[j] := by rw [Xb1 hy12, Xcw hj]
  rw [f1, f2] at g3
  exact g3
 have hrow : L = pre ++ x1 ++ x2 ++ y1 ++ (y2 ++ suf) := by rw [hL, hx12, hy12]; simp
 have hperm : (x1 ++ y1 ++ (x2 ++ y2)).Perm (xs ++ ys) := by
  rw [hx12, hy12]
  have : (y1 ++ x2).Perm (x2 ++ y1) := List.perm_append_comm
  have := (this.append_left x1).append_right y2
  simpa using this
 obtain ⟨z1, z2, p1, p2, p3, p4, p5⟩ := v.sym129 (e := e) (G := G) (cmp := cmp) n k hn2 ih pre x1 y1 x2 y2 suf sx.1 sy.1 sx.2.1 sy.2.1 (by omega) (by omega) (fun f hf => hG f (by
  have := ((hperm.append_left pre).append_right suf).mem_iff (a := f)
  simp only [Xap] at this hf ⊢
  exact this.1 hf)) (by rw [<- hn, hx12, hy12]; simp; omega) a b mm s en ha (by omega) (by omega) (by omega) (by omega)
 have hrot : (if s < m /\ m < en then vl e 10977 1 [I n, I s, I m, I en, cmpV, aggF L] else some (aggF L)) = some (aggF (pre ++ (x1 ++ y1) ++ (x2 ++ y2) ++ suf)) := by
  by_cases hc : s < m /\ m < en
  ·rw [if_pos hc]
   have := v.rotF (e := e) n s m en cmpV hn2 x2 y1 (pre ++ x1) (y2 ++ suf) (Xax.1 (by omega)) (Xax.1 (by omega)) (by simp; omega) (by simp; omega) (by omega) (by rw [<- hn, hx12, hy12]; simp)
   rw [hrow, this]; simp
  ·rw [if_neg hc, hrow]
   have : x2 = [] \/ y1 = [] := by
    by_cases h0 : x2 = []
    ·exact .inl h0
    ·have := Xax.2 h0
     exact .inr (Xa7 (by omega))
   rcases this with rfl | rfl <;> simp
 have fin : vl e 10737 106 [I n, I a, I m, I b, cmpV, I mm, I nn, I lo, I hi, I (nn - 1 : Nat), aggF L] = some (aggF (pre ++ (z1 ++ z2) ++ suf)) := by
  rw [s5, w.zq56_h1_106]; unfold y.zq56_h1_106
  simp only [yy, if_neg (show ¬(s : Int) < (s : Int) by omega), Zei (show s <= nn by omega) (by omega), <- hen]
  by_cases hc1 : s < m
  ·by_cases hc2 : m < en
   ·rw [if_pos ⟨hc1, hc2⟩] at hrot
    simp only [yy, if_pos (show (s : Int) < (m : Int) by omega), if_pos (show (m : Int) < (en : Int) by omega), hrot]
    exact p5
   ·rw [if_neg (by omega)] at hrot
    have hrot := V.agg.inj (Option.some.inj hrot)
    simp only [yy, if_pos (show (s : Int) < (m : Int) by omega), if_neg (show ¬(m : Int) < (en : Int) by omega)]
    rw [aggF, hrot]; exact p5
  ·rw [if_neg (by omega)] at hrot
   have hrot := V.agg.inj (Option.some.inj hrot)
   simp only [yy, if_neg (show ¬(s : Int) < (m : Int) by omega)]
   rw [aggF, hrot]; exact p5
 refine ⟨z1 ++ z2, (p1.append p2).trans hperm, ?_, ?_⟩
 ·refine Xch.2 ⟨p3, p4, fun u hu t ht => ?_⟩
  rcases Xa3.1 (p1.mem_iff.1 hu) with hu | hu <;> rcases Xa3.1 (p2.mem_iff.1 ht) with ht | ht
  ·exact sx.2.2 u hu t ht
  ·exact c12 u hu t ht
  ·exact c21 u hu t ht
  ·exact sy.2.2 u hu t ht
 ·rw [<- hL, v.symE n a m b (by omega) (by omega) (by omega) (aggF L), <- hmm, <- hnn, <- hlo, <- hhi]
  exact fin
theorem v.sym (n : Nat) (hn2 : n <= 1000000000) : ∀ (k : Nat) (pre xs ys suf : List Fi), xs ≠ [] -> ys ≠ [] -> xs.length + ys.length <= k -> So cmp xs -> So cmp ys -> (∀ f ∈ pre ++ xs ++ ys ++ suf, G f) -> (pre ++ xs ++ ys ++ suf).length = n ->
  ∃ zs : List Fi, zs.Perm (xs ++ ys) /\ So cmp zs /\ vl e 10737 1 [I n, I pre.length, I (pre.length + xs.length : Nat), I (pre.length + xs.length + ys.length : Nat), cmpV, aggF (pre ++ xs ++ ys ++ suf)] = some (aggF (pre ++ zs ++ suf)) := by
 intro k
 induction k with
 | zero => intro pre xs ys suf hx hy hk; have := Xax.2 hx; omega
 | succ k ih =>
  intro pre xs ys suf hx hy hk hsx hsy hG hn
  by_cases h1 : xs.length = 1
  ·exact v.symA ho n hn2 pre xs ys suf hx hy hsx hsy hG hn h1
  by_cases h2 : ys.length = 1
  ·exact v.symB ho n hn2 pre xs ys suf hx hy hsx hsy hG hn h1 h2
  exact v.symC ho n hn2 pre xs ys suf hx hy hsx hsy hG hn k ih hk h1 h2
end
end Go.Proofs.YtpmgdngjbdkdfaaDoor
namespace Go.Proofs.YtpmgdngjbdkdfaaDoor
open Go.Abs
set_option maxRecDepth 10000
variable {e : Ev}
inductive Bk (cmp : Fi -> Fi -> Int) (bs : Nat) : List Fi -> Prop
 | last {l : List Fi} (h : l.length <= bs) (hs : So cmp l) : Bk cmp bs l
 | cons {x r : List Fi} (h : x.length = bs) (hs : So cmp x) (hr : Bk cmp bs r) : Bk cmp bs (x ++ r)
theorem v.ins0 (n a : Nat) (ha : a <= 1000000000) (l : List Fi) : vl e 10721 1 [I n, I a, I a, cmpV, aggF l] = some (aggF l) := by
 rw [w.zq52_h1]; unfold y.zq52_h1
 simp only [yy, Zay (show a < a + 1 by omega) (by omega)]
 rw [w.zq52_h1_5]; unfold y.zq52_h1_5
 simp only [yy, if_neg (show ¬((a + 1 : Nat) : Int) < (a : Int) by omega)]
section
variable {G : Fi -> Prop} {cmp : Fi -> Fi -> Int} (ho : Ord e G cmp)
include ho
theorem v.stab8 (n : Nat) (hn2 : n <= 1000000000) : ∀ (k : Nat) (D R : List Fi), R.length <= k -> (∀ f ∈ D ++ R, G f) -> (D ++ R).length = n ->
  ∃ R' : List Fi, R'.Perm R /\ Bk cmp 20 R' /\ vl e 10449 8 [I n, I n, cmpV, I 20, I D.length, I (D.length + 20 : Nat), aggF (D ++ R)] = vl e 10449 24 [I n, I n, cmpV, I 20, aggF (D ++ R')] := by
 intro k
 induction k with
 | zero =>
  intro D R hk hG hn
  have : R = [] := Xa7 (by omega)
  subst this
  simp only [Xaw] at *
  refine ⟨[], .refl _, .last (by simp) (by simp [So]), ?_⟩
  rw [w.zq54_h1_8]; unfold y.zq54_h1_8
  have := v.ins0 (e := e) n D.length (by omega) D
  rw [hn] at this
  simp only [yy, hn, if_neg (show ¬((n + 20 : Nat) : Int) <= (n : Int) by omega), this, Xaw]
 | succ k ih =>
  intro D R hk hG hn
  have hl := hn
  simp only [Xai] at hl
  rw [w.zq54_h1_8]; unfold y.zq54_h1_8
  by_cases hc : D.length + 20 <= n
  ·obtain ⟨x, r, hR, hx⟩ : ∃ x r, R = x ++ r /\ x.length = 20 := ⟨R.take 20, R.drop 20, Zgf _ _, by simp; omega⟩
   subst hR
   simp only [Xai] at *
   obtain ⟨S, q1, q2, q3⟩ := v.ins ho D x r (by simpa using hG) (by simp; omega) (Xax.1 (by omega))
   have hS : S.length = 20 := by rw [q1.length_eq, hx]
   obtain ⟨R', r1, r2, r3⟩ := ih (D ++ S) r (by omega) (fun f hf => hG f (by
    have := ((q1.append_left D).append_right r).mem_iff (a := f)
    simp only [Xap] at this hf
    exact this.1 hf)) (by simp; omega)
   refine ⟨S ++ R', q1.append r1, .cons hS q2 r2, ?_⟩
   rw [show (D ++ x ++ r).length = n by simp; omega, hx] at q3
   rw [show (D ++ S).length = D.length + 20 by simp; omega] at r3
   simp only [yy, if_pos (show ((D.length + 20 : Nat) : Int) <= (n : Int) by omega)]
   rw [show D ++ (x ++ r) = D ++ x ++ r by simp, q3]
   have e20 : IntKind.i64.wrap (((D.length + 20 : Nat) : Int) + 20) = ((D.length + 20 + 20 : Nat) : Int) := Zdq (b := 20) (by omega)
   simp only [Xaj, e20]
   rw [r3]; simp
  ·by_cases h0 : R = []
   ·subst h0
    simp only [Xaw, Xa5] at *
    refine ⟨[], .refl _, .last (by simp) (by simp [So]), ?_⟩
    have := v.ins0 (e := e) n D.length (by omega) D
    rw [hn] at this
    simp only [yy, hn, if_neg (show ¬((n + 20 : Nat) : Int) <= (n : Int) by omega), this, Xaw]
   ·obtain ⟨S, q1, q2, q3⟩ := v.ins ho D R [] (by simpa using hG) (by simp; omega) h0
    refine ⟨S, q1, .last (by rw [q1.length_eq]; omega) q2, ?_⟩
    simp only [Xaw] at q3
    rw [hn, show D.length + R.length = n by omega] at q3
    simp only [yy, if_neg (show ¬((D.length + 20 : Nat) : Int) <= (n : Int) by omega), q3]
theorem v.stab36 (n : Nat) (hn2 : n <= 1000000000) (bs : Nat) (hbs : 0 < bs) (hb2 : bs <= n) : ∀ (k : Nat) (D R : List Fi), R.length <= k -> Bk cmp bs R -> (∀ f ∈ D ++ R, G f) -> (D ++ R).length = n ->
  ∃ R' : List Fi, R'.Perm R /\ Bk cmp (2 * bs) R' /\ vl e 10449 36 [I n, I n, cmpV, I bs, I D.length, I (D.length + 2 * bs : Nat), aggF (D ++ R)] = vl e 10449 24 [I n, I n, cmpV, I (2 * bs : Nat), aggF (D ++ R')] := by
 have m2 : IntKind.i64.wrap (2 * (bs : Int)) = ((2 * bs : Nat) : Int) := Z05 (a := 2) (by omega)
 have m3 : IntKind.i64.wrap ((bs : Int) * 2) = ((2 * bs : Nat) : Int) := by rw [Int.mul_comm]; exact m2
 have w2 : evp (.bin .mul .no) [.int .i64 2, I bs] = some (I (2 * bs : Nat)) := by rw [Zof, m2]
 have w3 : evp (.bin .mul .no) [I bs, .int .i64 2] = some (I (2 * bs : Nat)) := by rw [Zof, m3]
 intro k
 induction k with
 | zero =>
  intro D R hk hB hG hn
  have : R = [] := Xa7 (by omega)
  subst this
  simp only [Xaw] at *
  refine ⟨[], .refl _, .last (by simp) (by simp [So]), ?_⟩
  rw [w.zq54_h1_36]; unfold y.zq54_h1_36
  simp only [yy, if_neg (show ¬((D.length + 2 * bs : Nat) : Int) <= (n : Int) by omega), Zdq (show D.length + bs <= _ by omega), if_neg (show ¬((D.length + bs : Nat) : Int) < (n : Int) by omega), w3, Xaw]
 | succ k ih =>
  intro D R hk hB hG hn
  have hl := hn
  simp only [Xai] at hl
  rw [w.zq54_h1_36]; unfold y.zq54_h1_36
  by_cases hc : D.length + 2 * bs <= n
  ·obtain ⟨x, z, r, hR, hx, hz, sx, sz, hBr⟩ : ∃ x z r, R = x ++ z ++ r /\ x.length = bs /\ z.length = bs /\ So cmp x /\ So cmp z /\ Bk cmp bs r := by
    cases hB with
    | last h hs => omega
    | @cons x r h hs hr =>
     cases hr with
     | last h2 hs2 => exact ⟨x, r, [], by simp, h, by simp at hl; omega, hs, hs2, .last (by simp) (by simp [So])⟩
     | @cons z r' h2 hs2 hr2 => exact ⟨x, z, r', by simp, h, h2, hs, hs2, hr2⟩
   subst hR
   simp only [Xai] at *
   obtain ⟨S, q1, q2, q3⟩ := v.sym ho n hn2 (x.length + z.length) D x z r (Xax.1 (by omega)) (Xax.1 (by omega)) (Xag _) sx sz (by simpa using hG) (by simp; omega)
   have hS : S.length = 2 * bs := by rw [q1.length_eq, Xai]; omega
   obtain ⟨R', r1, r2, r3⟩ := ih (D ++ S) r (by omega) hBr (fun f hf => hG f (by
    have := ((q1.append_left D).append_right r).mem_iff (a := f)
    simp only [Xap] at this hf ⊢
    exact this.1 hf)) (by simp; omega)
   refine ⟨S ++ R', q1.append r1, .cons hS q2 r2, ?_⟩
   rw [show D.length + x.length + z.length = D.length + 2 * bs by omega, hx] at q3
   rw [show (D ++ S).length = D.length + 2 * bs by simp; omega] at r3
   simp only [yy, if_pos (show ((D.length + 2 * bs : Nat) : Int) <= (n : Int) by omega), Zdq (show D.length + bs <= _ by omega), w2, Zdq (show D.length + 2 * bs + 2 * bs <= _ by omega)]
   rw [show D ++ (x ++ z ++ r) = D ++ x ++ z ++ r by simp, q3]
   simp only [Xaj]
   rw [r3]; simp
  ·by_cases hm : D.length + bs < n
   ·obtain ⟨x, z, hR, hx, hz, sx, sz⟩ : ∃ x z, R = x ++ z /\ x.length = bs /\ 0 < z.length /\ So cmp x /\ So cmp z := by
     cases hB with
     | last h hs => omega
     | @cons x r h hs hr =>
      cases hr with
      | last h2 hs2 => exact ⟨x, r, rfl, h, by simp at hl; omega, hs, hs2⟩
      | @cons z r' h2 hs2 hr2 => simp at hl; omega
    subst hR
    simp only [Xai] at *
    obtain ⟨S, q1, q2, q3⟩ := v.sym ho n hn2 (x.length + z.length) D x z [] (Xax.1 (by omega)) (Xax.1 (by omega)) (Xag _) sx sz (by simpa using hG) (by simp; omega)
    refine ⟨S, q1, .last (by rw [q1.length_eq, Xai]; omega) q2, ?_⟩
    rw [show D.length + x.length + z.length = n by omega, hx] at q3
    simp only [Xaw] at q3
    simp only [yy, if_neg (show ¬((D.length + 2 * bs : Nat) : Int) <= (n : Int) by omega), Zdq (show D.length + bs <= _ by omega), if_pos (show ((D.length + bs : Nat) : Int) < (n : Int) by omega), w3]
    rw [show D ++ (x ++ z) = D ++ x ++ z by simp, q3]
    rfl
   ·refine ⟨R, .refl _, .last (by omega) ?_, ?_⟩
    ·cases hB with
     | last h hs => exact hs
     | @cons x r h hs hr =>
      simp only [Xai] at hl
      have : r = [] := Xa7 (by omega)
      subst this; simpa using hs
    ·simp only [yy, if_neg (show ¬((D.length + 2 * bs : Nat) : Int) <= (n : Int) by omega), Zdq (show D.length + bs <= _ by omega), if_neg (show ¬((D.length + bs : Nat) : Int) < (n : Int) by omega), w3]
theorem v.stab24 (n : Nat) (hn2 : n <= 1000000000) : ∀ (k bs : Nat) (l : List Fi), 0 < bs -> n - bs <= k -> Bk cmp bs l -> (∀ f ∈ l, G f) -> l.length = n ->
  ∃ S : List Fi, S.Perm l /\ So cmp S /\ vl e 10449 24 [I n, I n, cmpV, I bs, aggF l] = some (aggF S) := by
 intro k
 have fin : ∀ (bs : Nat) (l : List Fi), n <= bs -> 0 < bs -> Bk cmp bs l -> l.length = n -> ∃ S : List Fi, S.Perm l /\ So cmp S /\ vl e 10449 24 [I n, I n, cmpV, I bs, aggF l] = some (aggF S) := by
  intro bs l hbs hb0 hB hn
  refine ⟨l, .refl _, ?_, ?_⟩
  ·cases hB with
   | last h hs => exact hs
   | @cons x r h hs hr =>
    simp only [Xai] at hn
    have : r = [] := Xa7 (by omega)
    subst this; simpa using hs
  ·rw [w.zq54_h1_24]; unfold y.zq54_h1_24
   simp only [yy, if_neg (show ¬(bs : Int) < (n : Int) by omega)]
 induction k with
 | zero => intro bs l hb0 hk hB hG hn; exact fin bs l (by omega) hb0 hB hn
 | succ k ih =>
  intro bs l hb0 hk hB hG hn
  by_cases hc : bs < n
  ·obtain ⟨R', r1, r2, r3⟩ := v.stab36 ho n hn2 bs hb0 (by omega) l.length [] l (Xag _) hB (by simpa using hG) (by simpa using hn)
   obtain ⟨S, q1, q2, q3⟩ := ih (2 * bs) R' (by omega) (by omega) r2 (fun f hf => hG f (r1.mem_iff.1 hf)) (by rw [r1.length_eq, hn])
   refine ⟨S, q1.trans r1, q2, ?_⟩
   have m2 : IntKind.i64.wrap (2 * (bs : Int)) = ((2 * bs : Nat) : Int) := Z05 (a := 2) (by omega)
   rw [w.zq54_h1_24]; unfold y.zq54_h1_24
   simp only [Xa5, Xbg, Xan] at r3
   simp only [yy, if_pos (show (bs : Int) < (n : Int) by omega), Zof, m2]
   exact r3.trans q3
  ·exact fin bs l (by omega) hb0 hB hn
theorem v.sort (l : List Fi) (hG : ∀ f ∈ l, G f) (hn2 : l.length <= 1000000000) :
  ∃ S : List Fi, S.Perm l /\ So cmp S /\ vl e 10256 1 [I l.length, cmpV, aggF l] = some (aggF S) := by
 obtain ⟨R', r1, r2, r3⟩ := v.stab8 ho l.length hn2 l.length [] l (Xag _) (by simpa using hG) (by simp)
 obtain ⟨S, q1, q2, q3⟩ := v.stab24 ho l.length hn2 l.length 20 R' (by omega) (by omega) r2 (fun f hf => hG f (r1.mem_iff.1 hf)) r1.length_eq
 refine ⟨S, q1.trans r1, q2, ?_⟩
 rw [w.zq51_h0]; unfold y.zq51_h0
 have : vl e 10449 1 [I l.length, I l.length, cmpV, aggF l] = some (aggF S) := by
  rw [w.zq54_h1]; unfold y.zq54_h1
  exact r3.trans q3
 simp only [yy, this]
end
end Go.Proofs.YtpmgdngjbdkdfaaDoor
namespace Go.Proofs.YtpmgdngjbdkdfaaDoor
open Go.Abs
set_option maxRecDepth 10000
theorem Zbc (c : UInt8) (s : Bytes) : Zae c s ≠ [] := by
 cases s with
 | nil => simp [Zae]
 | cons b r => simp only [Zae]; split <;> (try split) <;> simp
def addH (cur : Bytes) : List Bytes -> List Bytes
 | [] => [cur]
 | x :: xs => (cur ++ x) :: xs
theorem Zqd {l : List Bytes} (h : l ≠ []) : addH [] l = l := by
 cases l with
 | nil => exact absurd rfl h
 | cons x xs => rfl
theorem Zlx (c : UInt8) (r cur : Bytes) : addH cur (Zae c (c :: r)) = cur :: Zae c r := by simp [Zae, addH]
theorem Zna {c b : UInt8} (h : b ≠ c) (r cur : Bytes) : addH cur (Zae c (b :: r)) = addH (cur ++ [b]) (Zae c r) := by
 simp only [Zae, if_neg h]
 cases h' : Zae c r with
 | nil => exact absurd h' (Zbc _ _)
 | cons x xs => simp [addH]
theorem Zvm {α : Type} {l : List α} {i f : Nat} (h : i < l.length) (hf : f <= i) : (l.take (i + 1)).drop f = (l.take i).drop f ++ [l[i]] := by
 rw [List.take_add_one, Xad h, Option.toList_some, Xb5 (by simp; omega)]
theorem Zfs (c : UInt8) (b : Bytes) : ∀ a : Bytes, Zae c (a ++ c :: b) = Zae c a ++ Zae c b
 | [] => by simp [Zae]
 | x :: a => by
  have ih := Zfs c b a
  simp only [Xbf, Zae]
  split
  ·rw [ih]; rfl
  ·rw [ih]
   cases h : Zae c a with
   | nil => exact absurd h (Zbc _ _)
   | cons y ys => rfl
variable {e : Ev}
theorem v.hasPrefix0 (s p : Bytes) : vl e 66 0 [.str s, .str p] = some (.bool (decide (s.take p.length = p))) := by
 rw [w.zq8]; unfold y.zq8
 by_cases h : p.length <= s.length
 ·simp only [yy, if_pos (show (p.length : Int) <= (s.length : Int) by omega), Zmi h]
 ·simp only [yy, if_neg (show ¬((p.length : Int) <= (s.length : Int)) by omega)]
  exact Z2r fun h1 => by have := congrArg List.length h1; simp at this; omega
theorem Zzs {s p : Bytes} (h : s.take p.length = p) : p.length <= s.length := by have := congrArg List.length h; simp at this; omega
theorem v.cutPrefix (s p : Bytes) : vl e 35 0 [.str s, .str p] = some (.tup [.str (if s.take p.length = p then s.drop p.length else s), .bool (decide (s.take p.length = p))]) := by
 rw [w.zq58]; unfold y.zq58
 have h1 : vl e 51 0 [.str s, .str p] = some (.tup [.str (if s.take p.length = p then s.drop p.length else s), .bool (decide (s.take p.length = p))]) := by
  rw [w.zq7]; unfold y.zq7
  by_cases h : s.take p.length = p
  ·simp only [yy, v.hasPrefix0, if_pos h, Zrs (Zzs h)]; rw [decide_eq_true h]
  ·simp only [yy, v.hasPrefix0, if_neg h]; rw [decide_eq_false h]
 simp only [yy, h1]
end Go.Proofs.YtpmgdngjbdkdfaaDoor
namespace Go.Proofs.YtpmgdngjbdkdfaaDoor
open Go.Abs
set_option maxRecDepth 10000
theorem Zcr (c : UInt8) : ∀ s : Bytes, (Zae c s).length <= s.length + 1
 | [] => by simp [Zae]
 | b :: r => by
  have := Zcr c r
  simp only [Zae]
  split
  ·simp; omega
  ·split
   ·simp
   ·rename_i x xs h; rw [h] at this; simp at this ⊢; omega
def tot (k : Nat) : List Bytes -> Nat
 | [] => 0
 | x :: r => x.length + k + tot k r
theorem Zsc (k : Nat) : ∀ {l : List Bytes} {x : Bytes}, x ∈ l -> x.length + k <= tot k l
 | y :: r, x, h => by
  rcases Xay.1 h with rfl | h
  ·simp [tot]
  ·have := Zsc k h; simp [tot]; omega
theorem Zix (c : UInt8) : ∀ s : Bytes, tot 1 (Zae c s) = s.length + 1
 | [] => by simp [Zae, tot]
 | b :: r => by
  have ih := Zix c r
  simp only [Zae]
  split
  ·simp [tot, ih]; omega
  ·split
   ·rename_i h; exact absurd h (Zbc _ _)
   ·rename_i x xs h; rw [h] at ih; simp [tot] at ih ⊢; omega
def Zgg (sep : Bytes) : List Bytes -> Bytes
 | [] => []
 | [x] => x
 | x :: y :: r => x ++ sep ++ Zgg sep (y :: r)
theorem Zlr (sep : Bytes) : ∀ l : List Bytes, Lib.join l sep = Zgg sep l
 | [] => rfl
 | [x] => by simp [Lib.join, List.intercalate, Zgg]
 | x :: y :: r => by
  have ih := Zlr sep (y :: r)
  simp only [Lib.join, List.intercalate] at ih ⊢
  rw [Zgg, <- ih]; simp [List.intersperse]
theorem Zdm {c : UInt8} : ∀ {s : Bytes}, c ∉ s -> Zae c s = [s]
 | [], _ => rfl
 | b :: r, h => by
  simp only [Xay, not_or] at h
  simp only [Zae, if_neg (Ne.symm h.1), Zdm h.2]
def cmpB (a b : Bytes) : Int := if Op.bytesLess a b then -1 else if Op.bytesLess b a then 1 else 0
theorem Zcu {a b : Bytes} : cmpB a b = 0 <-> a = b := by
 unfold cmpB
 cases h : Op.bytesLess a b
 ·cases h' : Op.bytesLess b a
  ·simp [Zk6 h h']
  ·simp; rintro rfl; rw [Zdh] at h'; cases h'
 ·simp; rintro rfl; rw [Zdh] at h; cases h
theorem Zmn (a b : Bytes) : cmpB b a = - cmpB a b := by
 unfold cmpB
 cases h : Op.bytesLess a b
 ·cases h' : Op.bytesLess b a <;> simp
 ·simp [Zjl h]
theorem Zhf {a b : Bytes} : cmpB a b < 0 <-> Op.bytesLess a b = true := by
 unfold cmpB
 cases h : Op.bytesLess a b
 ·cases h' : Op.bytesLess b a <;> simp
 ·simp
theorem Zrd {a b c : Bytes} (h1 : cmpB a b < 0) (h2 : cmpB b c < 0) : cmpB a c < 0 := Zhf.2 (Ze4 (Zhf.1 h1) (Zhf.1 h2))
theorem Zq8 (a b : Bytes) : cmpB a b = -1 \/ cmpB a b = 0 \/ cmpB a b = 1 := by
 unfold cmpB; split
 ·exact .inl rfl
 ·split
  ·exact .inr (.inr rfl)
  ·exact .inr (.inl rfl)
def cmpL : List Bytes -> List Bytes -> Int
 | [], [] => 0
 | [], _ :: _ => -1
 | _ :: _, [] => 1
 | a :: r, b :: s => if cmpB a b = 0 then cmpL r s else cmpB a b
theorem cmpL_zero : ∀ {a b : List Bytes}, cmpL a b = 0 <-> a = b
 | [], [] => by simp [cmpL]
 | [], _ :: _ => by simp [cmpL]
 | _ :: _, [] => by simp [cmpL]
 | a :: r, b :: s => by
  simp only [cmpL]
  split
  ·rename_i h; rw [cmpL_zero, Xek, Zcu.1 h]; simp
  ·rename_i h
   simp only [h, false_iff]
   intro he
   simp only [Xek] at he
   exact h (Zcu.2 he.1)
theorem Zhx : ∀ (a b : List Bytes), cmpL b a = - cmpL a b
 | [], [] => rfl
 | [], _ :: _ => rfl
 | _ :: _, [] => rfl
 | a :: r, b :: s => by
  simp only [cmpL]
  rw [Zmn a b, Zhx r s]
  by_cases h : cmpB a b = 0
  ·simp [h]
  ·simp [h]
theorem Zju : ∀ {a b c : List Bytes}, cmpL a b < 0 -> cmpL b c < 0 -> cmpL a c < 0
 | [], [], _, h, _ => by simp [cmpL] at h
 | _ :: _, [], _, h, _ => by simp [cmpL] at h
 | _, _ :: _, [], _, h => by simp [cmpL] at h
 | [], _ :: _, _ :: _, _, _ => by simp [cmpL]
 | a :: r, b :: s, c :: t, h1, h2 => by
  simp only [cmpL] at h1 h2 ⊢
  by_cases e1 : cmpB a b = 0
  ·have := Zcu.1 e1; subst this
   rw [if_pos e1] at h1
   by_cases e2 : cmpB a c = 0
   ·rw [if_pos e2] at h2 ⊢; exact Zju h1 h2
   ·rw [if_neg e2] at h2 ⊢; exact h2
  ·rw [if_neg e1] at h1
   by_cases e2 : cmpB b c = 0
   ·have := Zcu.1 e2; subst this
    rw [if_neg e1]; exact h1
   ·rw [if_neg e2] at h2
    have := Zrd h1 h2
    rw [if_neg (by omega)]; exact this
theorem Zjo : ∀ (a b : List Bytes), cmpL a b = -1 \/ cmpL a b = 0 \/ cmpL a b = 1
 | [], [] => by simp [cmpL]
 | [], _ :: _ => by simp [cmpL]
 | _ :: _, [] => by simp [cmpL]
 | a :: r, b :: s => by
  simp only [cmpL]
  split
  ·exact Zjo r s
  ·exact Zq8 a b
def Zap (c : UInt8) : List Bytes -> Bytes
 | [] => []
 | [x] => x
 | x :: y :: r => x ++ c :: Zap c (y :: r)
theorem Zby (c : UInt8) : ∀ s : Bytes, Zap c (Zae c s) = s
 | [] => rfl
 | b :: r => by
  simp only [Zae]
  have ih := Zby c r
  split
  ·rename_i h
   subst h
   cases h' : Zae b r with
   | nil => exact absurd h' (Zbc _ _)
   | cons x xs => rw [h'] at ih; simp [Zap, ih]
  ·cases h' : Zae c r with
   | nil => exact absurd h' (Zbc _ _)
   | cons x xs =>
    rw [h'] at ih
    cases xs with
    | nil => simp [Zap] at ih ⊢; exact ih
    | cons y ys => simp only [Zap] at ih ⊢; rw [<- ih]; rfl
def Zct (p : Bytes) : List Bytes := if p = [] then [] else Zae 47 p
theorem Zqp {p q : Bytes} (h : Zct p = Zct q) : p = q := by
 unfold Zct at h
 split at h
 ·rename_i h1
  split at h
  ·rename_i h2; rw [h1, h2]
  ·exact absurd h.symm (Zbc _ _)
 ·split at h
  ·exact absurd h (Zbc _ _)
  ·have := congrArg (Zap 47) h; rwa [Zby, Zby] at this
def pcmp (p q : Bytes) : Int := cmpL (Zct p) (Zct q)
theorem Zll {p q : Bytes} : pcmp p q = 0 <-> p = q := cmpL_zero.trans ⟨Zqp, fun h => by rw [h]⟩
theorem Zf5 (p q : Bytes) : pcmp q p = - pcmp p q := Zhx _ _
theorem Zqx {p q r : Bytes} (h1 : pcmp p q < 0) (h2 : pcmp q r < 0) : pcmp p r < 0 := Zju h1 h2
theorem Zjq (p q : Bytes) : pcmp p q = -1 \/ pcmp p q = 0 \/ pcmp p q = 1 := Zjo _ _
def Zb0 (s : Bytes) : Bool := !decide (s = []) && !decide (s = [46]) && !decide (s = [46, 46]) && !decide ((0 : UInt8) ∈ s) && !decide ((47 : UInt8) ∈ s)
def Zc3 (p : Bytes) : Bool := decide (p.length <= 128) && decide ((Zae 47 p).length <= 16) && (Zae 47 p).all Zb0
def Zcj (d p : Bytes) : Option Bytes := if d = [] then (if p = [] then none else some p) else if p.take (d.length + 1) = d ++ [47] /\ p.drop (d.length + 1) ≠ [] then some (p.drop (d.length + 1)) else none
theorem Zch (c : UInt8) {s x : Bytes} (h : x ∈ Zae c s) : x.length <= s.length := by
 have := Zsc 1 h
 rw [Zix] at this; omega
theorem Ze3 {p : Bytes} (h : Zc3 p = true) : ∀ x ∈ Zae 47 p, Zb0 x = true := by
 simp only [Zc3, Xah] at h
 exact fun x hx => Xam.1 h.2 x hx
theorem Zrm {s : Bytes} (h : Zb0 s = true) : s ≠ [] := by rintro rfl; simp [Zb0] at h
theorem Zhr {s : Bytes} (h : Zb0 s = true) : (47 : UInt8) ∉ s := by
 simp only [Zb0, Xah, Xbk, decide_eq_false_iff_not] at h
 exact h.2
theorem Zy4 {p : Bytes} (h : Zc3 p = true) : p ≠ [] := by rintro rfl; simp [Zc3, Zae, Zb0] at h
theorem Zv5 {p : Bytes} (h : Zc3 p = true) : p.length <= 128 := by
 simp only [Zc3, Xah, decide_eq_true_eq] at h
 exact h.1.1
theorem Zee (c : UInt8) (x : Bytes) : ∀ l : List Bytes, l ≠ [] -> Zap c (x :: l) = x ++ c :: Zap c l
 | [], h => absurd rfl h
 | _ :: _, _ => rfl
theorem Ze7 (c : UInt8) : ∀ a b : List Bytes, a ≠ [] -> b ≠ [] -> Zap c (a ++ b) = Zap c a ++ c :: Zap c b
 | [], _, h, _ => absurd rfl h
 | [x], b, _, hb => by rw [Xdq, Zee _ _ _ hb]; rfl
 | x :: y :: r, b, _, hb => by
  have := Ze7 c (y :: r) b (by simp) hb
  rw [Xbf, Zee _ _ _ (by simp), this]
  simp [Zap]
theorem Zey {D : List Bytes} (h : D ≠ []) (hp : ∀ x ∈ D, Zb0 x = true) : Zap 47 D ≠ [] := by
 cases D with
 | nil => exact absurd rfl h
 | cons x r =>
  have := Zrm (hp x (by simp))
  cases r with
  | nil => exact this
  | cons z r => simp [Zap]
theorem Zjf {D : List Bytes} (h : D ≠ []) (hp : ∀ x ∈ D, Zb0 x = true) : Zae 47 (Zap 47 D) = D := by
 induction D with
 | nil => exact absurd rfl h
 | cons x r ih =>
  cases r with
  | nil => exact Zdm (Zhr (hp x (by simp)))
  | cons z r =>
   rw [Zee _ _ _ (by simp), Zfs, ih (by simp) fun u hu => hp u (by simp [hu]), Zdm (Zhr (hp x (by simp)))]; rfl
theorem Zn8 {D R : List Bytes} {p : Bytes} (hD : ∀ x ∈ D, Zb0 x = true) (hR : ∀ x ∈ R, Zb0 x = true) (hRn : R ≠ []) (hp : Zae 47 p = D ++ R) : Zcj (Zap 47 D) p = some (Zap 47 R) := by
 have hj := Zby 47 p
 rw [hp] at hj
 have hr := Zey hRn hR
 by_cases h : D = []
 ·subst h
  simp only [Xbg] at hj
  unfold Zcj
  rw [if_pos (show Zap 47 [] = [] from rfl), if_neg (by rw [<- hj]; exact hr), hj]
 ·rw [Ze7 47 D R h hRn] at hj
  unfold Zcj
  rw [if_neg (Zey h hD), <- hj]
  have e1 : (Zap 47 D ++ 47 :: Zap 47 R) = (Zap 47 D ++ [47]) ++ Zap 47 R := by simp
  have e2 : (Zap 47 D).length + 1 = (Zap 47 D ++ [47]).length := by simp
  rw [e1, e2, List.take_left, Xd7, if_pos ⟨rfl, hr⟩]
theorem Zjn {D : List Bytes} {p r : Bytes} (hD : ∀ x ∈ D, Zb0 x = true) (h : Zcj (Zap 47 D) p = some r) : ∃ R, R ≠ [] /\ Zae 47 p = D ++ R := by
 unfold Zcj at h
 by_cases h0 : D = []
 ·exact ⟨Zae 47 p, Zbc _ _, by rw [h0]; rfl⟩
 ·rw [if_neg (Zey h0 hD)] at h
  split at h
  ·rename_i hc
   refine ⟨Zae 47 (p.drop ((Zap 47 D).length + 1)), Zbc _ _, ?_⟩
   have : p = Zap 47 D ++ 47 :: p.drop ((Zap 47 D).length + 1) := by
    conv => lhs; rw [<- Xbi ((Zap 47 D).length + 1) p, hc.1]
    simp
   conv => lhs; rw [this]
   rw [Zfs, Zjf h0 hD]
  ·cases h
theorem Zsg {d p r : Bytes} (h : Zcj d p = some r) : r.length <= p.length := by
 unfold Zcj at h
 split at h
 ·split at h
  ·cases h
  ·cases h; exact Xag _
 ·split at h
  ·cases h; simp
  ·cases h
structure EnvT (e : Ev) : Prop where
 split : ∀ (s : Bytes) (c : UInt8), s.length < 4294967281 -> e 31 [.str s, .str [c]] = some (strs (Zae c s))
 contains : ∀ (s : Bytes) (c : UInt8), s.length < 4294967281 -> e 50 [.str s, .str [c]] = some (.bool (decide (c ∈ s)))
 join : ∀ (l : List Bytes) (s : Bytes), l.length <= 1000000000 -> (Zgg s l).length <= 140737488355328 -> e 53 [strs l, .str s] = some (.str (Zgg s l))
variable {e : Ev}
theorem v.split (he : EnvT e) (s : Bytes) (c : UInt8) (hs : s.length <= 4000000000) : vl e 31 0 [.str s, .str [c]] = some (strs (Zae c s)) := Znk (by kernel_rfl) (he.split s c (by omega))
theorem v.contains (he : EnvT e) (s : Bytes) (c : UInt8) (hs : s.length <= 4000000000) : vl e 50 0 [.str s, .str [c]] = some (.bool (decide (c ∈ s))) := Znk (by kernel_rfl) (he.contains s c (by omega))
theorem v.join (he : EnvT e) (l : List Bytes) (s : Bytes) (hl : l.length <= 1000000000) (hj : (Zgg s l).length <= 140737488355328) : vl e 53 0 [strs l, .str s] = some (.str (Zgg s l)) := Znk (by kernel_rfl) (he.join l s hl hj)
theorem v.pSplit (he : EnvT e) (p : Bytes) (hp : p.length <= 4000000000) : vl e 30 0 [.str p] = some (strs (Zct p)) := by
 rw [w.zq22]; unfold y.zq22 Zct
 by_cases h : p = []
 ·simp only [yy, if_pos h]; rfl
 ·simp only [yy, if_neg h, v.split he p 47 hp]
theorem v.isNaN (s : Bytes) : vl e 62 0 [.str s] = some (.bool false) := by
 rw [w.zq1]; unfold y.zq1
 simp only [yy, ]
 simp
theorem v.cmpStr (a b : Bytes) : vl e 47 0 [.str a, .str b] = some (I (cmpB a b)) := by
 rw [w.zq0]; unfold y.zq0
 have h1 : evp (.bin .gtr .no) [.str a, .str b] = some (.bool (Op.bytesLess b a)) := by
  show some (V.bool (!(Op.bytesLess a b || decide (a = b)))) = _
  rw [Zpf]
 unfold cmpB
 simp only [yy, v.isNaN, h1, Z6y]
 cases Op.bytesLess a b
 ·cases Op.bytesLess b a <;> rfl
 ·rfl
theorem v.slCmp8 (a b : List Bytes) (ha : a.length <= 1000000000) (hb : b.length <= 1000000000) : ∀ (n i : Nat), i + n = a.length -> i <= b.length -> vl e 29 8 [strs a, strs b, strs a, I a.length, I i] = some (I (cmpL (a.drop i) (b.drop i))) := by
 intro n
 induction n with
 | zero =>
  intro i hi hib
  rw [w.zq47_8]; unfold y.zq47_8
  have e1 : a.drop i = [] := Xat (by omega)
  rw [e1]
  by_cases h : a.length < b.length
  ·simp only [yy, if_neg (show ¬((i : Int) < (a.length : Int)) by omega), if_pos (show (a.length : Int) < (b.length : Int) by omega)]
   rw [Xao (show i < b.length by omega)]; rfl
  ·simp only [yy, if_neg (show ¬((i : Int) < (a.length : Int)) by omega), if_neg (show ¬(a.length : Int) < (b.length : Int) by omega)]
   rw [Xat (show b.length <= i by omega)]; rfl
 | succ n ih =>
  intro i hi hib
  have ha' : i < a.length := by omega
  rw [w.zq47_8]; unfold y.zq47_8
  by_cases hb' : i < b.length
  ·have := ih (i + 1) (by omega) (by omega)
   have hd1 := Xao ha'
   have hd2 := Xao hb'
   rw [hd1, hd2, cmpL]
   by_cases hz : cmpB a[i] b[i] = 0
   ·rw [if_pos hz]
    simp only [yy, if_pos (show (i : Int) < (a.length : Int) by omega), Zh6 ha', Zis, if_neg (show ¬(b.length : Int) <= (i : Int) by omega), Zh6 hb', v.cmpStr, if_pos hz, Zay ha' (by omega)]
    exact this
   ·rw [if_neg hz]
    simp only [yy, if_pos (show (i : Int) < (a.length : Int) by omega), Zh6 ha', Zis, if_neg (show ¬(b.length : Int) <= (i : Int) by omega), Zh6 hb', v.cmpStr, if_neg hz]
  ·rw [Xao ha', Xat (show b.length <= i by omega)]
   simp only [yy, if_pos (show (i : Int) < (a.length : Int) by omega), Zh6 ha', Zis, if_pos (show (b.length : Int) <= (i : Int) by omega)]
   rfl
theorem Zge (s : Bytes) : (Zct s).length <= s.length + 1 := by
 unfold Zct; split
 ·simp
 ·exact Zcr 47 s
theorem v.pCompare (he : EnvT e) (a b : Bytes) (ha : a.length <= 1000000) (hb : b.length <= 1000000) : vl e 18 0 [.str a, .str b] = some (I (pcmp a b)) := by
 have h1 := Zge a
 have h2 := Zge b
 have h3 : vl e 29 0 [strs (Zct a), strs (Zct b)] = some (I (pcmp a b)) := by
  rw [w.zq47]; unfold y.zq47
  simp only [yy, Zqa]
  exact v.slCmp8 (Zct a) (Zct b) (by omega) (by omega) (Zct a).length 0 (Xan _) (Xb2 _)
 rw [w.zq16]; unfold y.zq16
 simp only [yy, v.pSplit he a (by omega), v.pSplit he b (by omega), h3]
theorem v.ord (he : EnvT e) : Ord e (fun f => f.1.length <= 1000000) (fun a b => pcmp a.1 b.1) where
 run a b ha hb := by
  show vl e 17 0 ([fv a, fv b] ++ []) = _
  rw [Xaw, w.zq27]; unfold y.zq27
  have e1 : ∀ x : Fi, evp .scs [fv x] = some (fv x) := fun x => rfl
  have e2 : ∀ x : Fi, evp (.ld none 0) [fv x] = some (.str x.1) := fun x => rfl
  simp only [yy, e1, e2, v.pCompare he a.1 b.1 ha hb]
 asy a b h := by rw [Zf5 a.1 b.1]; omega
 tr a b c h1 h2 h3 := by
  have r1 := Zjq b.1 a.1
  have r2 := Zjq c.1 b.1
  have s1 := Zf5 b.1 a.1
  have s2 := Zf5 c.1 b.1
  have s3 := Zf5 c.1 a.1
  rcases r1 with r1 | r1 | r1
  ·omega
  ·rw [Zll.1 r1] at h2; omega
  ·rcases r2 with r2 | r2 | r2
   ·omega
   ·rw [Zll.1 r2] at h3; omega
   ·have := Zqx (p := a.1) (q := b.1) (r := c.1) (by omega) (by omega); omega
theorem v.part (he : EnvT e) (s : Bytes) (hs : s.length <= 4000000000) : vl e 34 0 [.str s] = some (.bool (Zb0 s)) := by
 rw [w.zq24]; unfold y.zq24 Zb0
 by_cases h1 : s = []
 ·simp only [yy, if_pos h1]; simp [h1]
 by_cases h2 : s = [46]
 ·simp only [yy, if_neg h1, if_pos h2]; simp [h2]
 by_cases h3 : s = [46, 46]
 ·simp only [yy, if_neg h1, if_neg h2, if_pos h3]; simp [h3]
 by_cases h4 : (0 : UInt8) ∈ s
 ·simp only [yy, if_neg h1, if_neg h2, if_neg h3, v.contains he s 0 hs, if_pos h4]; simp [h4]
 ·simp only [yy, if_neg h1, if_neg h2, if_neg h3, v.contains he s 0 hs, if_neg h4, v.contains he s 47 hs]; simp [h1, h2, h3, h4]
theorem v.gIdx (he : EnvT e) (l : List Bytes) (hl : l.length <= 1000000) (hb : ∀ x ∈ l, x.length <= 4000000000) : ∀ (n i : Nat), i + n = l.length -> ∃ z : Int, vl e 49 8 [strs l, .fn 33 [], I l.length, I i] = some (I z) /\ (0 <= z <-> (l.drop i).all Zb0 = false) := by
 intro n
 induction n with
 | zero =>
  intro i hi
  refine ⟨-1, ?_, by rw [Xat (by omega)]; simp⟩
  rw [w.zq50_8]; unfold y.zq50_8
  simp only [yy, if_neg (show ¬((i : Int) < (l.length : Int)) by omega)]
 | succ n ih =>
  intro i hi
  have hlt : i < l.length := by omega
  have hp : Zeg (vl e) (.fn 33 []) [.str l[i]] = some (.bool (!Zb0 l[i])) := by
   show vl e 33 0 ([.str l[i]] ++ []) = _
   rw [Xaw, w.zq19]; unfold y.zq19
   simp only [yy, v.part he l[i] (hb _ (Xav hlt))]
  have hd := Xao hlt
  rw [w.zq50_8]; unfold y.zq50_8
  cases hg : Zb0 l[i] with
  | false =>
   rw [hg] at hp
   refine ⟨i, ?_, by rw [hd, Xcu, hg]; simp⟩
   simp only [yy, if_pos (show (i : Int) < (l.length : Int) by omega), Zh6 hlt, Zis, cv, hp]
  | true =>
   rw [hg] at hp
   obtain ⟨z, h1, h2⟩ := ih (i + 1) (by omega)
   refine ⟨z, ?_, by rw [hd, Xcu, hg, Xe1]; exact h2⟩
   simp only [yy, if_pos (show (i : Int) < (l.length : Int) by omega), Zh6 hlt, Zis, cv, hp, Zay hlt (by omega)]
   exact h1
theorem v.Good (he : EnvT e) (p : Bytes) (hp : p.length <= 1000000) : vl e 19 0 [.str p] = some (.bool (Zc3 p)) := by
 rw [w.zq18]; unfold y.zq18 Zc3
 by_cases h1 : p.length <= 128
 ·have hl := Zcr 47 p
  by_cases h2 : (Zae 47 p).length <= 16
  ·obtain ⟨z, q1, q2⟩ := v.gIdx he (Zae 47 p) (by omega) (fun x hx => by have := Zch 47 hx; omega) _ 0 (Xan _)
   have hc : vl e 32 0 [strs (Zae 47 p), .fn 33 []] = some (.bool (decide ((0 : Int) <= z))) := by
    have h3 : vl e 49 0 [strs (Zae 47 p), .fn 33 []] = some (I z) := by
     rw [w.zq50]; unfold y.zq50
     simp only [yy, Zqa]
     exact q1
    rw [w.zq48]; unfold y.zq48
    simp only [yy, h3]
   simp only [yy, if_neg (show ¬((128 : Int) < (p.length : Int)) by omega), v.split he p 47 (by omega), if_pos (show ((Zae 47 p).length : Int) <= 16 by omega), hc]
   rw [Xbc] at q2
   cases ha : (Zae 47 p).all Zb0 with
   | false => simp [h1, h2, q2.2 ha]
   | true =>
    have : ¬ 0 <= z := fun h => by rw [q2.1 h] at ha; cases ha
    simp [h1, h2, this]
  ·simp only [yy, if_neg (show ¬((128 : Int) < (p.length : Int)) by omega), v.split he p 47 (by omega), if_neg (show ¬((Zae 47 p).length : Int) <= 16 by omega)]
   simp [h2]
 ·simp only [yy, if_pos (show (128 : Int) < (p.length : Int) by omega)]
  simp [h1]
theorem v.Under (d p : Bytes) (hd : d.length <= 1000000) (hp : p.length <= 1000000) : ∃ x : Bytes, vl e 20 0 [.str d, .str p] = some (.tup [.str x, .bool (Zcj d p).isSome]) /\ ∀ r, Zcj d p = some r -> x = r := by
 rw [w.zq23]; unfold y.zq23 Zcj
 by_cases h : d = []
 ·refine ⟨p, ?_, fun r hr => ?_⟩
  ·simp only [yy, if_pos h]
   by_cases h2 : p = [] <;> simp [h2, h]
  ·rw [if_pos h] at hr
   split at hr <;> cases hr; rfl
 ·have ea : evp (.bin .add .no) [.str d, .str [47]] = some (.str (d ++ [47])) := Z22 (by simp; omega)
  have hc := v.cutPrefix (e := e) p (d ++ [47])
  have e2 : (d ++ [47]).length = d.length + 1 := by simp
  rw [e2] at hc
  by_cases h1 : p.take (d.length + 1) = d ++ [47]
  ·rw [if_pos h1, decide_eq_true h1] at hc
   refine ⟨p.drop (d.length + 1), ?_, fun r hr => ?_⟩
   ·simp only [yy, if_neg h, ea, hc]
    by_cases h2 : p.drop (d.length + 1) = []
    ·simp [h, h1, h2]
    ·rw [if_pos ⟨h1, h2⟩]; simp [h2]
   ·rw [if_neg h] at hr
    split at hr <;> cases hr; rfl
  ·rw [if_neg h1, decide_eq_false h1] at hc
   refine ⟨p, ?_, fun r hr => ?_⟩
   ·simp only [yy, if_neg h, ea, hc]
    simp [h, h1]
   ·rw [if_neg h, if_neg (fun h2 => h1 h2.1)] at hr; cases hr
end Go.Proofs.YtpmgdngjbdkdfaaDoor
namespace Go.Proofs.YtpmgdngjbdkdfaaDoor
open Go.Abs
set_option maxRecDepth 10000
variable {e : Ev}
theorem v.rParts (p : Bytes) (hp : p.length <= 1000000000) : vl e 38 0 [.str p] = some (strs (Zae 47 p)) := by
 have hLim : Lim = 4294967296 := rfl
 have key : ∀ (n i f : Nat) (acc : List Bytes), p.length + 1 = n + i -> f <= i -> acc.length <= i ->
   (i <= p.length -> vl e 38 12 [.str p, strs acc, I f, I i] = some (strs (acc ++ addH ((p.take i).drop f) (Zae 47 (p.drop i))))) /\ (i = p.length + 1 -> vl e 38 12 [.str p, strs acc, I f, I i] = some (strs acc)) := by
  intro n
  induction n with
  | zero =>
   intro i f acc hn hf ha
   refine ⟨fun h => by omega, fun h => ?_⟩
   rw [w.zq38_12]; unfold y.zq38_12
   simp only [yy, if_neg (show ¬((i : Int) <= (p.length : Int)) by omega)]
  | succ n ih =>
   intro i f acc hn hf ha
   refine ⟨fun hil => ?_, fun h => by omega⟩
   have e1 : IntKind.i64.wrap ((i : Int) + 1) = ((i + 1 : Nat) : Int) := w64 _ (by omega)
   rw [w.zq38_12]; unfold y.zq38_12
   by_cases he : i = p.length
   ·have hih := (ih (i + 1) (i + 1) (acc ++ [(p.take i).drop f]) (by omega) (Xag _) (by simp; omega)).2 (by omega)
    simp only [yy, if_pos (show (i : Int) <= (p.length : Int) by omega), if_pos (show (i : Int) = (p.length : Int) by omega), Zxh hf hil, Zl9, Zui (show acc.length + 1 <= Lim by omega), e1, hih]
    rw [Xat (show p.length <= i by omega)]
    simp [Zae, addH]
   ·have hlt : i < p.length := by omega
    by_cases hc : p[i] = 47
    ·have hih := (ih (i + 1) (i + 1) (acc ++ [(p.take i).drop f]) (by omega) (Xag _) (by simp; omega)).1 (by omega)
     have hc' : ((p[i].toNat : Nat) : Int) = 47 := by rw [hc]; rfl
     simp only [yy, if_pos (show (i : Int) <= (p.length : Int) by omega), if_neg (show ¬((i : Int) = (p.length : Int)) by omega), Zk1 (Xad hlt), byteV, if_pos hc', Zxh hf hil, Zl9, Zui (show acc.length + 1 <= Lim by omega), e1]
     refine hih.trans ?_
     rw [Xao hlt, hc, Zlx, Xap]
     congr 2
     rw [show (p.take (i + 1)).drop (i + 1) = [] from Xat (by simp; omega), Zqd (Zbc _ _)]; rfl
    ·have hih := (ih (i + 1) f acc (by omega) (by omega) (by omega)).1 (by omega)
     have hne : ¬((p[i].toNat : Int) = 47) := fun h => hc (Xe8.1 (by rw [show (47 : UInt8).toNat = 47 from rfl]; omega))
     simp only [yy, if_pos (show (i : Int) <= (p.length : Int) by omega), if_neg (show ¬((i : Int) = (p.length : Int)) by omega), Zk1 (Xad hlt), byteV, if_neg hne, e1]
     refine hih.trans ?_
     rw [Xao hlt, Zna hc, Zvm hlt hf]
 rw [w.zq38]; unfold y.zq38
 refine ((key (p.length + 1) 0 0 [] (by omega) (Xag _) (Xag _)).1 (Xb2 _)).trans ?_
 simp [Zqd (Zbc _ _)]
theorem Zkq {a b : UInt8} : ((a.toNat : Nat) : Int) = ((b.toNat : Nat) : Int) <-> a = b := ⟨fun h => Xe8.1 (by omega), fun h => by rw [h]⟩
theorem v.rPart8 (s : Bytes) (hs : s.length <= 1000000000) : ∀ (n i : Nat), i + n = s.length -> vl e 39 8 [.str s, I i] = some (.bool (decide ((0 : UInt8) ∉ s.drop i) && decide ((47 : UInt8) ∉ s.drop i) && (!decide (s = []) && !decide (s = [46]) && !decide (s = [46, 46])))) := by
 intro n
 induction n with
 | zero =>
  intro i hi
  rw [w.zq37_8, Xat (show s.length <= i by omega)]; unfold y.zq37_8
  by_cases h1 : s = []
  ·simp only [yy, if_neg (show ¬((i : Int) < (s.length : Int)) by omega), if_pos h1]; simp [h1]
  by_cases h2 : s = [46]
  ·simp only [yy, if_neg (show ¬((i : Int) < (s.length : Int)) by omega), if_neg h1, if_pos h2]; simp [h2]
  simp only [yy, if_neg (show ¬((i : Int) < (s.length : Int)) by omega), if_neg h1, if_neg h2]; simp [h1, h2]
 | succ n ih =>
  intro i hi
  have hlt : i < s.length := by omega
  have hd := Xao hlt
  rw [w.zq37_8]; unfold y.zq37_8
  by_cases h0 : s[i] = 0
  ·have h0' : ((s[i].toNat : Nat) : Int) = 0 := by rw [h0]; rfl
   simp only [yy, if_pos (show (i : Int) < (s.length : Int) by omega), Zk1 (Xad hlt), byteV, if_pos h0']
   have : (0 : UInt8) ∈ s.drop i := by rw [hd, h0]; exact Xdk
   rw [decide_eq_false (fun h => h this)]; rfl
  ·have h0' : ¬((s[i].toNat : Nat) : Int) = 0 := fun h => h0 (Zkq.1 (by rw [h]; rfl))
   by_cases h1 : s[i] = 47
   ·have h1' : ((s[i].toNat : Nat) : Int) = 47 := by rw [h1]; rfl
    simp only [yy, if_pos (show (i : Int) < (s.length : Int) by omega), Zk1 (Xad hlt), byteV, if_neg h0', if_pos h1']
    have : (47 : UInt8) ∈ s.drop i := by rw [hd, h1]; exact Xdk
    rw [decide_eq_false (p := ¬(47 : UInt8) ∈ s.drop i) (fun h => h this), Xfa]; rfl
   ·have h1' : ¬((s[i].toNat : Nat) : Int) = 47 := fun h => h1 (Zkq.1 (by rw [h]; rfl))
    simp only [yy, if_pos (show (i : Int) < (s.length : Int) by omega), Zk1 (Xad hlt), byteV, if_neg h0', if_neg h1', Zay hlt (by omega)]
    have m0 : (0 : UInt8) ∈ s.drop i <-> (0 : UInt8) ∈ s.drop (i + 1) := by rw [hd, Xay]; exact ⟨fun h => h.resolve_left (Ne.symm h0), .inr⟩
    have m1 : (47 : UInt8) ∈ s.drop i <-> (47 : UInt8) ∈ s.drop (i + 1) := by rw [hd, Xay]; exact ⟨fun h => h.resolve_left (Ne.symm h1), .inr⟩
    rw [ih (i + 1) (by omega)]
    simp only [m0, m1]
theorem v.rPart (s : Bytes) (hs : s.length <= 1000000000) : vl e 39 0 [.str s] = some (.bool (Zb0 s)) := by
 rw [w.zq37]; unfold y.zq37
 refine (v.rPart8 s hs s.length 0 (Xan _)).trans ?_
 rw [Xbc]
 unfold Zb0
 congr 2
 cases decide (s = []) <;> cases decide (s = [46]) <;> cases decide (s = [46, 46]) <;> by_cases h4 : (0 : UInt8) ∈ s <;> by_cases h5 : (47 : UInt8) ∈ s <;> simp [h4, h5]
theorem v.rGood10 (p : Bytes) (l : List Bytes) (hl : l.length <= 1000000000) (hb : ∀ x ∈ l, x.length <= 1000000000) : ∀ (n i : Nat), i + n = l.length -> vl e 22 10 [.str p, strs l, strs l, I l.length, I i] = some (.bool ((l.drop i).all Zb0 && (decide (p.length <= 128) && decide (l.length <= 16)))) := by
 intro n
 induction n with
 | zero =>
  intro i hi
  rw [w.zq36_10, Xat (show l.length <= i by omega)]; unfold y.zq36_10
  by_cases h : p.length <= 128
  ·simp only [yy, if_neg (show ¬((i : Int) < (l.length : Int)) by omega), if_pos (show (p.length : Int) <= 128 by omega)]
   rw [show decide ((l.length : Int) <= 16) = decide (l.length <= 16) from decide_eq_decide.2 (by omega)]
   simp [h]
  ·simp only [yy, if_neg (show ¬((i : Int) < (l.length : Int)) by omega), if_neg (show ¬(p.length : Int) <= 128 by omega)]
   simp [h]
 | succ n ih =>
  intro i hi
  have hlt : i < l.length := by omega
  have hd := Xao hlt
  have hp := v.rPart (e := e) l[i] (hb _ (Xav hlt))
  rw [w.zq36_10]; unfold y.zq36_10
  cases hg : Zb0 l[i] with
  | false =>
   rw [hg] at hp
   simp only [yy, if_pos (show (i : Int) < (l.length : Int) by omega), Zh6 hlt, Zis, hp]
   rw [hd, Xcu, hg, Xe9, Xe9]
  | true =>
   rw [hg] at hp
   simp only [yy, if_pos (show (i : Int) < (l.length : Int) by omega), Zh6 hlt, Zis, hp, Zay hlt (by omega)]
   rw [ih (i + 1) (by omega), hd, Xcu, hg, Xe1]
theorem v.rGood (p : Bytes) (hp : p.length <= 1000000) : vl e 22 0 [.str p] = some (.bool (Zc3 p)) := by
 have hl := Zcr 47 p
 rw [w.zq36]; unfold y.zq36
 simp only [yy, v.rParts p (by omega), Zqa]
 refine (v.rGood10 p (Zae 47 p) (by omega) (fun x hx => by have := Zch 47 hx; omega) _ 0 (Xan _)).trans ?_
 rw [Xbc]
 unfold Zc3
 rw [Xeh]
theorem v.rUnder (d p : Bytes) (hd : d.length <= 1000000) (hp : p.length <= 1000000) : ∃ x : Bytes, vl e 23 0 [.str d, .str p] = some (.tup [.str x, .bool (Zcj d p).isSome]) := by
 rw [w.zq39]; unfold y.zq39 Zcj
 by_cases h : d = []
 ·refine ⟨p, ?_⟩
  simp only [yy, if_pos h]
  by_cases h2 : p = [] <;> simp [h2, h]
 ·have e1 : IntKind.i64.wrap ((d.length : Int) + 1) = ((d.length + 1 : Nat) : Int) := Zay (show d.length < d.length + 1 by omega) (by omega)
  have hdl : 0 < d.length := Xax.2 h
  by_cases h1 : p.length <= d.length + 1
  ·refine ⟨[], ?_⟩
   simp only [yy, if_neg h, e1, if_pos (show (p.length : Int) <= ((d.length + 1 : Nat) : Int) by omega)]
   rw [if_neg (fun hc => hc.2 (Xat h1))]
   rfl
  ·have hlt : d.length < p.length := by omega
   have ht : p.take (d.length + 1) = p.take d.length ++ [p[d.length]] := Xd2 hlt
   by_cases h2 : p.take d.length = d
   ·by_cases h3 : p[d.length] = 47
    ·have h3' : ((p[d.length].toNat : Nat) : Int) = 47 := by rw [h3]; rfl
     refine ⟨p.drop (d.length + 1), ?_⟩
     simp only [yy, if_neg h, e1, if_neg (show ¬(p.length : Int) <= ((d.length + 1 : Nat) : Int) by omega), Zmi (show d.length <= p.length by omega), if_pos h2, Zk1 (Xad hlt), byteV, if_pos h3', Zrs (show d.length + 1 <= p.length by omega)]
     rw [if_pos ⟨by rw [ht, h2, h3], fun hc => by have := congrArg List.length hc; simp at this; omega⟩]
     rfl
    ·have h3' : ¬((p[d.length].toNat : Nat) : Int) = 47 := fun hh => h3 (Zkq.1 (by rw [hh]; rfl))
     refine ⟨[], ?_⟩
     simp only [yy, if_neg h, e1, if_neg (show ¬(p.length : Int) <= ((d.length + 1 : Nat) : Int) by omega), Zmi (show d.length <= p.length by omega), if_pos h2, Zk1 (Xad hlt), byteV, if_neg h3']
     rw [if_neg (fun hc => h3 (by
      have := hc.1
      rw [ht, h2] at this
      simpa using this))]
     rfl
   ·refine ⟨[], ?_⟩
    simp only [yy, if_neg h, e1, if_neg (show ¬(p.length : Int) <= ((d.length + 1 : Nat) : Int) by omega), Zmi (show d.length <= p.length by omega), if_neg h2]
    rw [if_neg (fun hc => h2 (by
     have := congrArg (List.take d.length) hc.1
     simpa [List.take_take] using this))]
    rfl
theorem Zfd {l : List Fi} {i : Nat} (h : i < l.length) : evp (.elem 2) [Zat l, I i] = some (fv l[i]) := Zmq (by simp [h])
theorem Zi0 {x : Fi} : evp (.ld (some 2) 0) [fv x] = some (fv x) := rfl
theorem Zbs {x : Fi} : evp (.cat [some 2]) [fv x] = some (fv x) := rfl
theorem Zeh {x : Fi} : evp (.ld none 0) [fv x] = some (.str x.1) := rfl
theorem Zm8 {x : Fi} : evp (.ld none 1) [fv x] = some (.str x.2) := rfl
theorem Zfh {l : List Fi} : evp (.len false) [Zat l] = some (I l.length) := by rw [Zat, Zu4, Xcp]
theorem v.great10 (l : List Fi) (hl : l.length <= 1000000000) (hb : ∀ f ∈ l, f.1.length <= 1000000000 /\ f.2.length <= 1000000000) (q by_ : Nat) (hby : by_ <= 1000000000) : ∀ (n i m : Nat), i + n = l.length -> m <= by_ -> ∃ b : Bool, vl e 7 10 [Zat l, I q, I by_, I m, Zat l, I l.length, I i] = some (.bool b) /\ (b = false -> l.length <= q /\ ∀ k (h : k < l.length), i <= k -> l[k].1.length + l[k].2.length <= by_) := by
 intro n
 induction n with
 | zero =>
  intro i m hi hm
  refine ⟨decide ((q : Int) < (l.length : Int)), ?_, fun h => ⟨by have := of_decide_eq_false h; omega, fun k hk hik => by omega⟩⟩
  rw [w.zq40_10]; unfold y.zq40_10
  simp only [yy, if_neg (show ¬((i : Int) < (l.length : Int)) by omega), Zfh]
 | succ n ih =>
  intro i m hi hm
  have hlt : i < l.length := by omega
  obtain ⟨h1, h2⟩ := hb _ (Xav hlt)
  have a1 : IntKind.i64.wrap ((l[i].1.length : Int) + (l[i].2.length : Int)) = ((l[i].1.length + l[i].2.length : Nat) : Int) := Zdq (by omega)
  have a2 : IntKind.i64.wrap ((m : Int) + ((l[i].1.length + l[i].2.length : Nat) : Int)) = ((m + (l[i].1.length + l[i].2.length) : Nat) : Int) := Zdq (by omega)
  rw [w.zq40_10]; unfold y.zq40_10
  by_cases hc : by_ < m + (l[i].1.length + l[i].2.length)
  ·refine ⟨true, ?_, fun h => by cases h⟩
   simp only [yy, if_pos (show (i : Int) < (l.length : Int) by omega), Zfd hlt, Zi0, Zbs, Zeh, Zm8, a1, a2, if_pos (show (by_ : Int) < ((m + (l[i].1.length + l[i].2.length) : Nat) : Int) by omega)]
  ·obtain ⟨b, r1, r2⟩ := ih (i + 1) (m + (l[i].1.length + l[i].2.length)) (by omega) (by omega)
   refine ⟨b, ?_, fun h => ⟨(r2 h).1, fun k hk hik => ?_⟩⟩
   ·simp only [yy, if_pos (show (i : Int) < (l.length : Int) by omega), Zfd hlt, Zi0, Zbs, Zeh, Zm8, a1, a2, if_neg (show ¬(by_ : Int) < ((m + (l[i].1.length + l[i].2.length) : Nat) : Int) by omega), Zay hlt (by omega)]
    exact r1
   ·rcases Xbu hik with h' | rfl
    ·exact (r2 h).2 k hk h'
    ·omega
theorem v.great (l : List Fi) (hl : l.length <= 1000000000) (hb : ∀ f ∈ l, f.1.length <= 1000000000 /\ f.2.length <= 1000000000) (q by_ : Nat) (hby : by_ <= 1000000000) : ∃ b : Bool, vl e 7 0 [Zat l, I q, I by_] = some (.bool b) /\ (b = false -> l.length <= q /\ ∀ f ∈ l, f.1.length + f.2.length <= by_) := by
 obtain ⟨b, r1, r2⟩ := v.great10 (e := e) l hl hb q by_ hby l.length 0 0 (Xan _) (Xb2 _)
 refine ⟨b, ?_, fun h => ⟨(r2 h).1, fun f hf => ?_⟩⟩
 ·rw [w.zq40]; unfold y.zq40
  simp only [yy, Zfh]
  exact r1
 ·obtain ⟨k, hk, rfl⟩ := Xb6.1 hf
  exact (r2 h).2 k hk (Xb2 _)
def Zcc (x f : Bytes) : Bool := (Zcj x f).isSome || decide (x = f)
def okI (l : List Fi) (i : Nat) : Prop := Zc3 (l.getD i ([], [])).1 = true /\ ∀ k, k < l.length -> k ≠ i -> Zcc (l.getD k ([], [])).1 (l.getD i ([], [])).1 = false
open Classical in
noncomputable def whyB (l : List Fi) : Int := if 512 < l.length then 3 else if ∀ i, i < l.length -> okI l i then (if ∀ f ∈ l, f.2.length <= 32768 then 0 else 3) else 1
theorem Zaw {l : List Fi} {i : Nat} (h : i < l.length) : l.getD i ([], []) = l[i] := by simp [List.getD, h]
section
variable (l : List Fi) (hl : l.length <= 1000000) (hb : ∀ f ∈ l, f.1.length <= 1000000 /\ f.2.length <= 1000000000)
include hl hb
omit hb in
theorem v.why64 : ∀ (n i : Nat), i + n = l.length -> vl e 10 64 [Zat l, I l.length, I i] = some (I (if ∀ f ∈ l.drop i, f.2.length <= 32768 then 0 else 3)) := by
 intro n
 induction n with
 | zero =>
  intro i hi
  rw [w.zq41_64]; unfold y.zq41_64
  simp only [yy, if_neg (show ¬((i : Int) < (l.length : Int)) by omega)]
  rw [Xat (by omega), if_pos (by simp)]
 | succ n ih =>
  intro i hi
  have hlt : i < l.length := by omega
  have hd := Xao hlt
  rw [w.zq41_64]; unfold y.zq41_64
  by_cases hc : 32768 < l[i].2.length
  ·simp only [yy, if_pos (show (i : Int) < (l.length : Int) by omega), Zfd hlt, Zi0, Zbs, Zm8, if_pos (show (32768 : Int) < (l[i].2.length : Int) by omega)]
   rw [if_neg (fun h => by have := h l[i] (by rw [hd]; exact Xdk); omega)]
  ·simp only [yy, if_pos (show (i : Int) < (l.length : Int) by omega), Zfd hlt, Zi0, Zbs, Zm8, if_neg (show ¬(32768 : Int) < (l[i].2.length : Int) by omega), Zay hlt (by omega)]
   rw [ih (i + 1) (by omega), hd]
   have : (∀ f ∈ l.drop (i + 1), f.2.length <= 32768) <-> ∀ f ∈ l[i] :: l.drop (i + 1), f.2.length <= 32768 := by
    simp only [Xay, forall_eq_or_imp]
    exact ⟨fun h => ⟨by omega, h⟩, fun h => h.2⟩
   by_cases hp : ∀ f ∈ l.drop (i + 1), f.2.length <= 32768
   ·rw [if_pos hp, if_pos (this.1 hp)]
   ·rw [if_neg hp, if_neg (fun h => hp (this.2 h))]
open Classical in
theorem v.why38 (i : Nat) (hi : i < l.length) : ∀ (n k : Nat), k + n = l.length ->
  vl e 10 38 [Zat l, I i, Zat l, I l.length, I i, Zat l, I l.length, I k, fv l[i]] = if ∀ j, j < l.length -> k <= j -> j ≠ i -> Zcc (l.getD j ([], [])).1 l[i].1 = false then vl e 10 16 [Zat l, Zat l, I l.length, I (i + 1 : Nat)] else some (I 1) := by
 intro n
 induction n with
 | zero =>
  intro k hk
  rw [w.zq41_38]; unfold y.zq41_38
  simp only [yy, if_neg (show ¬((k : Int) < (l.length : Int)) by omega), Zay hi (by omega)]
  rw [if_pos (fun j h1 h2 => by omega)]
 | succ n ih =>
  intro k hk
  have hlt : k < l.length := by omega
  obtain ⟨x, hx⟩ := v.rUnder (e := e) l[k].1 l[i].1 (hb _ (Xav hlt)).1 (hb _ (Xav hi)).1
  have hih := ih (k + 1) (by omega)
  have step : (k = i \/ Zcc l[k].1 l[i].1 = false) -> ((∀ j, j < l.length -> k + 1 <= j -> j ≠ i -> Zcc (l.getD j ([], [])).1 l[i].1 = false) <-> ∀ j, j < l.length -> k <= j -> j ≠ i -> Zcc (l.getD j ([], [])).1 l[i].1 = false) := by
   intro h0
   refine ⟨fun h j h1 h2 h3 => ?_, fun h j h1 h2 h3 => h j h1 (by omega) h3⟩
   rcases Xbu h2 with h' | rfl
   ·exact h j h1 h' h3
   ·rcases h0 with h0 | h0
    ·exact absurd h0 h3
    ·rw [Zaw h1]; exact h0
  have cong : (k = i \/ Zcc l[k].1 l[i].1 = false) -> (if ∀ j, j < l.length -> k + 1 <= j -> j ≠ i -> Zcc (l.getD j ([], [])).1 l[i].1 = false then vl e 10 16 [Zat l, Zat l, I l.length, I (i + 1 : Nat)] else some (I 1)) = if ∀ j, j < l.length -> k <= j -> j ≠ i -> Zcc (l.getD j ([], [])).1 l[i].1 = false then vl e 10 16 [Zat l, Zat l, I l.length, I (i + 1 : Nat)] else some (I 1) := by
   intro h0
   by_cases hp : ∀ j, j < l.length -> k + 1 <= j -> j ≠ i -> Zcc (l.getD j ([], [])).1 l[i].1 = false
   ·rw [if_pos hp, if_pos ((step h0).1 hp)]
   ·rw [if_neg hp, if_neg (fun h => hp ((step h0).2 h))]
  have bad : k ≠ i -> Zcc l[k].1 l[i].1 = true -> some (V.int .i64 1) = if ∀ j, j < l.length -> k <= j -> j ≠ i -> Zcc (l.getD j ([], [])).1 l[i].1 = false then vl e 10 16 [Zat l, Zat l, I l.length, I (i + 1 : Nat)] else some (I 1) := by
   intro h0 h1
   rw [if_neg (fun h => by have := h k hlt (Xag _) h0; rw [Zaw hlt, h1] at this; cases this)]
  rw [w.zq41_38]; unfold y.zq41_38
  by_cases hki : k = i
  ·rw [<- cong (.inl hki), <- hih]
   simp only [yy, if_pos (show (k : Int) < (l.length : Int) by omega), Zfd hlt, Zi0, Zbs, Zeh, hx, if_pos (show (k : Int) = (i : Int) by omega), Zay hlt (by omega)]
  ·cases hu : (Zcj l[k].1 l[i].1).isSome with
   | true =>
    rw [hu] at hx
    rw [<- bad hki (by unfold Zcc; rw [hu]; rfl)]
    simp only [yy, if_pos (show (k : Int) < (l.length : Int) by omega), Zfd hlt, Zi0, Zbs, Zeh, hx, if_neg (show ¬(k : Int) = (i : Int) by omega)]
   | false =>
    rw [hu] at hx
    by_cases he : l[k].1 = l[i].1
    ·rw [<- bad hki (by unfold Zcc; rw [decide_eq_true he, Xer])]
     simp only [yy, if_pos (show (k : Int) < (l.length : Int) by omega), Zfd hlt, Zi0, Zbs, Zeh, hx, if_neg (show ¬(k : Int) = (i : Int) by omega), if_pos he]
    ·rw [<- cong (.inr (by unfold Zcc; rw [hu, decide_eq_false he]; rfl)), <- hih]
     simp only [yy, if_pos (show (k : Int) < (l.length : Int) by omega), Zfd hlt, Zi0, Zbs, Zeh, hx, if_neg (show ¬(k : Int) = (i : Int) by omega), if_neg he, Zay hlt (by omega)]
open Classical in
theorem v.why16 : ∀ (n i : Nat), i + n = l.length -> vl e 10 16 [Zat l, Zat l, I l.length, I i] = some (I (if ∀ j, j < l.length -> i <= j -> okI l j then (if ∀ f ∈ l, f.2.length <= 32768 then 0 else 3) else 1)) := by
 intro n
 induction n with
 | zero =>
  intro i hi
  rw [w.zq41_16]; unfold y.zq41_16
  simp only [yy, if_neg (show ¬((i : Int) < (l.length : Int)) by omega), Zfh]
  have := v.why64 (e := e) l hl l.length 0 (Xan _)
  rw [Xbc] at this
  rw [if_pos (fun j h1 h2 => by omega)]
  exact this
 | succ n ih =>
  intro i hi
  have hlt : i < l.length := by omega
  have hg := v.rGood (e := e) l[i].1 (hb _ (Xav hlt)).1
  have h38 := v.why38 (e := e) l hl hb i hlt l.length 0 (Xan _)
  rw [w.zq41_16]; unfold y.zq41_16
  cases hgd : Zc3 l[i].1 with
  | false =>
   rw [hgd] at hg
   simp only [yy, if_pos (show (i : Int) < (l.length : Int) by omega), Zfd hlt, Zi0, Zbs, Zeh, hg]
   rw [if_neg (fun h => by have := (h i hlt (Xag _)).1; rw [Zaw hlt, hgd] at this; cases this)]
  | true =>
   rw [hgd] at hg
   simp only [yy, if_pos (show (i : Int) < (l.length : Int) by omega), Zfd hlt, Zi0, Zbs, Zeh, hg, Zfh]
   refine h38.trans ?_
   by_cases hc : ∀ j, j < l.length -> 0 <= j -> j ≠ i -> Zcc (l.getD j ([], [])).1 l[i].1 = false
   ·rw [if_pos hc, ih (i + 1) (by omega)]
    have hok : okI l i := ⟨by rw [Zaw hlt]; exact hgd, fun k h1 h2 => by rw [Zaw hlt]; exact hc k h1 (Xb2 _) h2⟩
    have : (∀ j, j < l.length -> i + 1 <= j -> okI l j) <-> ∀ j, j < l.length -> i <= j -> okI l j := by
     refine ⟨fun h j h1 h2 => ?_, fun h j h1 h2 => h j h1 (by omega)⟩
     rcases Xbu h2 with h' | rfl
     ·exact h j h1 h'
     ·exact hok
    by_cases hp : ∀ j, j < l.length -> i + 1 <= j -> okI l j
    ·rw [if_pos hp, if_pos (this.1 hp)]
    ·rw [if_neg hp, if_neg (fun h => hp (this.2 h))]
   ·rw [if_neg hc, if_neg (fun h => hc fun j h1 _ h2 => by have := (h i hlt (Xag _)).2 j h1 h2; rw [Zaw hlt] at this; exact this)]
theorem v.why : vl e 10 0 [Zat l] = some (I (whyB l)) := by
 rw [w.zq41]; unfold y.zq41 whyB
 by_cases h : 512 < l.length
 ·simp only [yy, Zfh, if_pos (show (512 : Int) < (l.length : Int) by omega)]
  rw [if_pos h]
 ·simp only [yy, Zfh, if_neg (show ¬(512 : Int) < (l.length : Int) by omega)]
  rw [if_neg h]
  refine (v.why16 l hl hb l.length 0 (Xan _)).trans ?_
  congr 2
  have : (∀ j, j < l.length -> 0 <= j -> okI l j) <-> ∀ i, i < l.length -> okI l i := ⟨fun h i hi => h i hi (Xb2 _), fun h i hi _ => h i hi⟩
  by_cases hp : ∀ i, i < l.length -> okI l i
  ·rw [if_pos hp, if_pos (this.2 hp)]
  ·rw [if_neg hp, if_neg (fun h => hp (this.1 h))]
end
theorem Zny : ∀ l : List Fi, (l.map fv).flatMap V.cells = fl l
 | [] => rfl
 | f :: r => by rw [Xal, Xbj, Zny r]; rfl
theorem v.CloneF (l : List Fi) (hl : l.length <= 1000000) : vl e 10240 1 [Zat l] = some (.tup [I l.length, aggF l]) := by
 rw [w.zq45_h0]; unfold y.zq45_h0
 have h1 : evp (.rapp 2) [.agg [], .int .i64 0, Zat l] = some (aggF l) := by
  show Zms 2 (.agg []) (I 0) (Zat l) = _
  have hf : fits 2 (l.map fv) = true := by simp [fits, fv, V.cells, V.sc]
  simp only [Zms, Zbn, Xaj, Zh4, hf, if_true, true_or]
  rw [if_pos ⟨by omega, by omega, by simp, by simp [Lim]; omega⟩, Zny]
  simp [V.cells]
 have h2 : evp (.rlen 2) [.int .i64 0, Zat l] = some (I l.length) := by
  show Zkf 2 (I 0) (Zat l) = _
  simp [Zkf, Zbn]
 simp only [yy, h1, h2]
 cases l with
 | nil =>
  have : vamb (V.sl false 2 []) (some (V.tup [.int .i64 0, .agg []])) (some (V.tup [.int .i64 0, .agg []])) = some (V.tup [.int .i64 0, .agg []]) := by
   unfold vamb
   exact if_pos rfl
  exact this
 | cons x r => rfl
end Go.Proofs.YtpmgdngjbdkdfaaDoor
namespace Go.Proofs.YtpmgdngjbdkdfaaDoor
open Go.Abs
set_option maxRecDepth 10000
abbrev W32 := BitVec 32
def bv (x : W32) : V := .int .u32 (x.toNat : Int)
theorem Zqj (n : Int) : IntKind.u32.wrap n = n % 4294967296 := by simp [IntKind.wrap, IntKind.signed, IntKind.bits]
theorem Z3i (n : Int) : IntKind.u8.wrap n = n % 256 := by simp [IntKind.wrap, IntKind.signed, IntKind.bits]
theorem Zko (n : Int) : IntKind.u64.wrap n = n % 18446744073709551616 := by simp [IntKind.wrap, IntKind.signed, IntKind.bits]
theorem Zku (x : W32) : IntKind.u32.wrap (x.toNat : Int) = (x.toNat : Int) := by rw [Zqj]; have := x.isLt; omega
theorem Zns (x : W32) : BitVec.ofInt IntKind.u32.bits (x.toNat : Int) = x := by
 show BitVec.ofInt 32 (x.toNat : Int) = x
 rw [BitVec.ofInt_natCast, BitVec.ofNat_toNat, BitVec.setWidth_eq]
theorem b_add (x y : W32) : evp (.bin .add .no) [bv x, bv y] = some (bv (x + y)) := by
 show some (V.int .u32 (IntKind.u32.wrap ((x.toNat : Int) + (y.toNat : Int)))) = _
 rw [Zqj]
 unfold bv
 rw [BitVec.toNat_add]
 congr 2
theorem b_and (x y : W32) : evp (.bin .and .no) [bv x, bv y] = some (bv (x &&& y)) := by
 show some (V.int .u32 (IntKind.u32.wrap ((BitVec.ofInt IntKind.u32.bits (x.toNat : Int) &&& BitVec.ofInt IntKind.u32.bits (y.toNat : Int)).toNat : Nat))) = _
 rw [Zns, Zns]; exact congrArg (fun n => some (V.int .u32 n)) (Zku (x &&& y))
theorem b_or (x y : W32) : evp (.bin .or .no) [bv x, bv y] = some (bv (x ||| y)) := by
 show some (V.int .u32 (IntKind.u32.wrap ((BitVec.ofInt IntKind.u32.bits (x.toNat : Int) ||| BitVec.ofInt IntKind.u32.bits (y.toNat : Int)).toNat : Nat))) = _
 rw [Zns, Zns]; exact congrArg (fun n => some (V.int .u32 n)) (Zku (x ||| y))
theorem b_xor (x y : W32) : evp (.bin .xor .no) [bv x, bv y] = some (bv (x ^^^ y)) := by
 show some (V.int .u32 (IntKind.u32.wrap ((BitVec.ofInt IntKind.u32.bits (x.toNat : Int) ^^^ BitVec.ofInt IntKind.u32.bits (y.toNat : Int)).toNat : Nat))) = _
 rw [Zns, Zns]; exact congrArg (fun n => some (V.int .u32 n)) (Zku (x ^^^ y))
theorem Z5g (x : W32) : evp (.un .xor) [bv x] = some (bv (~~~x)) := by
 show some (V.int .u32 (IntKind.u32.wrap ((BitVec.ofInt 32 4294967295 ^^^ BitVec.ofInt 32 (x.toNat : Int)).toNat : Nat))) = _
 rw [show BitVec.ofInt 32 (x.toNat : Int) = x from Zns x, show BitVec.ofInt 32 4294967295 = BitVec.allOnes 32 by decide, BitVec.allOnes_xor]; exact congrArg (fun n => some (V.int .u32 n)) (Zku (~~~x))
theorem Zv3 (x : W32) (k : Nat) (kd : IntKind) (hk : k <= 32) : evp (.bin .shl .no) [bv x, .int kd (k : Int)] = some (bv (x <<< k)) := by
 show (if (k : Int) < 0 then none else some (V.int .u32 (IntKind.u32.wrap ((x.toNat : Int) * 2 ^ (min (k : Int).toNat IntKind.u32.bits))))) = _
 rw [if_neg (by omega), Zqj]
 unfold bv
 rw [BitVec.toNat_shiftLeft, Nat.shiftLeft_eq]
 have : min (k : Int).toNat IntKind.u32.bits = k := by show min _ 32 = k; omega
 rw [this]
 congr 2
theorem Zvk (x : W32) (k : Nat) (kd : IntKind) (hk : k <= 32) : evp (.bin .shr .no) [bv x, .int kd (k : Int)] = some (bv (x >>> k)) := by
 show (if (k : Int) < 0 then none else some (V.int .u32 ((x.toNat : Int).fdiv (2 ^ (min (k : Int).toNat IntKind.u32.bits))))) = _
 have : min (k : Int).toNat IntKind.u32.bits = k := by show min _ 32 = k; omega
 rw [if_neg (by omega), this]
 unfold bv
 rw [BitVec.toNat_ushiftRight, Nat.shiftRight_eq_div_pow]
 congr 2
 rw [Xc1 _ (Int.le_of_lt (Int.pow_pos (by decide)))]
 simp
def bw (b : UInt8) : W32 := BitVec.ofNat 32 b.toNat
theorem Z08 (b : UInt8) : evp (.i2i .u32) [byteV b] = some (bv (bw b)) := by
 show some (V.int .u32 (IntKind.u32.wrap (b.toNat : Int))) = _
 rw [Zqj]
 unfold bv bw
 rw [BitVec.toNat_ofNat]
 congr 2
def wb (x : W32) : UInt8 := UInt8.ofNat x.toNat
theorem Zu1 (x : W32) : evp (.i2i .u8) [bv x] = some (byteV (wb x)) := by
 show some (V.int .u8 (IntKind.u8.wrap (x.toNat : Int))) = _
 rw [Z3i]
 unfold byteV wb
 congr 2
def Zd3 (x : W32) (k : Nat) : W32 := (x >>> k) ||| (x <<< (32 - k))
variable {e : Ev}
theorem v.rot (x : W32) (k : Nat) (hk : k <= 32) (h1 : 1 <= k) (hw : evp (.bin .and .no) [.int .u64 (IntKind.u64.wrap (-(k : Int))), .int .u64 31] = some (.int .u64 ((32 - k : Nat) : Int))) : vl e 81 0 [bv x, .int .i64 (-(k : Int))] = some (bv (Zd3 x k)) := by
 have e0 : evp (.i2i .u64) [.int .i64 (-(k : Int))] = some (.int .u64 (IntKind.u64.wrap (-(k : Int)))) := rfl
 have e1 : IntKind.u64.wrap (32 - ((32 - k : Nat) : Int)) = (k : Int) := by rw [Zko]; omega
 rw [w.zq9]; unfold y.zq9
 simp only [yy, e0, hw, Zv3 x (32 - k) .u64 (by omega), e1, Zvk x k .u64 hk, b_or]
 unfold Zd3
 rw [BitVec.or_comm]
def Zxf (x : W32) (i j k : Nat) : W32 := (Zd3 x i ^^^ Zd3 x j) ^^^ Zd3 x k
abbrev wl (l : List W32) : V := .agg (l.map bv)
abbrev bl (l : Bytes) : V := .agg (l.map byteV)
theorem Zgn {m : Nat} {k : IntKind} {i : Int} (h0 : 0 <= i) (h : i < m) : evp (.chk m) [.int k i] = some (.int k i) := by
 show vChk m (.int k i) = _
 exact if_pos ⟨h0, h⟩
theorem Zv0 {l : List W32} {k : IntKind} {i : Nat} (h : i < l.length) : evp (.ldd none 0 1) [wl l, .int k (i : Int)] = some (bv l[i]) := by
 show (l.map bv)[0 + (i : Int).toNat * 1]? = _
 rw [Xan, Xcl, Xbe, Xbr, Xad h]; rfl
theorem Zze {l : List W32} {k : IntKind} {i : Nat} {x : W32} (h : i < l.length) : evp (.std 1 0 1) [wl l, .int k (i : Int), bv x] = some (wl (l.set i x)) := by
 show vSet 1 (0 + (i : Int).toNat * 1) (wl l) (bv x) = _
 have hc : (wl l).cells = l.map bv := rfl
 have hb : (bv x).cells = [bv x] := rfl
 unfold vSet
 rw [Xan, Xcl, Xbe, hc, hb, if_pos ⟨rfl, rfl, by simp; omega⟩, wl, List.map_set, Xb8, if_pos (by simpa using h)]
 simp [Zao]
theorem Zlw {l : Bytes} {k : IntKind} {i : Nat} {x : UInt8} (h : i < l.length) : evp (.std 1 0 1) [bl l, .int k (i : Int), byteV x] = some (bl (l.set i x)) := by
 show vSet 1 (0 + (i : Int).toNat * 1) (bl l) (byteV x) = _
 have hc : (bl l).cells = l.map byteV := rfl
 have hb : (byteV x).cells = [byteV x] := rfl
 unfold vSet
 rw [Xan, Xcl, Xbe, hc, hb, if_pos ⟨rfl, rfl, by simp; omega⟩, bl, List.map_set, Xb8, if_pos (by simpa using h)]
 simp [Zao]
end Go.Proofs.YtpmgdngjbdkdfaaDoor
namespace Go.Proofs.YtpmgdngjbdkdfaaDoor
open Go.Abs
set_option maxRecDepth 10000
variable {e : Ev}
def Zsa (b : Bytes) (i : Nat) : W32 := (((bw (b.getD i 0) <<< 24) ||| (bw (b.getD (i + 1) 0) <<< 16)) ||| (bw (b.getD (i + 2) 0) <<< 8)) ||| bw (b.getD (i + 3) 0)
def Zq3 (b : Bytes) : Nat -> Nat -> List W32 -> List W32
 | 0, _, ws => ws
 | n + 1, i, ws => Zq3 b n (i + 1) (ws.set i (Zsa b (4 * i)))
def sig0 (x : W32) : W32 := (Zd3 x 7 ^^^ Zd3 x 18) ^^^ (x >>> 3)
def sig1 (x : W32) : W32 := (Zd3 x 17 ^^^ Zd3 x 19) ^^^ (x >>> 10)
def schW : Nat -> Nat -> List W32 -> List W32
 | 0, _, ws => ws
 | n + 1, i, ws => schW n (i + 1) (ws.set i (((ws.getD (i - 16) 0 + sig0 (ws.getD (i - 15) 0)) + ws.getD (i - 7) 0) + sig1 (ws.getD (i - 2) 0)))
def rndW (K ws : List W32) : Nat -> Nat -> W32 -> W32 -> W32 -> W32 -> W32 -> W32 -> W32 -> W32 -> List W32
 | 0, _, a, b, c, d, e, f, g, h => [a, b, c, d, e, f, g, h]
 | n + 1, i, a, b, c, d, e, f, g, h =>
  let p := (((h + Zxf e 6 11 25) + ((e &&& f) ^^^ (~~~e &&& g))) + K.getD i 0) + ws.getD i 0
  let q := Zxf a 2 13 22 + (((a &&& b) ^^^ (a &&& c)) ^^^ (b &&& c))
  rndW K ws n (i + 1) (p + q) a b c (d + p) e f g
def addW (x : List W32) : Nat -> Nat -> List W32 -> List W32
 | 0, _, st => st
 | n + 1, i, st => addW x n (i + 1) (st.set i (st.getD i 0 + x.getD i 0))
def allW (b : Bytes) : List W32 := schW 48 16 (Zq3 b 16 0 (List.replicate 64 0))
def Zef (K : List W32) (st : List W32) (b : Bytes) : List W32 :=
 addW (rndW K (allW b) 64 0 (st.getD 0 0) (st.getD 1 0) (st.getD 2 0) (st.getD 3 0) (st.getD 4 0) (st.getD 5 0) (st.getD 6 0) (st.getD 7 0)) 8 0 st
theorem Zhp (b : Bytes) : ∀ (n i : Nat) (ws : List W32), (Zq3 b n i ws).length = ws.length
 | 0, _, _ => rfl
 | n + 1, i, ws => by rw [Zq3, Zhp b n]; simp
theorem Zpb : ∀ (n i : Nat) (ws : List W32), (schW n i ws).length = ws.length
 | 0, _, _ => rfl
 | n + 1, i, ws => by rw [schW, Zpb n]; simp
theorem Zwk (b : Bytes) : (allW b).length = 64 := by rw [allW, Zpb, Zhp]; simp
theorem Zkc (x : List W32) : ∀ (n i : Nat) (st : List W32), (addW x n i st).length = st.length
 | 0, _, _ => rfl
 | n + 1, i, st => by rw [addW, Zkc x n]; simp
theorem Zcl {α : Type} {l : List α} {d : α} {i : Nat} (h : i < l.length) : l.getD i d = l[i] := by simp [List.getD, h]
theorem v_eb {b : Bytes} {i : Nat} (h : i < b.length) : evp (.elem 1) [.sl false 1 (b.map byteV), .int .i64 (i : Int)] = some (byteV (b.getD i 0)) := Zmq (by simp [List.getD, h])
theorem Z46 {c : UInt8} : evp (.ld none 0) [byteV c] = some (byteV c) := rfl
theorem v.word (b : Bytes) (h : 4 <= b.length) : vl e 80 0 [.sl false 1 (b.map byteV)] = some (bv (Zsa b 0)) := by
 have h0 : evp (.elem 1) [.sl false 1 (b.map byteV), .int .i64 0] = some (byteV (b.getD 0 0)) := v_eb (i := 0) (by omega)
 have h1 : evp (.elem 1) [.sl false 1 (b.map byteV), .int .i64 1] = some (byteV (b.getD 1 0)) := v_eb (i := 1) (by omega)
 have h2 : evp (.elem 1) [.sl false 1 (b.map byteV), .int .i64 2] = some (byteV (b.getD 2 0)) := v_eb (i := 2) (by omega)
 have h3 : evp (.elem 1) [.sl false 1 (b.map byteV), .int .i64 3] = some (byteV (b.getD 3 0)) := v_eb (i := 3) (by omega)
 have s24 : ∀ x : W32, evp (.bin .shl .no) [bv x, .int .u64 24] = some (bv (x <<< 24)) := fun x => Zv3 x 24 .u64 (by decide)
 have s16 : ∀ x : W32, evp (.bin .shl .no) [bv x, .int .u64 16] = some (bv (x <<< 16)) := fun x => Zv3 x 16 .u64 (by decide)
 have s8 : ∀ x : W32, evp (.bin .shl .no) [bv x, .int .u64 8] = some (bv (x <<< 8)) := fun x => Zv3 x 8 .u64 (by decide)
 rw [w.zq44]; unfold y.zq44
 simp only [yy, h0, h1, h2, h3, Z46, Z08, s24, s16, s8, b_or]; rfl
theorem Zqn (b : Bytes) (i : Nat) : Zsa (b.drop i) 0 = Zsa b i := by
 unfold Zsa
 simp [List.getD, Xb7]
theorem Zyj {b : Bytes} (hb : b.length = 64) {i : Nat} (hi : i < 64) : evp (.snapd 0 64) [bl b, .int .i64 (i : Int)] = some (.sl false 1 ((b.drop i).map byteV)) := by
 refine (if_pos (show 0 <= (i : Int) /\ (i : Int) < (64 : Nat) /\ 0 + 64 <= (bl b).cells.length from ⟨by omega, by omega, by show _ <= (b.map byteV).length; simp; omega⟩)).trans ?_
 show some (V.sl false 1 (((b.map byteV).drop (0 + (i : Int).toNat)).take (64 - (i : Int).toNat))) = _
 rw [Xan, Xbe, Xfd, Xa0 (by simp; omega)]
theorem Z7o {x : W32} : evp .flr [bv x] = some (bv x) := rfl
theorem mul4 {i : Nat} (h : i < 64) : IntKind.i64.wrap (4 * (i : Int)) = ((4 * i : Nat) : Int) := by rw [w64 _ (by omega)]; omega
theorem v.load (st : V) (b : Bytes) (hb : b.length = 64) : ∀ (n i : Nat) (ws : List W32), i + n = 16 -> ws.length = 64 ->
  vl e 11136 8 [I i, st, bl b, wl ws] = vl e 11136 25 [I 16, st, bl b, wl (Zq3 b n i ws)]
 | 0, i, ws, hi, hw => by
  rw [w.zq25_h0_8]; unfold y.zq25_h0_8
  simp only [yy, if_neg (show ¬((i : Int) < 16) by omega)]; rfl
 | n + 1, i, ws, hi, hw => by
  have hd := v.word (e := e) (b.drop (4 * i)) (by simp; omega)
  rw [Zqn] at hd
  rw [w.zq25_h0_8]; unfold y.zq25_h0_8
  simp only [yy, if_pos (show (i : Int) < 16 by omega), Zof, mul4 (show i < 64 by omega), Zgn (m := 64) (k := .i64) (i := ((4 * i : Nat) : Int)) (by omega) (by omega), Zyj hb (show 4 * i < 64 by omega), hd, Z7o, Zgn (m := 64) (k := .i64) (i := (i : Int)) (by omega) (by omega), Zze (show i < ws.length by omega), Zay (show i < 64 by omega) (by decide)]
  exact v.load st b hb n (i + 1) _ (by omega) (by simpa using hw)
theorem Zu5 {l : List W32} {i j : Nat} {x : Int} (hj : IntKind.i64.wrap x = (j : Int)) (h : j < 64) (hl : l.length = 64) : evp (.chk 64) [.int .i64 (IntKind.i64.wrap x)] = some (.int .i64 (j : Int)) /\ evp (.ldd none 0 1) [wl l, .int .i64 (j : Int)] = some (bv (l.getD j 0)) := by
 rw [hj]
 exact ⟨Zgn (by omega) (by omega), by rw [Zv0 (by omega), Zcl (by omega)]⟩
theorem Zp9 {i k : Nat} (h : k <= i) (hi : i < 1000) : IntKind.i64.wrap ((i : Int) - (k : Int)) = ((i - k : Nat) : Int) := by rw [w64 _ (by omega)]; omega
theorem v.sched (a0 a1 a2 a3 a4 a5 a6 a7 : W32) (b : V) : ∀ (n i : Nat) (ws : List W32), i + n = 64 -> 16 <= i -> ws.length = 64 ->
  vl e 11136 25 [I i, wl [a0, a1, a2, a3, a4, a5, a6, a7], b, wl ws] = vl e 11136 48 [bv a0, bv a1, bv a2, bv a3, bv a4, bv a5, bv a6, bv a7, wl (schW n i ws), I 0, wl [a0, a1, a2, a3, a4, a5, a6, a7], b]
 | 0, i, ws, hi, _, hw => by
  have l : ∀ k x, ([a0, a1, a2, a3, a4, a5, a6, a7].map bv)[k]? = some x -> evp (.ld none k) [wl [a0, a1, a2, a3, a4, a5, a6, a7]] = some x := fun k x h => h
  rw [w.zq25_h0_25]; unfold y.zq25_h0_25
  simp only [yy, if_neg (show ¬((i : Int) < 64) by omega), l 0 _ rfl, l 1 _ rfl, l 2 _ rfl, l 3 _ rfl, l 4 _ rfl, l 5 _ rfl, l 6 _ rfl, l 7 _ rfl]; rfl
 | n + 1, i, ws, hi, h16, hw => by
  obtain ⟨c15, l15⟩ := Zu5 (l := ws) (i := i) (j := i - 15) (x := (i : Int) - 15) (Zp9 (k := 15) (by omega) (by omega)) (by omega) hw
  obtain ⟨c2, l2⟩ := Zu5 (l := ws) (i := i) (j := i - 2) (x := (i : Int) - 2) (Zp9 (k := 2) (by omega) (by omega)) (by omega) hw
  obtain ⟨c16, l16⟩ := Zu5 (l := ws) (i := i) (j := i - 16) (x := (i : Int) - 16) (Zp9 (k := 16) (by omega) (by omega)) (by omega) hw
  obtain ⟨c7, l7⟩ := Zu5 (l := ws) (i := i) (j := i - 7) (x := (i : Int) - 7) (Zp9 (k := 7) (by omega) (by omega)) (by omega) hw
  have r7 : ∀ x : W32, vl e 81 0 [bv x, .int .i64 (-7)] = some (bv (Zd3 x 7)) := fun x => v.rot x 7 (by decide) (by decide) rfl
  have r18 : ∀ x : W32, vl e 81 0 [bv x, .int .i64 (-18)] = some (bv (Zd3 x 18)) := fun x => v.rot x 18 (by decide) (by decide) rfl
  have r17 : ∀ x : W32, vl e 81 0 [bv x, .int .i64 (-17)] = some (bv (Zd3 x 17)) := fun x => v.rot x 17 (by decide) (by decide) rfl
  have r19 : ∀ x : W32, vl e 81 0 [bv x, .int .i64 (-19)] = some (bv (Zd3 x 19)) := fun x => v.rot x 19 (by decide) (by decide) rfl
  have s3 : ∀ x : W32, evp (.bin .shr .no) [bv x, .int .u64 3] = some (bv (x >>> 3)) := fun x => Zvk x 3 .u64 (by decide)
  have s10 : ∀ x : W32, evp (.bin .shr .no) [bv x, .int .u64 10] = some (bv (x >>> 10)) := fun x => Zvk x 10 .u64 (by decide)
  rw [w.zq25_h0_25]; unfold y.zq25_h0_25
  simp only [yy, if_pos (show (i : Int) < 64 by omega), c15, l15, c2, l2, c16, l16, c7, l7, r7, r18, r17, r19, s3, s10, b_xor, b_add, Zgn (m := 64) (k := .i64) (i := (i : Int)) (by omega) (by omega), Zze (show i < ws.length by omega), Zay (show i < 64 by omega) (by decide)]
  exact v.sched a0 a1 a2 a3 a4 a5 a6 a7 b n (i + 1) _ (by omega) (by omega) (by simpa using hw)
end Go.Proofs.YtpmgdngjbdkdfaaDoor
namespace Go.Proofs.YtpmgdngjbdkdfaaDoor
open Go.Abs
set_option maxRecDepth 10000
variable {e : Ev}
def KT : List W32 := [1116352408, 1899447441, 3049323471, 3921009573, 961987163, 1508970993, 2453635748, 2870763221, 3624381080, 310598401, 607225278, 1426881987, 1925078388, 2162078206, 2614888103, 3248222580, 3835390401, 4022224774, 264347078, 604807628, 770255983, 1249150122, 1555081692, 1996064986, 2554220882, 2821834349, 2952996808, 3210313671, 3336571891, 3584528711, 113926993, 338241895, 666307205, 773529912, 1294757372, 1396182291, 1695183700, 1986661051, 2177026350, 2456956037, 2730485921, 2820302411, 3259730800, 3345764771, 3516065817, 3600352804, 4094571909, 275423344, 430227734, 506948616, 659060556, 883997877, 958139571, 1322822218, 1537002063, 1747873779, 1955562222, 2024104815, 2227730452, 2361852424, 2428436474, 2756734187, 3204031479, 3329325298]
theorem Z6v : tb0 = KT.map bv := rfl
theorem Zw5 : KT.length = 64 := rfl
theorem Z62 {k : IntKind} {i : Nat} (h : i < 64) : evp (.ldd none 0 1) [.agg tb0, .int k (i : Int)] = some (bv (KT.getD i 0)) := by
 rw [Z6v, Zcl (by rw [Zw5]; exact h)]; exact Zv0 (by rw [Zw5]; exact h)
theorem Zxq {m : Nat} {l : List W32} {i : Nat} (h : i < l.length) (hm : i < m) : evp (.idxa m 1 none) [wl l, .int .i64 (i : Int)] = some (bv (l.getD i 0)) := by
 show (if 0 <= (i : Int) /\ (i : Int) < (m : Int) then (l.map bv)[(i : Int).toNat * 1]? else none) = _
 rw [if_pos ⟨by omega, by omega⟩, Xcl, Xbe, Xbr, Xad h, Zcl h]; rfl
theorem v.rounds (st b : V) (ws : List W32) (hw : ws.length = 64) : ∀ (n i : Nat) (a b1 c d e1 f g h : W32), i + n = 64 ->
  vl e 11136 48 [bv a, bv b1, bv c, bv d, bv e1, bv f, bv g, bv h, wl ws, I i, st, b] = vl e 11136 72 [wl (rndW KT ws n i a b1 c d e1 f g h), I 0, st, b]
 | 0, i, a, b1, c, d, e1, f, g, h, hi => by
  have hc : evp (.cat [none, none, none, none, none, none, none, none]) [bv a, bv b1, bv c, bv d, bv e1, bv f, bv g, bv h] = some (wl [a, b1, c, d, e1, f, g, h]) := rfl
  rw [w.zq25_h0_48]; unfold y.zq25_h0_48
  simp only [yy, if_neg (show ¬((i : Int) < 64) by omega), hc]; rfl
 | n + 1, i, a, b1, c, d, e1, f, g, h, hi => by
  have r (k : Nat) (hk : k <= 32) (h1 : 1 <= k) (hq : evp (.bin .and .no) [.int .u64 (IntKind.u64.wrap (-(k : Int))), .int .u64 31] = some (.int .u64 ((32 - k : Nat) : Int))) (x : W32) := v.rot (e := e) x k hk h1 hq
  have r6 : ∀ x : W32, vl e 81 0 [bv x, .int .i64 (-6)] = some (bv (Zd3 x 6)) := r 6 (by decide) (by decide) rfl
  have r11 : ∀ x : W32, vl e 81 0 [bv x, .int .i64 (-11)] = some (bv (Zd3 x 11)) := r 11 (by decide) (by decide) rfl
  have r25 : ∀ x : W32, vl e 81 0 [bv x, .int .i64 (-25)] = some (bv (Zd3 x 25)) := r 25 (by decide) (by decide) rfl
  have r2 : ∀ x : W32, vl e 81 0 [bv x, .int .i64 (-2)] = some (bv (Zd3 x 2)) := r 2 (by decide) (by decide) rfl
  have r13 : ∀ x : W32, vl e 81 0 [bv x, .int .i64 (-13)] = some (bv (Zd3 x 13)) := r 13 (by decide) (by decide) rfl
  have r22 : ∀ x : W32, vl e 81 0 [bv x, .int .i64 (-22)] = some (bv (Zd3 x 22)) := r 22 (by decide) (by decide) rfl
  rw [w.zq25_h0_48]; unfold y.zq25_h0_48
  simp only [yy, if_pos (show (i : Int) < 64 by omega), Zxq (m := 64) (l := ws) (i := i) (by omega) (by omega), r6, r11, r25, b_xor, b_add, b_and, Z5g, Zgn (m := 64) (k := .i64) (i := (i : Int)) (by omega) (by omega)]
  refine Zt8 (Z62 (show i < 64 by omega)) ?_
  simp only [yy, b_add, r2, r13, r22, b_xor, b_and, Zay (show i < 64 by omega) (by decide)]
  exact v.rounds st b ws hw n (i + 1) _ _ _ _ _ _ _ _ (by omega)
theorem v.addR (b : V) (x : List W32) (hx : x.length = 8) : ∀ (n i : Nat) (st : List W32), i + n = 8 -> st.length = 8 ->
  vl e 11136 72 [wl x, I i, wl st, b] = some (.tup [wl (addW x n i st), b])
 | 0, i, st, hi, hs => by
  rw [w.zq25_h0_72]; unfold y.zq25_h0_72
  simp only [yy, if_neg (show ¬((i : Int) < 8) by omega)]; rfl
 | n + 1, i, st, hi, hs => by
  have lw : evp (.ldd none 0 1) [wl st, .int .i64 (i : Int)] = some (bv (st.getD i 0)) := by rw [Zv0 (by omega), Zcl (by omega)]
  rw [w.zq25_h0_72]; unfold y.zq25_h0_72
  simp only [yy, if_pos (show (i : Int) < 8 by omega), Zxq (m := 8) (l := x) (i := i) (by omega) (by omega), Zgn (m := 8) (k := .i64) (i := (i : Int)) (by omega) (by omega), lw, b_add, Zze (show i < st.length by omega), Zay (show i < 8 by omega) (by decide)]
  exact v.addR b x hx n (i + 1) _ (by omega) (by simpa using hs)
theorem Zph (K ws : List W32) : ∀ (n i : Nat) (a b c d e f g h : W32), (rndW K ws n i a b c d e f g h).length = 8
 | 0, _, _, _, _, _, _, _, _, _ => rfl
 | n + 1, i, a, b, c, d, e, f, g, h => Zph K ws n (i + 1) _ _ _ _ _ _ _ _
theorem Z5q {l : List W32} (h : l.length = 8) : ∃ a b c d e f g h, l = [a, b, c, d, e, f, g, h] := by
 match l, h with
 | [a, b, c, d, e, f, g, h], _ => exact ⟨a, b, c, d, e, f, g, h, rfl⟩
theorem v.block (st : List W32) (hs : st.length = 8) (b : Bytes) (hb : b.length = 64) : vl e 11136 1 [wl st, bl b] = some (.tup [wl (Zef KT st b), bl b]) := by
 obtain ⟨a0, a1, a2, a3, a4, a5, a6, a7, rfl⟩ := Z5q hs
 rw [w.zq25_h0]; unfold y.zq25_h0
 have hz : V.agg (repl 64 (.int .u32 0)) = wl (List.replicate 64 0) := rfl
 rw [hz]
 have h1 := v.load (e := e) (wl [a0, a1, a2, a3, a4, a5, a6, a7]) b hb 16 0 (List.replicate 64 0) (by decide) (by simp)
 have h2 := v.sched (e := e) a0 a1 a2 a3 a4 a5 a6 a7 (bl b) 48 16 (Zq3 b 16 0 (List.replicate 64 0)) (by decide) (by decide) (by rw [Zhp]; simp)
 have h3 := v.rounds (e := e) (wl [a0, a1, a2, a3, a4, a5, a6, a7]) (bl b) (allW b) (Zwk b) 64 0 a0 a1 a2 a3 a4 a5 a6 a7 (by decide)
 have h4 := v.addR (e := e) (bl b) (rndW KT (allW b) 64 0 a0 a1 a2 a3 a4 a5 a6 a7) (Zph ..) 8 0 [a0, a1, a2, a3, a4, a5, a6, a7] (by decide) rfl
 exact h1.trans (h2.trans (h3.trans h4))
end Go.Proofs.YtpmgdngjbdkdfaaDoor
namespace Go.Proofs.YtpmgdngjbdkdfaaDoor
open Go.Abs
set_option maxRecDepth 10000
variable {e : Ev}
theorem Zp5 (b : Bytes) : encB b = b.map byteV := rfl
theorem fill {α : Type} {F Z : List α} {i : Nat} (hi : i < F.length) (hl : F.length = Z.length) : (F.take i ++ Z.drop i).set i F[i] = F.take (i + 1) ++ Z.drop (i + 1) := by
 have hz : Z.drop i = Z[i]'(by omega) :: Z.drop (i + 1) := Xao (by omega)
 have ht : F.take (i + 1) = F.take i ++ [F[i]] := by simp
 have hlt : (F.take i).length = i := by simp; omega
 rw [ht, hz, Xcb _ _ (by omega), hlt, Xe4, List.set_cons_zero, Xap]; rfl
theorem Zj7 {α : Type} {F Z : List α} {i : Nat} (hi : i <= F.length) (hl : F.length = Z.length) : (F.take i ++ Z.drop i).length = F.length := by simp; omega
def outB (st : List W32) : Bytes := (List.range 32).map fun i => wb ((st.getD (i / 4) 0) >>> (24 - 8 * (i % 4)))
theorem Zkg (st : List W32) : (outB st).length = 32 := by simp [outB]
theorem Zvw (st : List W32) {i : Nat} (h : i < (outB st).length) : (outB st)[i] = wb ((st.getD (i / 4) 0) >>> (24 - 8 * (i % 4))) := by simp [outB]
theorem Zbm {o : Bytes} (h : o.length = 32) : evp (.cat [some 32]) [bl o] = some (bl o) := by
 show (catV [some 32] [bl o]).map V.agg = _
 have hc : (bl o).cells.length = 32 /\ (bl o).cells.all V.sc = true := ⟨by show (o.map byteV).length = 32; simpa using h, by
  rw [Xam]; intro c hc
  obtain ⟨x, _, rfl⟩ := Xbb.1 (show c ∈ o.map byteV from hc); rfl⟩
 show ((if (bl o).cells.length = 32 /\ (bl o).cells.all V.sc = true then (catV [] []).map ((bl o).cells ++ ·) else none)).map V.agg = _
 rw [if_pos hc]
 show some (V.agg ((bl o).cells ++ [])) = _
 rw [Xaw]; rfl
theorem Z2w : V.agg (repl 32 (.int .u8 0)) = bl (List.replicate 32 0) := rfl
theorem v.out (z : V) (st : List W32) (hs : st.length = 8) : ∀ (n i : Nat), i + n = 32 ->
  vl e 60 64 [I i, z, wl st, bl ((outB st).take i ++ (List.replicate 32 0).drop i)] = some (bl (outB st))
 | 0, i, hi => by
  have hl := Zkg st
  rw [Xa0 (by omega), Xat (by simp; omega), Xaw]
  rw [w.zq42_64]; unfold y.zq42_64
  simp only [yy, if_neg (show ¬((i : Int) < 32) by omega), Zbm hl]
 | n + 1, i, hi => by
  have hl := Zkg st
  have hq : evp (.bin .quo .no) [.int .i64 (i : Int), .int .i64 4] = some (.int .i64 ((i / 4 : Nat) : Int)) := Z5m (k := 4) (by decide) (by omega)
  have hr : evp (.bin .rem .no) [.int .i64 (i : Int), .int .i64 4] = some (.int .i64 ((i % 4 : Nat) : Int)) := Z5o (k := 4) (by decide)
  have e1 : IntKind.i64.wrap (8 * ((i % 4 : Nat) : Int)) = ((8 * (i % 4) : Nat) : Int) := by rw [w64 _ (by omega)]; omega
  have e2 : IntKind.i64.wrap (24 - ((8 * (i % 4) : Nat) : Int)) = ((24 - 8 * (i % 4) : Nat) : Int) := by rw [w64 _ (by omega)]; omega
  have lw : evp (.ldd none 0 1) [wl st, .int .i64 ((i / 4 : Nat) : Int)] = some (bv (st.getD (i / 4) 0)) := by rw [Zv0 (by omega), Zcl (by omega)]
  have hset : ((outB st).take i ++ (List.replicate 32 0).drop i).set i (wb ((st.getD (i / 4) 0) >>> (24 - 8 * (i % 4)))) = (outB st).take (i + 1) ++ (List.replicate 32 0).drop (i + 1) := by
   rw [<- Zvw st (by omega)]; exact fill (by omega) (by simpa using hl)
  have hst := Zlw (k := .i64) (l := (outB st).take i ++ (List.replicate 32 0).drop i) (i := i) (x := wb ((st.getD (i / 4) 0) >>> (24 - 8 * (i % 4)))) (by rw [Zj7 (by omega) (by simpa using hl)]; omega)
  rw [hset] at hst
  rw [w.zq42_64]; unfold y.zq42_64
  simp only [yy, if_pos (show (i : Int) < 32 by omega), hq, Zgn (m := 8) (k := .i64) (i := ((i / 4 : Nat) : Int)) (by omega) (by omega), lw, hr, Zof, e1, e2, Zvk (st.getD (i / 4) 0) (24 - 8 * (i % 4)) .i64 (by omega), Zu1, Zgn (m := 32) (k := .i64) (i := (i : Int)) (by omega) (by omega), hst, Zay (show i < 64 by omega) (by decide)]
  exact v.out z st hs n (i + 1) (by omega)
def lenB (n : Nat) : Bytes := (List.range 8).map fun i => UInt8.ofNat (8 * n / 2 ^ (56 - 8 * i))
theorem Zf6 (n : Nat) : (lenB n).length = 8 := by simp [lenB]
theorem Zwp (n : Nat) {i : Nat} (h : i < (lenB n).length) : (lenB n)[i] = UInt8.ofNat (8 * n / 2 ^ (56 - 8 * i)) := by simp [lenB]
theorem Zjw (n : Nat) : V.int .u8 (IntKind.u8.wrap (n : Int)) = byteV (UInt8.ofNat n) := by
 rw [Z3i]; unfold byteV
 congr 1
theorem v.lens (s : Bytes) (hs : s.length <= 1000000000000) (o st : V) (base z : Bytes) (hb : base.length = 56) (hz : z.length = 8) : ∀ (n i : Nat), i + n = 8 ->
  vl e 60 43 [.str s, I i, o, st, bl (base ++ ((lenB s.length).take i ++ z.drop i))] = vl e 60 43 [.str s, I 8, o, st, bl (base ++ lenB s.length)]
 | 0, i, hi => by
  have hl := Zf6 s.length
  obtain rfl : i = 8 := by omega
  rw [Xa0 (by omega), Xat (by omega), Xaw]; rfl
 | n + 1, i, hi => by
  have hl := Zf6 s.length
  have e0 : IntKind.i64.wrap (56 + (i : Int)) = ((56 + i : Nat) : Int) := by rw [w64 _ (by omega)]; omega
  have e1 : IntKind.i64.wrap (8 * (i : Int)) = ((8 * i : Nat) : Int) := by rw [w64 _ (by omega)]; omega
  have e2 : IntKind.i64.wrap (56 - ((8 * i : Nat) : Int)) = ((56 - 8 * i : Nat) : Int) := by rw [w64 _ (by omega)]; omega
  have e3 : evp (.i2i .u64) [.int .i64 (s.length : Int)] = some (.int .u64 (s.length : Int)) := by
   show some (V.int .u64 (IntKind.u64.wrap (s.length : Int))) = _
   rw [Zko, Xez (by omega) (by omega)]
  have e4 : evp (.bin .shl .no) [.int .u64 (s.length : Int), .int .u64 3] = some (.int .u64 ((8 * s.length : Nat) : Int)) := by
   show some (V.int .u64 (IntKind.u64.wrap ((s.length : Int) * 2 ^ 3))) = _
   rw [Zko, Xez (by omega) (by omega)]
   congr 2; omega
  have e5 : evp (.bin .shr .no) [.int .u64 ((8 * s.length : Nat) : Int), .int .i64 ((56 - 8 * i : Nat) : Int)] = some (.int .u64 ((8 * s.length / 2 ^ (56 - 8 * i) : Nat) : Int)) := by
   show (if ((56 - 8 * i : Nat) : Int) < 0 then none else some (V.int .u64 (((8 * s.length : Nat) : Int).fdiv (2 ^ (min ((56 - 8 * i : Nat) : Int).toNat IntKind.u64.bits))))) = _
   have : min ((56 - 8 * i : Nat) : Int).toNat IntKind.u64.bits = 56 - 8 * i := by show min _ 64 = _; omega
   rw [if_neg (by omega), this, Xc1 _ (Int.le_of_lt (Int.pow_pos (by decide)))]
   simp
  have e6 : evp (.i2i .u8) [.int .u64 ((8 * s.length / 2 ^ (56 - 8 * i) : Nat) : Int)] = some (byteV (UInt8.ofNat (8 * s.length / 2 ^ (56 - 8 * i)))) := congrArg some (Zjw _)
  have hset : (base ++ ((lenB s.length).take i ++ z.drop i)).set (56 + i) (UInt8.ofNat (8 * s.length / 2 ^ (56 - 8 * i))) = base ++ ((lenB s.length).take (i + 1) ++ z.drop (i + 1)) := by
   rw [Xcb _ _ (by omega), show 56 + i - base.length = i by omega, <- Zwp s.length (by omega), fill (by omega) (by omega)]
  have hst := Zlw (k := .i64) (l := base ++ ((lenB s.length).take i ++ z.drop i)) (i := 56 + i) (x := UInt8.ofNat (8 * s.length / 2 ^ (56 - 8 * i))) (by rw [Xai, Zj7 (by omega) (by omega)]; omega)
  rw [hset] at hst
  rw [w.zq42_43]; unfold y.zq42_43
  simp only [yy, if_pos (show (i : Int) < 8 by omega), e0, e3, e4, Zof, e1, e2, e5, e6, Zgn (m := 64) (k := .i64) (i := ((56 + i : Nat) : Int)) (by omega) (by omega), hst, Zay (show i < 64 by omega) (by decide)]
  exact v.lens s hs o st base z hb hz n (i + 1) (by omega)
theorem v.endOf (s : Bytes) (hs : s.length <= 1000000000000) (o : V) (st : List W32) (h8 : st.length = 8) (base z : Bytes) (hb : base.length = 56) (hz : z.length = 8) :
  vl e 60 39 [.str s, o, wl st, bl (base ++ z)] = some (bl (outB (Zef KT st (base ++ lenB s.length)))) := by
 have h1 := v.lens (e := e) s hs o (wl st) base z hb hz 8 0 (by omega)
 rw [Xcd, Xbc, Xbg] at h1
 have hl := Zf6 s.length
 have hblk := v.block (e := e) st h8 (base ++ lenB s.length) (by simp; omega)
 have h2 := v.out (e := e) o (Zef KT st (base ++ lenB s.length)) (by unfold Zef; rw [Zkc]; exact h8) 32 0 (by omega)
 rw [Xcd, Xbc, Xbg] at h2
 rw [w.zq42_39]; unfold y.zq42_39
 refine h1.trans ?_
 rw [w.zq42_43]; unfold y.zq42_43
 simp only [yy, if_neg (show ¬((8 : Int) < 8) by omega), hblk]
 exact h2
end Go.Proofs.YtpmgdngjbdkdfaaDoor
