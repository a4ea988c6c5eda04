/-
  Parts of the proof, one behind the other. Own work of this seat; some printed by its programs.
-/
import Derived.Test.YtpmgdngjbdkdfaaGreatDoorM2
import Derived.Test.YtpmgdngjbdkdfaaGreatDoorProg
import Derived.Shelf.Strings.Builder1
import Derived.Shelf.Strings.Builder2
import Derived.Shelf.Strings.OnBuilder
import Derived.Shelf.Small.Wraps
import Derived.Shelf.Strings.BuilderF
import Derived.Shelf.Strings.BuilderK
import Derived.Shelf.Strings.Search1
import Derived.Shelf.Strings.Search2
import Derived.Shelf.Strings.Search3
import Derived.Shelf.Strings.Count
import Derived.Shelf.LaysM
import Derived.Shelf.Strings.Shaped
import Derived.Shelf.Strings.LastIndex
import Derived.Shelf.Strings.Prefix
import Derived.Shelf.Strings.Split
import Derived.Shelf.Strings.SplitShaped
import Derived.Shelf.Unicode.Decode
import Derived.Shelf.Strings.RuneCount
import Derived.Shelf.Strings.Explode
import Derived.Shelf.Unicode.DecodeSlow
import Derived.Shelf.Unicode.DecodeAny
import Derived.Ground.Names2Prog
import Derived.Shelf.Slices.Clone
import Derived.Ground.SlgfProg
import Derived.Shelf.SlicesE.IndexFunc
import Derived.Shelf.SlicesE.DeleteFunc
import Derived.WalkKit
import Derived.Lib.OwnBridge
import Derived.Lib.FieldsP
import Derived.Lib.TrimUEq
import Derived.Test.YtpmgdngjbdkdfaaGreatDoorM3
namespace Go.Proofs.YtpmgdngjbdkdfaaGreatDoor
open Go.Abs Go.RowKit
noncomputable def cxD (w : World) : Cx := ⟨Tryz.prog, w, fun _ => none⟩
theorem mixed : Tryz.prog.follows .mixedOrders = true := by kernel_rfl
def HasMax (w : World) : Prop := ∃ m, w.cell? ⟨1, 0, none⟩ = some (.int .i64 m)
structure EnvOK (w : World) : Prop where
 max : HasMax w
end Go.Proofs.YtpmgdngjbdkdfaaGreatDoor
namespace Go.Proofs
open Go.Shelf
def Tryz.lays156_ren : Go.Shelf.Ren := ⟨fun | 156 => 78 | 165 => 98 | 166 => 99 | 169 => 100 | 240 => 114 | 241 => 115 | 276 => 123 | 277 => 124 | n => n, fun | 31 => 84 | 9 => 9 | 3 => 3 | 4 => 4 | 0 => 0 | 20 => 20 | 72 => 137 | 76 => 141 | 70 => 135 | 37 => 46 | 75 => 140 | 127 => 160 | 164 => 162 | 5 => 5 | 80 => 143 | n => n, fun | n => n⟩
theorem Tryz.lays156 : Go.Proofs.Lays.n156 Tryz.prog Tryz.lays156_ren := {
 mixed := by kernel_rfl
 f156 := Tryz.func78.trans (congrArg some (by kernel_rfl))
 f165 := Tryz.func98.trans (congrArg some (by kernel_rfl))
 f166 := Tryz.func99.trans (congrArg some (by kernel_rfl))
 f169 := Tryz.func100.trans (congrArg some (by kernel_rfl))
 f240 := Tryz.func114.trans (congrArg some (by kernel_rfl))
 f241 := Tryz.func115.trans (congrArg some (by kernel_rfl))
 f276 := Tryz.func123.trans (congrArg some (by kernel_rfl))
 f277 := Tryz.func124.trans (congrArg some (by kernel_rfl))
 t0 := Tryz.underlying0
 a0 := Tryz.isAgg0
 z0 := Tryz.sizeOf0
 v0 := Tryz.zeroValue0
 t3 := Tryz.underlying3
 a3 := Tryz.isAgg3
 z3 := Tryz.sizeOf3
 v3 := Tryz.zeroValue3
 t4 := Tryz.underlying4
 a4 := Tryz.isAgg4
 z4 := Tryz.sizeOf4
 v4 := Tryz.zeroValue4
 t9 := Tryz.underlying9
 a9 := Tryz.isAgg9
 z9 := Tryz.sizeOf9
 v9 := Tryz.zeroValue9
 t20 := Tryz.underlying20
 a20 := Tryz.isAgg20
 z20 := Tryz.sizeOf20
 v20 := Tryz.zeroValue20
 t31 := Tryz.underlying84
 a31 := Tryz.isAgg84
 z31 := Tryz.sizeOf84
 v31 := Tryz.zeroValue84
 t37 := Tryz.underlying46
 a37 := Tryz.isAgg46
 z37 := Tryz.sizeOf46
 v37 := Tryz.zeroValue46
 t70 := Tryz.underlying135
 a70 := Tryz.isAgg135
 z70 := Tryz.sizeOf135
 v70 := Tryz.zeroValue135
 t72 := Tryz.underlying137
 a72 := Tryz.isAgg137
 z72 := Tryz.sizeOf137
 v72 := Tryz.zeroValue137
 t75 := Tryz.underlying140
 a75 := Tryz.isAgg140
 z75 := Tryz.sizeOf140
 v75 := Tryz.zeroValue140
 t76 := Tryz.underlying141
 a76 := Tryz.isAgg141
 z76 := Tryz.sizeOf141
 v76 := Tryz.zeroValue141
 t127 := Tryz.underlying160
 a127 := Tryz.isAgg160
 z127 := Tryz.sizeOf160
 v127 := Tryz.zeroValue160
 t164 := Tryz.underlying162
 a164 := Tryz.isAgg162
 z164 := Tryz.sizeOf162
 v164 := Tryz.zeroValue162 }
theorem Tryz.Builder_Extra_156 : Builder.Extra Tryz.prog Tryz.lays156_ren := {
 sizeBuilder := by kernel_rfl
 liesBuilder := by kernel_rfl
 t5 := Tryz.underlying5
 a5 := Tryz.isAgg5
 z5 := Tryz.sizeOf5
 v5 := Tryz.zeroValue5
 infoByte := by kernel_rfl
 cellsByte := by kernel_rfl
 sizeByte := by kernel_rfl
 neB5 := by decide }
open Go.RowKit in
theorem Tryz.strings_Join_none (a : Option Addr) (c : Nat) (sep : ByteArray) (w : World) :
  Calls Tryz.prog 78 #[.slice a 0 c, .string sep] w fun e w' => e = .returned (.string ⟨#[]⟩) /\ w' = w := Any.strings_Join_none Tryz.lays156 Tryz.Builder_Extra_156 a c sep w
open Go.RowKit in
theorem Tryz.strings_Join (bk o c : Nat) (xs : List ByteArray) (sep : ByteArray) (w : World) (hcells : ∀ (j : Nat) x, xs[j]? = some x -> w.cell? ⟨bk, o + j, none⟩ = some (.string x)) (hbk : bk < w.heap.size) (hN : xs.length <= 140737488355328) (hcap : xs.length <= c) (hlen : (Lib.join (xs.map (·.data.toList)) sep.data.toList).length <= 140737488355328) :
  Calls Tryz.prog 78 #[.slice (some ⟨bk, o, none⟩) xs.length c, .string sep] w fun e w' => e = .returned (.string ⟨(Lib.join (xs.map (·.data.toList)) sep.data.toList).toArray⟩) /\ Below w.heap.size w w' := Any.strings_Join Tryz.lays156 Tryz.Builder_Extra_156 bk o c xs sep w hcells hbk hN hcap hlen
def Tryz.lays144_ren : Go.Shelf.Ren := ⟨fun | 144 => 76 | 143 => 96 | 219 => 113 | 217 => 119 | 225 => 120 | 224 => 121 | 267 => 122 | 266 => 125 | 314 => 126 | n => n, fun | 9 => 9 | 4 => 4 | 3 => 3 | 5 => 5 | 46 => 61 | 146 => 169 | 51 => 119 | n => n, fun | 1 => 1 | n => n⟩
theorem Tryz.lays144 : Go.Proofs.Lays.n144 Tryz.prog Tryz.lays144_ren := {
 mixed := by kernel_rfl
 f143 := Tryz.func96.trans (congrArg some (by kernel_rfl))
 f144 := Tryz.func76.trans (congrArg some (by kernel_rfl))
 f217 := Tryz.func119.trans (congrArg some (by kernel_rfl))
 f219 := Tryz.func113.trans (congrArg some (by kernel_rfl))
 f224 := Tryz.func121.trans (congrArg some (by kernel_rfl))
 f225 := Tryz.func120.trans (congrArg some (by kernel_rfl))
 f266 := Tryz.func125.trans (congrArg some (by kernel_rfl))
 f267 := Tryz.func122.trans (congrArg some (by kernel_rfl))
 f314 := Tryz.func126.trans (congrArg some (by kernel_rfl))
 t3 := Tryz.underlying3
 a3 := Tryz.isAgg3
 z3 := Tryz.sizeOf3
 v3 := Tryz.zeroValue3
 t4 := Tryz.underlying4
 a4 := Tryz.isAgg4
 z4 := Tryz.sizeOf4
 v4 := Tryz.zeroValue4
 t5 := Tryz.underlying5
 a5 := Tryz.isAgg5
 z5 := Tryz.sizeOf5
 v5 := Tryz.zeroValue5
 t9 := Tryz.underlying9
 a9 := Tryz.isAgg9
 z9 := Tryz.sizeOf9
 v9 := Tryz.zeroValue9
 t46 := Tryz.underlying61
 a46 := Tryz.isAgg61
 z46 := Tryz.sizeOf61
 v46 := Tryz.zeroValue61
 t51 := Tryz.underlying119
 a51 := Tryz.isAgg119
 z51 := Tryz.sizeOf119
 v51 := Tryz.zeroValue119
 t146 := Tryz.underlying169
 a146 := Tryz.isAgg169
 z146 := Tryz.sizeOf169
 v146 := Tryz.zeroValue169
 g1 := by kernel_rfl }
open Go.RowKit Go.Lib in
theorem Tryz.strings_Contains (s sub : ByteArray) (m : Int) (w : World) (hs : s.size < 4294967281) (hm : w.cell? ⟨1, 0, none⟩ = some (.int .i64 m)) :
  Calls Tryz.prog 76 #[.string s, .string sub] w fun e w' => e = .returned (.bool (Lib.contains s.data.toList sub.data.toList)) /\ w' = w := Any.strings_Contains Tryz.lays144 s sub m w hs hm
def Tryz.lays149_ren : Go.Shelf.Ren := ⟨fun | 149 => 103 | 222 => 116 | n => n, fun | 9 => 9 | 5 => 5 | 3 => 3 | 4 => 4 | n => n, fun | n => n⟩
theorem Tryz.lays149 : Go.Proofs.Lays.n149 Tryz.prog Tryz.lays149_ren := {
 mixed := by kernel_rfl
 f149 := Tryz.func103.trans (congrArg some (by kernel_rfl))
 f222 := Tryz.func116.trans (congrArg some (by kernel_rfl))
 t3 := Tryz.underlying3
 a3 := Tryz.isAgg3
 z3 := Tryz.sizeOf3
 v3 := Tryz.zeroValue3
 t4 := Tryz.underlying4
 a4 := Tryz.isAgg4
 z4 := Tryz.sizeOf4
 v4 := Tryz.zeroValue4
 t5 := Tryz.underlying5
 a5 := Tryz.isAgg5
 z5 := Tryz.sizeOf5
 v5 := Tryz.zeroValue5
 t9 := Tryz.underlying9
 a9 := Tryz.isAgg9
 z9 := Tryz.sizeOf9
 v9 := Tryz.zeroValue9 }
open Go.RowKit Go.Lib in
theorem Tryz.strings_LastIndexByte (s : ByteArray) (c : Int) (hs : s.size < 4611686018427387904) (w : World) :
  Calls Tryz.prog 103 #[.string s, .int .u8 c] w fun e w' => e = .returned (.int .i64 (Lib.lastIndexByte s c)) /\ w' = w := Any.strings_LastIndexByte Tryz.lays149 s c hs w
def Tryz.lays146_ren : Go.Shelf.Ren := ⟨fun | 146 => 56 | 221 => 74 | 268 => 94 | 138 => 95 | 143 => 96 | 195 => 110 | 197 => 111 | 218 => 112 | 219 => 113 | 260 => 118 | 217 => 119 | 225 => 120 | 224 => 121 | 267 => 122 | 266 => 125 | 314 => 126 | n => n, fun | 9 => 9 | 31 => 84 | 3 => 3 | 4 => 4 | 0 => 0 | 105 => 158 | 21 => 21 | 5 => 5 | 46 => 61 | 119 => 165 | 139 => 168 | 138 => 167 | 146 => 169 | 51 => 119 | n => n, fun | 1 => 1 | 3 => 2 | 4 => 3 | n => n⟩
theorem Tryz.lays146 : Go.Proofs.Lays.n146 Tryz.prog Tryz.lays146_ren := {
 mixed := by kernel_rfl
 f138 := Tryz.func95.trans (congrArg some (by kernel_rfl))
 f143 := Tryz.func96.trans (congrArg some (by kernel_rfl))
 f146 := Tryz.func56.trans (congrArg some (by kernel_rfl))
 f195 := Tryz.func110.trans (congrArg some (by kernel_rfl))
 f197 := Tryz.func111.trans (congrArg some (by kernel_rfl))
 f217 := Tryz.func119.trans (congrArg some (by kernel_rfl))
 f218 := Tryz.func112.trans (congrArg some (by kernel_rfl))
 f219 := Tryz.func113.trans (congrArg some (by kernel_rfl))
 f221 := Tryz.func74.trans (congrArg some (by kernel_rfl))
 f224 := Tryz.func121.trans (congrArg some (by kernel_rfl))
 f225 := Tryz.func120.trans (congrArg some (by kernel_rfl))
 f260 := Tryz.func118.trans (congrArg some (by kernel_rfl))
 f266 := Tryz.func125.trans (congrArg some (by kernel_rfl))
 f267 := Tryz.func122.trans (congrArg some (by kernel_rfl))
 f268 := Tryz.func94.trans (congrArg some (by kernel_rfl))
 f314 := Tryz.func126.trans (congrArg some (by kernel_rfl))
 t0 := Tryz.underlying0
 a0 := Tryz.isAgg0
 z0 := Tryz.sizeOf0
 v0 := Tryz.zeroValue0
 t3 := Tryz.underlying3
 a3 := Tryz.isAgg3
 z3 := Tryz.sizeOf3
 v3 := Tryz.zeroValue3
 t4 := Tryz.underlying4
 a4 := Tryz.isAgg4
 z4 := Tryz.sizeOf4
 v4 := Tryz.zeroValue4
 t5 := Tryz.underlying5
 a5 := Tryz.isAgg5
 z5 := Tryz.sizeOf5
 v5 := Tryz.zeroValue5
 t9 := Tryz.underlying9
 a9 := Tryz.isAgg9
 z9 := Tryz.sizeOf9
 v9 := Tryz.zeroValue9
 t21 := Tryz.underlying21
 a21 := Tryz.isAgg21
 z21 := Tryz.sizeOf21
 v21 := Tryz.zeroValue21
 t31 := Tryz.underlying84
 a31 := Tryz.isAgg84
 z31 := Tryz.sizeOf84
 v31 := Tryz.zeroValue84
 t46 := Tryz.underlying61
 a46 := Tryz.isAgg61
 z46 := Tryz.sizeOf61
 v46 := Tryz.zeroValue61
 t51 := Tryz.underlying119
 a51 := Tryz.isAgg119
 z51 := Tryz.sizeOf119
 v51 := Tryz.zeroValue119
 t105 := Tryz.underlying158
 a105 := Tryz.isAgg158
 z105 := Tryz.sizeOf158
 v105 := Tryz.zeroValue158
 t119 := Tryz.underlying165
 a119 := Tryz.isAgg165
 z119 := Tryz.sizeOf165
 t138 := Tryz.underlying167
 a138 := Tryz.isAgg167
 z138 := Tryz.sizeOf167
 v138 := Tryz.zeroValue167
 t139 := Tryz.underlying168
 a139 := Tryz.isAgg168
 z139 := Tryz.sizeOf168
 v139 := Tryz.zeroValue168
 t146 := Tryz.underlying169
 a146 := Tryz.isAgg169
 z146 := Tryz.sizeOf169
 v146 := Tryz.zeroValue169
 g1 := by kernel_rfl
 g3 := by kernel_rfl
 g4 := by kernel_rfl }
open Go.RowKit Go.Lib in
theorem Tryz.strings_Split (s sep : ByteArray) (m : Int) (w : World) (hs : s.size < 4294967281) (hm : w.cell? ⟨1, 0, none⟩ = some (.int .i64 m)) (h1 : 1 <= sep.size) :
  Calls Tryz.prog 56 #[.string s, .string sep] w fun e w' =>
   e = .returned (.slice (some ⟨w.heap.size, 0, none⟩) (Lib.countB s sep + 1) (Lib.countB s sep + 1)) /\ w' = w.alloc (.cells ((Lib.splitB sep 0 (Lib.countB s sep) s).map Value.string).toArray 9) := Any.strings_Split Tryz.lays146 (by kernel_rfl) s sep m w hs hm h1
def Tryz.laysM146_ren : Go.Shelf.Ren := ⟨fun | 146 => 56 | 221 => 74 | 268 => 94 | 138 => 95 | 143 => 96 | 195 => 110 | 197 => 111 | 218 => 112 | 219 => 113 | 260 => 118 | 217 => 119 | 225 => 120 | 224 => 121 | 267 => 122 | 266 => 125 | 314 => 126 | n => n, fun | 9 => 9 | 31 => 84 | 3 => 3 | 4 => 4 | 0 => 0 | 105 => 158 | 21 => 21 | 5 => 5 | 46 => 61 | 119 => 165 | 139 => 168 | 138 => 167 | 146 => 169 | 51 => 119 | n => n, fun | 1 => 1 | 3 => 2 | 4 => 3 | n => n⟩
theorem Tryz.laysM146 : Go.Proofs.LaysM.n146 Tryz.prog Tryz.laysM146_ren := {
 mixed := by kernel_rfl
 f138 := Tryz.func95.trans (congrArg some (by kernel_rfl))
 f143 := Tryz.func96.trans (congrArg some (by kernel_rfl))
 f146 := Tryz.func56.trans (congrArg some (by kernel_rfl))
 f195 := Tryz.func110.trans (congrArg some (by kernel_rfl))
 f197 := Tryz.func111.trans (congrArg some (by kernel_rfl))
 f217 := Tryz.func119.trans (congrArg some (by kernel_rfl))
 f218 := Tryz.func112.trans (congrArg some (by kernel_rfl))
 f219 := Tryz.func113.trans (congrArg some (by kernel_rfl))
 f221 := Tryz.func74.trans (congrArg some (by kernel_rfl))
 f224 := Tryz.func121.trans (congrArg some (by kernel_rfl))
 f225 := Tryz.func120.trans (congrArg some (by kernel_rfl))
 f260 := Tryz.func118.trans (congrArg some (by kernel_rfl))
 f266 := Tryz.func125.trans (congrArg some (by kernel_rfl))
 f267 := Tryz.func122.trans (congrArg some (by kernel_rfl))
 f268 := Tryz.func94.trans (congrArg some (by kernel_rfl))
 f314 := Tryz.func126.trans (congrArg some (by kernel_rfl))
 t0 := Tryz.underlying0
 a0 := Tryz.isAgg0
 z0 := Tryz.sizeOf0
 v0 := Tryz.zeroValue0
 t3 := Tryz.underlying3
 a3 := Tryz.isAgg3
 z3 := Tryz.sizeOf3
 v3 := Tryz.zeroValue3
 t4 := Tryz.underlying4
 a4 := Tryz.isAgg4
 z4 := Tryz.sizeOf4
 v4 := Tryz.zeroValue4
 t5 := Tryz.underlying5
 a5 := Tryz.isAgg5
 z5 := Tryz.sizeOf5
 v5 := Tryz.zeroValue5
 t9 := Tryz.underlying9
 a9 := Tryz.isAgg9
 z9 := Tryz.sizeOf9
 v9 := Tryz.zeroValue9
 t21 := Tryz.underlying21
 a21 := Tryz.isAgg21
 z21 := Tryz.sizeOf21
 v21 := Tryz.zeroValue21
 t31 := Tryz.underlying84
 a31 := Tryz.isAgg84
 z31 := Tryz.sizeOf84
 v31 := Tryz.zeroValue84
 t46 := Tryz.underlying61
 a46 := Tryz.isAgg61
 z46 := Tryz.sizeOf61
 v46 := Tryz.zeroValue61
 t51 := Tryz.underlying119
 a51 := Tryz.isAgg119
 z51 := Tryz.sizeOf119
 v51 := Tryz.zeroValue119
 t105 := Tryz.underlying158
 a105 := Tryz.isAgg158
 z105 := Tryz.sizeOf158
 v105 := Tryz.zeroValue158
 t119 := Tryz.underlying165
 a119 := Tryz.isAgg165
 z119 := Tryz.sizeOf165
 t138 := Tryz.underlying167
 a138 := Tryz.isAgg167
 z138 := Tryz.sizeOf167
 v138 := Tryz.zeroValue167
 t139 := Tryz.underlying168
 a139 := Tryz.isAgg168
 z139 := Tryz.sizeOf168
 v139 := Tryz.zeroValue168
 t146 := Tryz.underlying169
 a146 := Tryz.isAgg169
 z146 := Tryz.sizeOf169
 v146 := Tryz.zeroValue169
 g1 := by kernel_rfl
 g3 := by kernel_rfl
 g4 := by kernel_rfl
 i0 := by kernel_rfl
 i3 := by kernel_rfl
 i4 := by kernel_rfl
 i5 := by kernel_rfl
 i9 := by kernel_rfl
 i21 := by kernel_rfl
 i31 := by kernel_rfl
 i46 := by kernel_rfl
 i51 := by kernel_rfl
 i105 := by kernel_rfl
 i138 := by kernel_rfl
 i139 := by kernel_rfl
 i146 := by kernel_rfl
 m1 := by kernel_rfl
 s1_3 := fun w h => Go.Proofs.cell_of_shapedOpen_int (zero := #[.int .i64 0]) (t := 3) h (of_decide_eq_true (by kernel_rfl)) (by kernel_rfl) rfl (by kernel_rfl) (by kernel_rfl) Tryz.underlying3
 m3 := by kernel_rfl
 m4 := by kernel_rfl }
end Go.Proofs
namespace Go.Proofs.YtpmgdngjbdkdfaaGreatDoor
open Go.Abs Go.RowKit
theorem Zfj {P : Program} {f : FuncId} {fn : Func} (hf : P.funcs[f]? = some fn) (h : (fn.name == "runtime.NumGoroutine") = false) (hb : fn.body.isNone = false) : Ze6 P f := ⟨fn, hf, by simpa using h, hb⟩
theorem Zgi {W : World} {G φ} {s : Bytes} {x : Value} (h : Rep W G φ (.str s) x) : ∃ t : ByteArray, x = .string t /\ t.data.toList = s := by
 cases h with
 | str l t h => exact ⟨t, rfl, h⟩
theorem Zyw {W : World} {G φ} {u v : V} {xs : Array Value} (h : RepL W G φ [u, v] xs) : ∃ x y, xs = #[x, y] /\ Rep W G φ u x /\ Rep W G φ v y := by
 obtain ⟨hl, h⟩ := h
 obtain ⟨l⟩ := xs
 match l, hl with
 | [x, y], _ => exact ⟨x, y, rfl, h 0 u x rfl rfl, h 1 v y rfl rfl⟩
theorem HasMax.at {w : World} (h : HasMax w) {W : World} {G : Nat -> Nat} (hW : OKW (cxD w) W G) : ∃ m, W.cell? ⟨1, 0, none⟩ = some (.int .i64 m) := by
 obtain ⟨m, hm⟩ := h
 refine ⟨m, ?_⟩
 rw [hW.below.cell (p := ⟨1, 0, none⟩) ?_]
 ·exact hm
 ·rcases Xaz 1 (cxD w).w0.heap.size with h0 | h0
  ·exact h0
  ·exfalso
   have : w.heap[(1 : Nat)]? = none := Xdh h0
   simp only [World.cell?, this] at hm
   cases hm
theorem Zt2 {args : List V} {a b : Bytes} (h : nfL args = [V.str a, V.str b]) : args = [.str a, .str b] := by
 obtain ⟨u, v, rfl, h1, h2⟩ := Zha h
 obtain ⟨u', v', rfl, h3, h4⟩ := Zha h2
 obtain rfl := Zrq h4
 rw [Zdy h1, Zdy h3]
theorem Zv9 (l : List Bytes) : nfL (l.map .str) = l.map .str := by rw [Zb9, Xdd]; rfl
def Zal (c : UInt8) : Bytes -> List Bytes
 | [] => [[]]
 | b :: r => if b = c then [] :: Zal c r else match Zal c r with
  | [] => [[b]]
  | x :: xs => (b :: x) :: xs
theorem Zjx (c : UInt8) : ∀ s : Bytes, Lib.splitK [c] 0 (s.count c) s = Zal c s
 | [] => rfl
 | b :: r => by
  have ih := Zjx c r
  simp only [Zal]
  by_cases h : b = c
  ·subst h
   rw [List.count_cons_self, if_pos rfl]
   simp only [Lib.splitK, Lib.index]
   simp [ih]
  ·rw [if_neg h, List.count_cons_of_ne h]
   cases hk : r.count c with
   | zero => rw [hk] at ih; simp only [Lib.splitK] at ih ⊢; rw [<- ih]
   | succ k =>
    rw [hk] at ih
    simp only [Lib.splitK, Lib.index] at ih ⊢
    have hp : List.isPrefixOf [c] (b :: r) = false := by simp [List.isPrefixOf, Ne.symm h]
    simp only [hp, Xap, if_false]
    by_cases hi : Lib.index r [c] = -1
    ·simp only [hi, beq_self_eq_true, if_true] at ih ⊢
     rw [<- ih]
    ·have hge := Lib.index_ge r [c]
     have e1 : (Lib.index r [c] == -1) = false := by simpa using hi
     have e2 : (Lib.index r [c] + 1 == -1) = false := by simp; omega
     simp only [e1, e2, Xap, if_false] at ih ⊢
     rw [<- ih]
     have e3 : (Lib.index r [c] + 1).toNat = (Lib.index r [c]).toNat + 1 := by omega
     simp [e3]
def g.strings_Split (s c : Bytes) : Option (List Bytes) := if s.length < 4294967281 /\ c.length = 1 then some (Zal (c.headD 0) s) else none
def K.strings_Split : FC := fc 56 (fun _ => true) true (fun (a : Bytes × Bytes) => [V.str a.1, V.str a.2]) (fun (y : List Bytes) => .sl false 1 (y.map .str)) (fun a => g.strings_Split a.1 a.2)
 (fun _ => rfl) (fun y => Ziz (fun _ => rfl) y) (fun ⟨a, b⟩ ⟨c, d⟩ h => by simp at h; simp [h])
theorem H.strings_Split (w : World) (hw : EnvOK w) : K.strings_Split.Holds (cxD w) := by
 rintro args y ⟨⟨s, c⟩, r, ha, hg, rfl⟩
 obtain rfl := Zt2 ha
 simp only [g.strings_Split] at hg
 split at hg
 ·rename_i hc
  cases hg
  refine ⟨.sl false 1 ((Zal (c.headD 0) s).map .str), true, ?_, by show V.sl false 1 (nfL _) = _; rw [Zv9], fun _ => .inl rfl⟩
  refine PC.texts (Zfj Tryz.func56 (by kernel_rfl) (by kernel_rfl)) fun W G φ xs hW hxs => ?_
  obtain ⟨x, y, rfl, hx, hy⟩ := Zyw hxs
  obtain ⟨t, rfl, rfl⟩ := Zgi hx
  obtain ⟨u, rfl, hu⟩ := Zgi hy
  obtain ⟨m, hm⟩ := hw.max.at hW
  have hu1 : u.size = 1 := by rw [Lib.size_eq, hu]; exact hc.2
  have hsz : t.size < 4294967281 := by rw [Lib.size_eq]; exact hc.1
  refine (Tryz.strings_Split t u m W hsz hm (by omega)).mono fun e W' ⟨he, hW'⟩ => ?_
  have hlen := Lib.splitB_all u (by omega) 0 _ t rfl
  refine ⟨Lib.splitB u 0 (Lib.countB t u) t, _, ?_, by rw [he, hlen], hW'⟩
  have hu2 : u.data.toList = [c.headD 0] := by
   rw [hu]
   match c, hc.2 with
   | [b], _ => rfl
  rw [Lib.splitB_data, hu2]
  have : Lib.countB t u = t.data.toList.count (c.headD 0) := by
   unfold Lib.countB
   rw [hu2, Lib.count_one]
  rw [this, Zjx]
 ·cases hg
def g.strings_Contains (s c : Bytes) : Option Bool := if s.length < 4294967281 /\ c.length = 1 then some (decide (c.headD 0 ∈ s)) else none
def K.strings_Contains : FC := fc 76 (fun _ => true) false (fun (a : Bytes × Bytes) => [V.str a.1, V.str a.2]) (fun (y : Bool) => .bool y) (fun a => g.strings_Contains a.1 a.2)
 (fun _ => rfl) (fun y => rfl) (fun ⟨a, b⟩ ⟨c, d⟩ h => by simp at h; simp [h])
theorem Zlh (c : UInt8) : ∀ s : Bytes, (Lib.index s [c] = -1) <-> c ∉ s
 | [] => by simp [Lib.index]
 | b :: r => by
  have ih := Zlh c r
  have hge := Lib.index_ge r [c]
  simp only [Lib.index]
  by_cases h : b = c
  ·subst h; simp
  ·have hp : List.isPrefixOf [c] (b :: r) = false := by simp [List.isPrefixOf, Ne.symm h]
   simp only [hp, Xap, if_false]
   by_cases hi : Lib.index r [c] = -1
   ·simp [hi, ih.1 hi, Ne.symm h]
   ·have e1 : (Lib.index r [c] == -1) = false := by simpa using hi
    have hm : c ∈ r := Classical.not_not.1 fun hn => hi (ih.2 hn)
    simp [e1, hm]; omega
theorem H.strings_Contains (w : World) (hw : EnvOK w) : K.strings_Contains.Holds (cxD w) := by
 rintro args y ⟨⟨s, c⟩, r, ha, hg, rfl⟩
 obtain rfl := Zt2 ha
 simp only [g.strings_Contains] at hg
 split at hg
 ·rename_i hc
  cases hg
  refine ⟨.bool (decide (c.headD 0 ∈ s)), false, ?_, rfl, fun h => nomatch h⟩
  refine PC.pure (Zfj Tryz.func76 (by kernel_rfl) (by kernel_rfl)) fun W G φ xs hW hxs => ?_
  obtain ⟨x, y, rfl, hx, hy⟩ := Zyw hxs
  obtain ⟨t, rfl, rfl⟩ := Zgi hx
  obtain ⟨u, rfl, hu⟩ := Zgi hy
  obtain ⟨m, hm⟩ := hw.max.at hW
  have hsz : t.size < 4294967281 := by rw [Lib.size_eq]; exact hc.1
  refine (Tryz.strings_Contains t u m W hsz hm).mono fun e W' ⟨he, hW'⟩ => ?_
  subst hW'
  refine ⟨_, he, .refl _ _, fun _ _ => ?_⟩
  have hu2 : u.data.toList = [c.headD 0] := by
   rw [hu]
   match c, hc.2 with
   | [b], _ => rfl
  rw [hu2]
  have e : decide (0 <= Lib.index t.data.toList [c.headD 0]) = decide (c.headD 0 ∈ t.data.toList) := by
   have := Zlh (c.headD 0) t.data.toList
   have hge := Lib.index_ge t.data.toList [c.headD 0]
   rw [decide_eq_decide]
   constructor
   ·intro h; exact Classical.not_not.1 fun hn => by have := this.2 hn; omega
   ·intro h
    have : Lib.index t.data.toList [c.headD 0] ≠ -1 := fun h' => (this.1 h') h
    omega
  have e2 : Lib.contains t.data.toList [c.headD 0] = decide (c.headD 0 ∈ t.data.toList) := e
  rw [e2]
  exact .bool _
 ·cases hg
end Go.Proofs.YtpmgdngjbdkdfaaGreatDoor
namespace Go.Proofs.YtpmgdngjbdkdfaaGreatDoor
open Go.Abs Go.RowKit Go.Shelf Go.Sort
theorem Zsy {W : World} {G φ} {nl : Bool} {l : List Bytes} {x : Value} (h : Rep W G φ (.sl nl 1 (l.map .str)) x) :
  (x = .slice none 0 0 /\ l = []) \/ (∃ a, x = .slice (some a) 0 0 /\ l = []) \/ ∃ (b off cap : Nat) (zs : List ByteArray), x = .slice (some ⟨b, off, none⟩) zs.length cap /\ zs.map (·.data.toList) = l /\ zs.length <= cap /\
   ∀ j, j < zs.length -> W.cell? ⟨b, off + j, none⟩ = some (.string (zs.getD j ByteArray.empty)) := by
 generalize hv : l.map V.str = ys at h
 cases h with
 | slnil => exact .inl ⟨rfl, Xeu.1 hv⟩
 | sl0 _ a => exact .inr (.inl ⟨a, rfl, Xeu.1 hv⟩)
 | sl _ _ b off cap rd hcap hG hx hrd h =>
  subst hv
  right; right
  have hs : ∀ i s, l[i]? = some s -> ∃ t : ByteArray, rd i = .string t /\ t.data.toList = s := by
   intro i s hi
   have := h i (.str s) 0 (.str s) (by simp [hi]) rfl
   simp only [Xb9, Xce] at this
   obtain ⟨t, h1, h2⟩ := Zgi this
   exact ⟨t, h1, h2⟩
  refine ⟨b, off, cap, (List.range l.length).map fun i => match rd i with | .string t => t | _ => ByteArray.empty, by simp, ?_, by simpa using hcap, fun j hj => ?_⟩
  ·apply Xeg
   intro i
   rcases Xaz i l.length with hi | hi
   ·obtain ⟨t, h1, h2⟩ := hs i _ (Xad hi)
    simp [hi, h1, h2]
   ·simp [Xe3.2 hi, hi]
  ·have hj' : j < l.length := by simpa using hj
   obtain ⟨t, h1, h2⟩ := hs j _ (Xad hj')
   rw [hrd j (by simpa using hj'), h1]
   simp [List.getD, hj', h1]
theorem Zur : ∀ {xs : List V} {l : List Bytes}, nfL xs = l.map V.str -> xs = l.map V.str
 | [], [], _ => rfl
 | [], _ :: _, h => by simp [nfL] at h
 | _ :: _, [], h => by simp [nfL] at h
 | x :: xs, y :: l, h => by
  obtain ⟨h1, h2⟩ := List.cons.inj (show x.nf :: nfL xs = V.str y :: l.map V.str from h)
  rw [Zdy h1, Zur h2]; rfl
end Go.Proofs.YtpmgdngjbdkdfaaGreatDoor
namespace Go.Proofs.YtpmgdngjbdkdfaaGreatDoor
open Go.Abs Go.RowKit Go.Shelf Go.Sort
def g.strings_Join (l : List Bytes) (s : Bytes) : Option Bytes :=
 if l.length <= 1000000000 /\ (Lib.join l s).length <= 140737488355328 then some (Lib.join l s) else none
def K.strings_Join : FC := fc 78 (fun _ => true) false (fun (a : List Bytes × Bytes) => [V.sl false 1 (a.1.map .str), V.str a.2]) (fun (y : Bytes) => .str y) (fun a => g.strings_Join a.1 a.2)
 (fun l => Zih (Ziz (fun _ => rfl) l.1) rfl) (fun _ => rfl) (fun ⟨a, b⟩ ⟨c, d⟩ h => by
  obtain ⟨h1, h2⟩ := List.cons.inj h
  simp only [V.sl.injEq, true_and] at h1
  have h3 := V.str.inj (List.cons.inj h2).1
  have h4 : a = c := Zyz (fun x y h => V.str.inj h) h1
  simp only at h3
  rw [h4, h3])
theorem H.strings_Join (w : World) (_hw : EnvOK w) : K.strings_Join.Holds (cxD w) := by
 rintro args y ⟨⟨l, s⟩, r, ha, hg, rfl⟩
 obtain ⟨u, v, rfl, h1, h2⟩ := Zha ha
 obtain ⟨u', v', rfl, h3, h4⟩ := Zha h2
 obtain rfl := Zrq h4
 obtain rfl := Zdy h3
 simp only [g.strings_Join] at hg
 split at hg
 ·rename_i hc
  cases hg
  obtain ⟨nl, rfl⟩ : ∃ nl, u = .sl nl 1 (l.map .str) := by
   obtain ⟨nl, xs, rfl, h3, _⟩ := Z67 h1
   exact ⟨nl, by rw [Zur h3]⟩
  refine ⟨.str _, false, ?_, rfl, fun h => nomatch h⟩
  refine PC.pure (Zfj Tryz.func78 (by kernel_rfl) (by kernel_rfl)) fun W G φ xs hW hxs => ?_
  obtain ⟨x, y, rfl, hx, hy⟩ := Zyw hxs
  obtain ⟨t, rfl, rfl⟩ := Zgi hy
  have hnone : ∀ (a : Option Addr), l = [] -> Calls Tryz.prog 78 #[.slice a 0 0, .string t] W fun e W' => ∃ y, e = .returned y /\ Below W.heap.size W W' /\ ∀ (W'' : World) (G' : Nat -> Nat), Rep W'' G' φ (.str (Lib.join l t.data.toList)) y := by
   rintro a rfl
   refine (Tryz.strings_Join_none a 0 t W).mono fun e W' => ?_
   rintro ⟨rfl, rfl⟩
   exact ⟨_, rfl, .refl _ _, fun _ _ => .str _ _ rfl⟩
  rcases Zsy hx with ⟨rfl, e⟩ | ⟨a, rfl, e⟩ | ⟨b, off, cap, zs, rfl, hz, hcc, hcells⟩
  ·exact hnone none e
  ·exact hnone _ e
  ·have hlz : zs.length = l.length := by rw [<- hz]; simp
   rcases Xc6 zs.length with h0 | h0
   ·have e : l = [] := Xcp (by omega)
    have ez : zs = [] := Xcp h0
    subst e; subst ez
    refine (Tryz.strings_Join_none _ cap t W).mono fun e W' => ?_
    rintro ⟨rfl, rfl⟩
    exact ⟨_, rfl, .refl _ _, fun _ _ => .str _ _ rfl⟩
   ·have hb : b < W.heap.size := by
     have := hcells 0 h0
     rcases Xaz b W.heap.size with h | h
     ·exact h
     ·simp [World.cell?, Xdh h] at this
    refine (Tryz.strings_Join b off cap zs t W (fun j x hj => ?_) hb (by omega) hcc (by rw [hz]; exact hc.2)).mono fun e W' => ?_
    ·rw [hcells j (Xae.1 hj).1]; simp [List.getD, hj]
    ·rintro ⟨rfl, hB⟩
     exact ⟨_, rfl, hB, fun _ _ => .str _ _ (by rw [hz])⟩
 ·cases hg
end Go.Proofs.YtpmgdngjbdkdfaaGreatDoor
namespace Go.Proofs.YtpmgdngjbdkdfaaGreatDoor
open Go.Abs
def Z8l : List FE := [
 ⟨4, 4, false, 2, ⟨0, [], [], 0⟩, none, [(15, ⟨3, [(0, .at (.n 0 false false)), (1, .at (.n 1 false false)), (34, .at (.n 2 false true))], [], 0⟩), (32, ⟨10, [(0, .at (.n 0 false false)), (1, .at (.n 1 false false)), (5, .at (.ptr 0 0)), (6, .at (.ptr 1 0)), (7, .at (.ptr 2 0)), (9, .at (.n 2 false true)), (10, .at (.n 3 false true))], [some [.one (.mpp 3), .one (.mpp 4), .one (.mpp 5)], some [.one (.n 4 true true), .one (.n 5 true true)], some [.many (some 32) (.n 6 false false)], some [.one (.mpc 7)], some [.one (.mpc 8)], some [.one (.mpc 9)]], 0⟩), (47, ⟨12, [(0, .at (.n 0 false false)), (1, .at (.n 1 false false)), (5, .at (.ptr 0 0)), (6, .at (.ptr 1 0)), (7, .at (.ptr 2 0)), (9, .at (.n 2 false true)), (10, .at (.n 3 false true)), (11, .at (.n 4 true true)), (12, .at (.n 5 false true))], [some [.one (.mpp 3), .one (.mpp 4), .one (.mpp 5)], some [.one (.n 6 true true), .one (.n 7 true true)], some [.many (some 32) (.n 8 false false)], some [.one (.mpc 9)], some [.one (.mpc 10)], some [.one (.mpc 11)]], 0⟩)]⟩,
 ⟨20, 20, false, 2, ⟨0, [], [], 0⟩, none, [(16, ⟨4, [(0, .at (.n 0 false false)), (1, .at (.n 1 false false)), (12, .at (.n 2 false true)), (13, .at (.n 3 false true))], [], 0⟩)]⟩,
 ⟨36, 36, false, 2, ⟨0, [], [], 0⟩, none, []⟩,
 ⟨40, 40, false, 2, ⟨0, [], [], 0⟩, none, []⟩,
 ⟨60, 60, false, 2, ⟨0, [], [], 0⟩, none, []⟩,
 ⟨64, 64, false, 1, ⟨0, [], [], 0⟩, none, [(10, ⟨5, [(0, .at (.n 0 false false)), (3, .at (.n 1 false true)), (9, .at (.n 2 false false)), (10, .at (.n 3 false true)), (11, .at (.n 4 false true))], [], 0⟩), (31, ⟨4, [(6, .at (.n 0 true true)), (28, .at (.n 1 false false)), (29, .at (.n 2 false true)), (30, .at (.n 3 false true))], [], 0⟩)]⟩,
 ⟨68, 68, false, 1, ⟨0, [], [], 0⟩, none, [(9, ⟨2, [(4, .at (.n 0 false false)), (20, .at (.n 1 false true))], [], 0⟩), (20, ⟨3, [(4, .at (.n 0 false false)), (6, .at (.n 1 true true)), (7, .at (.n 2 false true))], [], 0⟩)]⟩,
 ⟨84, 84, false, 3, ⟨0, [], [], 0⟩, none, [(10, ⟨6, [(1, .at (.n 0 false false)), (3, .at (.ptr 0 0)), (5, .at (.ptr 1 0)), (6, .at (.ptr 2 0)), (7, .at (.ptr 3 0)), (8, .at (.n 1 false true))], [some [.many none (.n 2 false false)], some [.many none (.n 3 false false)], some [.many (some 8) (.n 4 false false)], some [.many (some 64) (.n 5 false false)]], 0⟩), (25, ⟨5, [(3, .at (.ptr 0 0)), (5, .at (.ptr 1 0)), (6, .at (.ptr 2 0)), (7, .at (.ptr 3 0)), (9, .at (.n 0 false true))], [some [.many none (.n 1 false false)], some [.many none (.n 2 false false)], some [.many (some 8) (.n 3 false false)], some [.many (some 64) (.n 4 false false)]], 0⟩), (48, ⟨13, [(3, .at (.ptr 0 0)), (5, .at (.ptr 1 0)), (6, .at (.ptr 2 0)), (7, .at (.ptr 3 0)), (14, .at (.n 0 false false)), (15, .at (.n 1 false false)), (16, .at (.n 2 false false)), (17, .at (.n 3 false false)), (18, .at (.n 4 false false)), (19, .at (.n 5 false false)), (20, .at (.n 6 false false)), (21, .at (.n 7 false false)), (22, .at (.n 8 false true))], [some [.many none (.n 9 false false)], some [.many none (.n 10 false false)], some [.many (some 8) (.n 11 false false)], some [.many (some 64) (.n 12 false false)]], 0⟩)]⟩,
 ⟨88, 88, false, 1, ⟨0, [], [], 0⟩, none, [(20, ⟨3, [(0, .at (.n 0 false true)), (4, .at (.n 1 false false)), (6, .at (.n 2 true true))], [], 0⟩)]⟩,
 ⟨104, 104, false, 1, ⟨0, [], [], 0⟩, none, [(17, ⟨3, [(0, .at (.n 0 false false)), (4, .at (.n 1 false false)), (30, .at (.n 2 false true))], [], 0⟩), (30, ⟨4, [(6, .at (.n 0 true true)), (7, .at (.n 1 false true)), (36, .at (.n 2 false false)), (37, .at (.n 3 false true))], [], 0⟩)]⟩,
 ⟨108, 108, false, 2, ⟨0, [], [], 0⟩, none, []⟩,
 ⟨116, 116, false, 2, ⟨0, [], [], 0⟩, none, [(8, ⟨3, [(0, .at (.n 0 false false)), (1, .at (.n 1 false false)), (5, .at (.n 2 false true))], [], 0⟩)]⟩,
 ⟨17, 17, false, 1, ⟨0, [], [], 0⟩, none, [(10, ⟨4, [(3, .at (.n 0 true true)), (6, .at (.n 1 false false)), (7, .at (.n 2 false true)), (8, .at (.n 3 false true))], [], 0⟩)]⟩,
 ⟨29, 29, false, 1, ⟨0, [], [], 0⟩, none, [(10, ⟨5, [(0, .at (.n 0 false false)), (3, .at (.n 1 true false)), (8, .at (.n 2 false false)), (9, .at (.n 3 false true)), (10, .at (.n 4 false true))], [], 0⟩)]⟩,
 ⟨37, 37, false, 1, ⟨0, [], [], 0⟩, none, []⟩,
 ⟨41, 41, false, 1, ⟨0, [], [], 0⟩, none, [(18, ⟨4, [(4, .at (.n 0 true true)), (11, .at (.n 1 false false)), (12, .at (.n 2 false true)), (13, .at (.n 3 false true))], [], 0⟩)]⟩,
 ⟨57, 57, false, 2, ⟨0, [], [], 0⟩, none, []⟩,
 ⟨61, 61, false, 1, ⟨0, [], [], 0⟩, none, []⟩,
 ⟨65, 65, false, 1, ⟨0, [], [], 0⟩, none, [(12, ⟨3, [(3, .at (.n 0 false true)), (4, .at (.n 1 false true)), (5, .at (.n 2 false true))], [], 0⟩)]⟩,
 ⟨69, 69, false, 1, ⟨0, [], [], 0⟩, none, [(10, ⟨4, [(3, .at (.n 0 false true)), (6, .at (.n 1 false false)), (7, .at (.n 2 false true)), (8, .at (.n 3 false true))], [], 0⟩)]⟩,
 ⟨73, 73, false, 2, ⟨0, [], [], 0⟩, none, []⟩,
 ⟨77, 77, false, 2, ⟨0, [], [], 0⟩, none, []⟩,
 ⟨81, 81, false, 1, ⟨0, [], [], 0⟩, none, []⟩,
 ⟨85, 85, false, 1, ⟨0, [], [], 0⟩, none, []⟩,
 ⟨89, 89, false, 1, ⟨0, [], [], 0⟩, none, [(10, ⟨4, [(0, .at (.n 0 false false)), (2, .at (.ptr 0 0)), (3, .at (.ptr 1 0)), (5, .at (.n 1 false true))], [some [.many (some 32) (.n 2 false false)], some [.many (some 32) (.n 3 false false)]], 0⟩)]⟩,
 ⟨93, 93, false, 1, ⟨0, [], [], 0⟩, none, []⟩,
 ⟨97, 97, false, 2, ⟨0, [], [], 0⟩, none, []⟩,
 ⟨101, 101, false, 2, ⟨0, [], [], 0⟩, none, []⟩,
 ⟨105, 105, false, 1, ⟨0, [], [], 0⟩, none, []⟩,
 ⟨117, 117, false, 1, ⟨0, [], [], 0⟩, none, [(18, ⟨3, [(0, .at (.n 0 false false)), (4, .at (.n 1 false true)), (9, .at (.n 2 false true))], [], 0⟩)]⟩,
 ⟨22, 22, false, 1, ⟨0, [], [], 0⟩, none, []⟩,
 ⟨38, 38, false, 2, ⟨0, [], [], 0⟩, none, []⟩,
 ⟨42, 42, false, 1, ⟨0, [], [], 0⟩, none, []⟩,
 ⟨46, 46, false, 2, ⟨0, [], [], 0⟩, none, []⟩,
 ⟨50, 50, true, 1, ⟨0, [], [], 0⟩, none, [(12, ⟨4, [(0, .at (.n 0 false false)), (3, .at (.n 1 true true)), (4, .at (.n 2 false true)), (5, .at (.n 3 false true))], [], 0⟩)]⟩,
 ⟨54, 54, false, 2, ⟨0, [], [], 0⟩, none, [(8, ⟨5, [(0, .at (.n 0 false false)), (1, .at (.n 1 false false)), (9, .at (.n 2 false false)), (10, .at (.n 3 false true)), (11, .at (.n 4 false true))], [], 0⟩)]⟩,
 ⟨58, 58, false, 1, ⟨0, [], [], 0⟩, none, []⟩,
 ⟨62, 62, false, 1, ⟨0, [], [], 0⟩, none, [(14, ⟨5, [(2, .at (.ptr 0 0)), (3, .at (.ptr 1 0)), (4, .at (.n 0 true false)), (5, .at (.ptr 2 0)), (6, .at (.n 1 false true))], [some [.many (some 32) (.n 2 false false)], some [.many (some 8) (.n 3 false false)], some [.many (some 64) (.n 4 false false)]], 0⟩), (31, ⟨4, [(2, .at (.ptr 0 0)), (7, .at (.ptr 1 0)), (29, .at (.n 0 false false)), (30, .at (.n 1 false true))], [some [.many (some 32) (.n 2 false false)], some [.many (some 32) (.n 3 false false)]], 0⟩), (45, ⟨7, [(2, .at (.ptr 0 0)), (7, .at (.ptr 1 0)), (8, .at (.n 0 false true)), (9, .at (.n 1 false false)), (10, .at (.n 2 false true)), (29, .at (.n 3 false false)), (30, .at (.n 4 false true))], [some [.many (some 32) (.n 5 false false)], some [.many (some 32) (.n 6 false false)]], 0⟩)]⟩,
 ⟨70, 70, false, 1, ⟨0, [], [], 0⟩, none, [(12, ⟨5, [(0, .at (.n 0 false false)), (2, .at (.ptr 0 0)), (3, .at (.ptr 1 0)), (4, .at (.ptr 2 0)), (5, .at (.n 1 false false))], [some [.many (some 32) (.n 2 false false)], some [.many (some 8) (.n 3 false false)], some [.many (some 64) (.n 4 false false)]], 0⟩), (39, ⟨4, [(0, .at (.n 0 false false)), (2, .at (.ptr 0 0)), (3, .at (.ptr 1 0)), (4, .at (.ptr 2 0))], [some [.many (some 32) (.n 1 false false)], some [.many (some 8) (.n 2 false false)], some [.many (some 64) (.n 3 false false)]], 0⟩), (43, ⟨5, [(0, .at (.n 0 false false)), (2, .at (.ptr 0 0)), (3, .at (.ptr 1 0)), (4, .at (.ptr 2 0)), (34, .at (.n 1 false true))], [some [.many (some 32) (.n 2 false false)], some [.many (some 8) (.n 3 false false)], some [.many (some 64) (.n 4 false false)]], 0⟩), (64, ⟨4, [(2, .at (.ptr 0 0)), (3, .at (.ptr 1 0)), (7, .at (.ptr 2 0)), (52, .at (.n 0 false true))], [some [.many (some 32) (.n 1 false false)], some [.many (some 8) (.n 2 false false)], some [.many (some 32) (.n 3 false false)]], 0⟩)]⟩,
 ⟨82, 82, true, 1, ⟨0, [], [], 0⟩, none, [(8, ⟨2, [(0, .at (.n 0 false false)), (3, .at (.n 1 true true))], [], 0⟩), (25, ⟨4, [(3, .at (.n 0 true true)), (4, .at (.n 1 false true)), (5, .at (.n 2 true true)), (6, .at (.n 3 false true))], [], 0⟩)]⟩]
def Z8u : List FE := [
 ⟨86, 86, false, 1, ⟨0, [], [], 0⟩, none, [(10, ⟨3, [(0, .at (.n 0 false false)), (3, .at (.ptr 0 0)), (5, .at (.n 1 false true))], [some [.many (some 8) (.n 2 false false)]], 0⟩)]⟩,
 ⟨90, 90, false, 1, ⟨0, [], [], 0⟩, none, [(8, ⟨4, [(0, .at (.n 0 false false)), (5, .at (.n 1 false false)), (6, .at (.n 2 false true)), (7, .at (.n 3 false true))], [], 0⟩)]⟩,
 ⟨102, 102, false, 4, ⟨0, [], [], 0⟩, none, []⟩,
 ⟨106, 106, false, 1, ⟨0, [], [], 0⟩, none, [(18, ⟨3, [(0, .at (.n 0 false false)), (4, .at (.n 1 false true)), (5, .at (.n 2 false true))], [], 0⟩)]⟩,
 ⟨7, 7, false, 0, ⟨0, [], [], 0⟩, none, []⟩,
 ⟨35, 35, false, 2, ⟨0, [], [], 0⟩, none, []⟩,
 ⟨43, 43, false, 1, ⟨0, [], [], 0⟩, none, [(10, ⟨4, [(3, .at (.n 0 false false)), (9, .at (.n 1 false false)), (10, .at (.n 2 false true)), (11, .at (.n 3 false true))], [], 0⟩)]⟩,
 ⟨51, 51, false, 1, ⟨0, [], [], 0⟩, none, [(8, ⟨2, [(0, .at (.n 0 false false)), (3, .at (.n 1 false true))], [], 0⟩)]⟩,
 ⟨55, 55, true, 1, ⟨0, [], [], 0⟩, none, []⟩,
 ⟨59, 59, false, 1, ⟨0, [], [], 0⟩, none, []⟩,
 ⟨63, 63, false, 1, ⟨0, [], [], 0⟩, none, [(8, ⟨4, [(0, .at (.n 0 false false)), (5, .at (.n 1 false false)), (6, .at (.n 2 false true)), (7, .at (.n 3 false true))], [], 0⟩)]⟩,
 ⟨75, 75, false, 2, ⟨0, [], [], 0⟩, none, [(8, ⟨4, [(0, .at (.n 0 false false)), (1, .at (.n 1 false false)), (7, .at (.n 2 false true)), (8, .at (.n 3 false true))], [], 0⟩)]⟩,
 ⟨83, 83, false, 0, ⟨0, [], [], 0⟩, none, []⟩,
 ⟨87, 87, false, 1, ⟨0, [], [], 0⟩, none, [(9, ⟨2, [(4, .at (.n 0 false false)), (21, .at (.n 1 false true))], [], 0⟩), (18, ⟨2, [(4, .at (.n 0 false false)), (6, .at (.n 1 true true))], [], 0⟩)]⟩,
 ⟨103, 103, false, 2, ⟨0, [], [], 0⟩, none, []⟩,
 ⟨107, 107, false, 1, ⟨0, [], [], 0⟩, none, []⟩,
 ⟨10192, 12, false, 0, ⟨0, [], [], 0⟩, some [⟨3, [.ptr 0 0], [some [.one (.mpp 1), .one (.mpp 2), .one (.mpp 3)], some [.one (.mpc 0)], some [.one (.mpc 1)], some [.one (.mpc 2)]]⟩], []⟩,
 ⟨11280, 80, false, 1, ⟨1, [(0, .at (.n 0 false false))], [], 0⟩, some [⟨2, [.osx 0 0 1], [some [.many none (.n 1 false false)]]⟩], []⟩,
 ⟨11456, 91, false, 2, ⟨2, [(0, .at (.ptr 0 0)), (1, .at (.osl 1 0 64 64 1))], [some [.many (some 8) (.n 0 false false)], some [.many (some 64) (.n 1 false false)]], 2⟩, some [⟨2, [], [some [.many (some 8) (.n 0 false false)], some [.many (some 64) (.n 1 false false)]]⟩], [(8, ⟨4, [(0, .at (.ptr 0 0)), (1, .at (.osl 1 0 64 64 1)), (4, .at (.ptr 2 0)), (26, .at (.n 0 false true))], [some [.many (some 8) (.n 1 false false)], some [.many (some 64) (.n 2 false false)], some [.many (some 64) (.n 3 false false)]], 2⟩), (25, ⟨4, [(0, .at (.ptr 0 0)), (4, .at (.ptr 2 0)), (6, .at (.n 0 false true))], [some [.many (some 8) (.n 1 false false)], some [.many (some 64) (.n 2 false false)], some [.many (some 64) (.n 3 false false)]], 2⟩), (48, ⟨12, [(0, .at (.ptr 0 0)), (11, .at (.n 0 false false)), (12, .at (.n 1 false false)), (13, .at (.n 2 false false)), (14, .at (.n 3 false false)), (15, .at (.n 4 false false)), (16, .at (.n 5 false false)), (17, .at (.n 6 false false)), (18, .at (.n 7 false false)), (112, .at (.n 8 false false)), (113, .at (.n 9 false true))], [some [.many (some 8) (.n 10 false false)], some [.many (some 64) (.n 11 false false)]], 2⟩), (72, ⟨4, [(0, .at (.ptr 0 0)), (185, .at (.n 0 false false)), (186, .at (.n 1 false true))], [some [.many (some 8) (.n 2 false false)], some [.many (some 64) (.n 3 false false)]], 2⟩)]⟩,
 ⟨10240, 15, false, 3, ⟨4, [(0, .at (.ptr 0 0)), (1, .at (.n 0 false true)), (2, .at (.n 1 false false))], [some [.one (.n 2 true true), .one (.n 3 true true)]], 1⟩, some [⟨3, [.n 0 false false], [some [.one (.n 1 true true), .one (.n 2 true true)]]⟩], [(12, ⟨9, [(0, .at (.ptr 0 0)), (1, .at (.n 0 false true)), (2, .at (.n 1 false false)), (6, .at (.ptr 1 0)), (7, .at (.ptr 2 0)), (29, .at (.n 2 false true)), (30, .at (.n 3 false true)), (31, .at (.n 4 false true))], [some [.one (.n 5 true true), .one (.n 6 true true)], some [.many (some 32) (.n 7 false false)], some [.many (some 32) (.n 8 false false)]], 1⟩)]⟩,
 ⟨10224, 14, false, 2, ⟨4, [(0, .at (.ptr 0 0)), (1, .at (.n 0 false false))], [some [.one (.mpp 1), .one (.mpp 2), .one (.mpp 3)], some [.one (.mpc 1)], some [.one (.mpc 2)], some [.one (.mpc 3)]], 4⟩, some [⟨5, [.n 0 false false, .n 1 false true], [some [.one (.mpp 1), .one (.mpp 2), .one (.mpp 3)], some [.one (.mpc 2)], some [.one (.mpc 3)], some [.one (.mpc 4)]]⟩], []⟩,
 ⟨10208, 13, false, 2, ⟨4, [(0, .at (.ptr 0 0)), (1, .at (.n 0 false false))], [some [.one (.mpp 1), .one (.mpp 2), .one (.mpp 3)], some [.one (.mpc 1)], some [.one (.mpc 2)], some [.one (.mpc 3)]], 4⟩, some [⟨5, [.n 0 false false, .n 1 false false], [some [.one (.mpp 1), .one (.mpp 2), .one (.mpp 3)], some [.one (.mpc 2)], some [.one (.mpc 3)], some [.one (.mpc 4)]]⟩], [(28, ⟨9, [(0, .at (.ptr 0 0)), (4, .at (.ptr 4 0)), (6, .at (.osx 5 0 2)), (24, .at (.osx 5 1 2)), (25, .at (.n 2 false true)), (26, .at (.n 3 false true))], [some [.one (.mpp 1), .one (.mpp 2), .one (.mpp 3)], some [.one (.mpc 4)], some [.one (.mpc 5)], some [.one (.mpc 6)], some [.many (some 32) (.n 7 false false)], some [.many none (.n 8 false false)]], 4⟩), (65, ⟨9, [(0, .at (.ptr 0 0)), (4, .at (.ptr 4 0)), (6, .at (.osx 5 0 2)), (64, .at (.osx 5 1 2)), (65, .at (.n 2 false true)), (66, .at (.n 3 false true))], [some [.one (.mpp 1), .one (.mpp 2), .one (.mpp 3)], some [.one (.mpc 4)], some [.one (.mpc 5)], some [.one (.mpc 6)], some [.many (some 32) (.n 7 false false)], some [.many none (.n 8 false false)]], 4⟩)]⟩,
 ⟨11264, 79, false, 2, ⟨3, [(0, .at (.osx 0 0 1)), (1, .at (.n 1 false true))], [some [.many none (.n 2 false false)]], 1⟩, some [⟨2, [.osx 0 0 1], [some [.many none (.n 1 false false)]]⟩], [(18, ⟨5, [(0, .at (.osx 0 0 1)), (1, .at (.n 1 false true)), (5, .at (.n 2 false true)), (6, .at (.n 3 false true))], [some [.many none (.n 4 false false)]], 1⟩)]⟩,
 ⟨10528, 33, false, 1, ⟨1, [(0, .at (.n 0 false false))], [], 0⟩, some [⟨2, [.osx 0 0 2], [some [.many none (.n 1 false false)]]⟩], []⟩,
 ⟨11200, 75, false, 2, ⟨3, [(0, .at (.osx 0 0 1)), (1, .at (.n 1 false true))], [some [.many none (.n 2 false false)]], 1⟩, some [⟨2, [.n 0 false true], [some [.many none (.n 1 false false)]]⟩], [(8, ⟨5, [(0, .at (.osx 0 0 1)), (1, .at (.n 1 false true)), (7, .at (.n 2 false true)), (8, .at (.n 3 false true))], [some [.many none (.n 4 false false)]], 1⟩)]⟩,
 ⟨10288, 18, false, 2, ⟨4, [(0, .at (.ptr 0 0)), (1, .at (.n 0 false false))], [some [.one (.mpp 1), .one (.mpp 2), .one (.mpp 3)], some [.one (.mpc 1)], some [.one (.mpc 2)], some [.one (.mpc 3)]], 4⟩, some [⟨5, [.n 0 false true, .n 1 false false], [some [.one (.mpp 1), .one (.mpp 2), .one (.mpp 3)], some [.one (.mpc 2)], some [.one (.mpc 3)], some [.one (.mpc 4)]]⟩], []⟩,
 ⟨10256, 16, false, 2, ⟨4, [(0, .at (.ptr 0 0)), (1, .at (.n 0 false true))], [some [.one (.mpp 1), .one (.mpp 2), .one (.mpp 3)], some [.one (.mpc 1)], some [.one (.mpc 2)], some [.one (.mpc 3)]], 4⟩, some [⟨5, [.n 0 false false, .n 1 false false], [some [.one (.mpp 1), .one (.mpp 2), .one (.mpp 3)], some [.one (.mpc 2)], some [.one (.mpc 3)], some [.one (.mpc 4)]]⟩], []⟩,
 ⟨10304, 19, false, 2, ⟨3, [(0, .at (.ptr 0 0)), (1, .at (.n 0 false false))], [some [.one (.n 1 true true), .one (.n 2 true true)]], 1⟩, some [⟨4, [.n 0 false true, .n 1 false true], [some [.one (.n 2 true true), .one (.n 3 true true)]]⟩], []⟩,
 ⟨10544, 34, false, 2, ⟨3, [(0, .at (.osx 0 0 2)), (1, .at (.n 1 false true))], [some [.many none (.n 2 false false)]], 1⟩, some [⟨1, [], [some [.many none (.n 0 false false)]]⟩], []⟩,
 ⟨10704, 44, false, 4, ⟨8, [(0, .at (.ptr 0 0)), (1, .at (.n 0 false false)), (2, .at (.n 1 false false)), (3, .at (.n 2 false true))], [some [.one (.ptr 1 0), .one (.n 3 true true), .one (.n 4 false true)], some [.one (.mpp 2), .one (.mpp 3), .one (.mpp 4)], some [.one (.mpc 5)], some [.one (.mpc 6)], some [.one (.mpc 7)]], 5⟩, some [⟨6, [.n 0 false false], [some [.one (.ptr 1 0), .one (.n 1 true true), .one (.n 2 false true)], some [.one (.mpp 2), .one (.mpp 3), .one (.mpp 4)], some [.one (.mpc 3)], some [.one (.mpc 4)], some [.one (.mpc 5)]]⟩], [(26, ⟨10, [(0, .at (.ptr 0 0)), (1, .at (.n 0 false false)), (3, .at (.n 1 false true)), (29, .at (.n 2 false false)), (30, .at (.n 3 false true)), (31, .at (.n 4 false true))], [some [.one (.ptr 1 0), .one (.n 5 true true), .one (.n 6 false true)], some [.one (.mpp 2), .one (.mpp 3), .one (.mpp 4)], some [.one (.mpc 7)], some [.one (.mpc 8)], some [.one (.mpc 9)]], 5⟩)]⟩,
 ⟨10720, 45, false, 5, ⟨6, [(0, .at (.ptr 0 0)), (1, .at (.n 0 false false)), (2, .at (.n 1 false false)), (3, .at (.n 2 false true)), (4, .at (.n 3 false true))], [some [.one (.n 4 true true), .one (.n 5 true true)]], 1⟩, some [⟨5, [.n 0 false true, .n 1 false true, .n 2 false true], [some [.one (.n 3 true true), .one (.n 4 true true)]]⟩], [(30, ⟨9, [(0, .at (.ptr 0 0)), (1, .at (.n 0 false false)), (3, .at (.n 1 false true)), (4, .at (.n 2 false true)), (17, .at (.n 3 true true)), (41, .at (.n 4 false false)), (42, .at (.n 5 false true)), (43, .at (.n 6 false true))], [some [.one (.n 7 true true), .one (.n 8 true true)]], 1⟩)]⟩,
 ⟨10849, 53, false, 3, ⟨4, [(0, .at (.osx 0 0 2)), (1, .at (.n 1 false true)), (2, .at (.n 2 false true))], [some [.many none (.n 3 false false)]], 1⟩, some [⟨1, [], [some [.many none (.n 0 false false)]]⟩], [(8, ⟨7, [(0, .at (.osx 0 0 2)), (1, .at (.n 1 false true)), (2, .at (.n 2 false true)), (6, .at (.n 3 false true)), (7, .at (.n 4 false true)), (8, .at (.n 5 false true))], [some [.many none (.n 6 false false)]], 1⟩), (24, ⟨5, [(0, .at (.osx 0 0 2)), (1, .at (.n 1 false true)), (2, .at (.n 2 false true)), (6, .at (.n 3 false true))], [some [.many none (.n 4 false false)]], 1⟩), (36, ⟨7, [(0, .at (.osx 0 0 2)), (1, .at (.n 1 false true)), (2, .at (.n 2 false true)), (6, .at (.n 3 false true)), (7, .at (.n 4 false true)), (8, .at (.n 5 false true))], [some [.many none (.n 6 false false)]], 1⟩)]⟩,
 ⟨11056, 66, false, 2, ⟨4, [(0, .at (.ptr 0 0)), (1, .at (.n 0 false false))], [some [.one (.mpp 1), .one (.mpp 2), .one (.mpp 3)], some [.one (.mpc 1)], some [.one (.mpc 2)], some [.one (.mpc 3)]], 4⟩, some [⟨5, [.n 0 false false, .n 1 false false], [some [.one (.mpp 1), .one (.mpp 2), .one (.mpp 3)], some [.one (.mpc 2)], some [.one (.mpc 3)], some [.one (.mpc 4)]]⟩], []⟩,
 ⟨11072, 67, false, 3, ⟨4, [(0, .at (.ptr 0 0)), (1, .at (.n 0 false true)), (2, .at (.n 1 false false))], [some [.one (.n 2 true true), .one (.n 3 true true)]], 1⟩, some [⟨4, [.n 0 false false, .n 1 false true], [some [.one (.n 2 true true), .one (.n 3 true true)]]⟩], [(8, ⟨7, [(1, .at (.n 0 false true)), (5, .at (.ptr 1 0)), (13, .at (.n 1 false true)), (14, .at (.n 2 false true)), (15, .at (.n 3 false true))], [some [.one (.n 4 true true), .one (.n 5 true true)], some [.many none (.n 6 false false)]], 1⟩)]⟩,
 ⟨11137, 71, false, 4, ⟨5, [(0, .at (.osx 0 0 2)), (1, .at (.n 1 false true)), (2, .at (.n 2 false true)), (3, .at (.n 3 false true))], [some [.many none (.n 4 false false)]], 1⟩, some [⟨1, [], [some [.many none (.n 0 false false)]]⟩], [(5, ⟨6, [(0, .at (.osx 0 0 2)), (1, .at (.n 1 false true)), (2, .at (.n 2 false true)), (3, .at (.n 3 false true)), (8, .at (.n 4 false true))], [some [.many none (.n 5 false false)]], 1⟩), (17, ⟨7, [(0, .at (.osx 0 0 2)), (1, .at (.n 1 false true)), (2, .at (.n 2 false true)), (3, .at (.n 3 false true)), (8, .at (.n 4 false true)), (9, .at (.n 5 false true))], [some [.many none (.n 6 false false)]], 1⟩)]⟩,
 ⟨11153, 72, false, 5, ⟨6, [(0, .at (.osx 0 0 2)), (1, .at (.n 1 false true)), (2, .at (.n 2 false true)), (3, .at (.n 3 false true)), (4, .at (.n 4 false true))], [some [.many none (.n 5 false false)]], 1⟩, some [⟨1, [], [some [.many none (.n 0 false false)]]⟩], [(12, ⟨6, [(0, .at (.osx 0 0 2)), (1, .at (.n 1 false true)), (4, .at (.n 2 false true)), (10, .at (.n 3 false true)), (11, .at (.n 4 false true))], [some [.many none (.n 5 false false)]], 1⟩), (31, ⟨4, [(0, .at (.osx 0 0 2)), (10, .at (.n 1 false true)), (13, .at (.n 2 false true))], [some [.many none (.n 3 false false)]], 1⟩), (54, ⟨6, [(0, .at (.osx 0 0 2)), (2, .at (.n 1 false true)), (4, .at (.n 2 false true)), (14, .at (.n 3 false true)), (15, .at (.n 4 false true))], [some [.many none (.n 5 false false)]], 1⟩), (73, ⟨4, [(0, .at (.osx 0 0 2)), (14, .at (.n 1 false true)), (17, .at (.n 2 false true))], [some [.many none (.n 3 false false)]], 1⟩), (102, ⟨10, [(0, .at (.osx 0 0 2)), (1, .at (.n 1 false true)), (2, .at (.n 2 false true)), (3, .at (.n 3 false true)), (4, .at (.n 4 false true)), (18, .at (.n 5 false true)), (19, .at (.n 6 false true)), (20, .at (.n 7 false true)), (21, .at (.n 8 false true))], [some [.many none (.n 9 false false)]], 1⟩), (106, ⟨11, [(0, .at (.osx 0 0 2)), (1, .at (.n 1 false true)), (2, .at (.n 2 false true)), (3, .at (.n 3 false true)), (4, .at (.n 4 false true)), (18, .at (.n 5 false true)), (19, .at (.n 6 false true)), (20, .at (.n 7 false true)), (21, .at (.n 8 false true)), (22, .at (.n 9 false true))], [some [.many none (.n 10 false false)]], 1⟩), (129, ⟨8, [(0, .at (.osx 0 0 2)), (1, .at (.n 1 false true)), (3, .at (.n 2 false true)), (4, .at (.n 3 false true)), (18, .at (.n 4 false true)), (20, .at (.n 5 false true)), (24, .at (.n 6 false true))], [some [.many none (.n 7 false false)]], 1⟩)]⟩,
 ⟨11473, 92, false, 5, ⟨6, [(0, .at (.osx 0 0 2)), (1, .at (.n 1 false true)), (2, .at (.n 2 false true)), (3, .at (.n 3 false true)), (4, .at (.n 4 false true))], [some [.many none (.n 5 false false)]], 1⟩, some [⟨1, [], [some [.many none (.n 0 false false)]]⟩], [(8, ⟨6, [(0, .at (.osx 0 0 2)), (2, .at (.n 1 false true)), (4, .at (.n 2 false true)), (10, .at (.n 3 false true)), (11, .at (.n 4 false true))], [some [.many none (.n 5 false false)]], 1⟩)]⟩,
 ⟨11745, 109, false, 5, ⟨6, [(0, .at (.osx 0 0 2)), (1, .at (.n 1 false true)), (2, .at (.n 2 false true)), (3, .at (.n 3 false true)), (4, .at (.n 4 false true))], [some [.many none (.n 5 false false)]], 1⟩, some [⟨1, [], [some [.many none (.n 0 false false)]]⟩], [(5, ⟨6, [(0, .at (.osx 0 0 2)), (1, .at (.n 1 false true)), (2, .at (.n 2 false true)), (3, .at (.n 3 false true)), (10, .at (.n 4 false true))], [some [.many none (.n 5 false false)]], 1⟩)]⟩,
 ⟨10448, 28, false, 1, ⟨3, [(0, .at (.ptr 0 0))], [some [.one (.mpp 1), .one (.mpp 2), .one (.mpp 3)], some [.one (.mpc 0)], some [.one (.mpc 1)], some [.one (.mpc 2)]], 4⟩, some [⟨4, [.n 0 false true], [some [.one (.mpp 1), .one (.mpp 2), .one (.mpp 3)], some [.one (.mpc 1)], some [.one (.mpc 2)], some [.one (.mpc 3)]]⟩], []⟩,
 ⟨10624, 39, false, 3, ⟨7, [(0, .at (.ptr 0 0)), (1, .at (.n 0 false false)), (2, .at (.osv 1 1 2 2))], [some [.one (.mpp 2), .one (.mpp 3), .one (.mpp 4)], some [.many none (.n 3 false false)], some [.one (.mpc 4)], some [.one (.mpc 5)], some [.one (.mpc 6)]], 5⟩, some [⟨6, [.n 0 false false, .n 1 false false], [some [.one (.mpp 2), .one (.mpp 3), .one (.mpp 4)], some [.many none (.n 2 false false)], some [.one (.mpc 3)], some [.one (.mpc 4)], some [.one (.mpc 5)]]⟩], [(8, ⟨9, [(0, .at (.ptr 0 0)), (1, .at (.n 0 false false)), (2, .at (.osv 1 1 2 2)), (6, .at (.ptr 5 0)), (8, .at (.n 3 true true))], [some [.one (.mpp 2), .one (.mpp 3), .one (.mpp 4)], some [.many none (.n 4 false false)], some [.one (.mpc 5)], some [.one (.mpc 6)], some [.one (.mpc 7)], some [.many (some 32) (.n 8 false false)]], 5⟩), (44, ⟨12, [(0, .at (.ptr 0 0)), (1, .at (.n 0 false false)), (2, .at (.osv 1 1 2 2)), (6, .at (.ptr 5 0)), (8, .at (.n 3 true true)), (11, .at (.n 4 false false)), (14, .at (.n 5 false false)), (15, .at (.n 6 false true))], [some [.one (.mpp 2), .one (.mpp 3), .one (.mpp 4)], some [.many none (.n 7 false false)], some [.one (.mpc 8)], some [.one (.mpc 9)], some [.one (.mpc 10)], some [.many (some 32) (.n 11 false false)]], 5⟩)]⟩]
def tabs : List FE := Z8l ++ Z8u
def extO : Nat -> Bool := fun f => [56].any (Nat.beq f)
def tb0 : List V := [.int .u32 1116352408, .int .u32 1899447441, .int .u32 3049323471, .int .u32 3921009573, .int .u32 961987163, .int .u32 1508970993, .int .u32 2453635748, .int .u32 2870763221, .int .u32 3624381080, .int .u32 310598401, .int .u32 607225278, .int .u32 1426881987, .int .u32 1925078388, .int .u32 2162078206, .int .u32 2614888103, .int .u32 3248222580, .int .u32 3835390401, .int .u32 4022224774, .int .u32 264347078, .int .u32 604807628, .int .u32 770255983, .int .u32 1249150122, .int .u32 1555081692, .int .u32 1996064986, .int .u32 2554220882, .int .u32 2821834349, .int .u32 2952996808, .int .u32 3210313671, .int .u32 3336571891, .int .u32 3584528711, .int .u32 113926993, .int .u32 338241895, .int .u32 666307205, .int .u32 773529912, .int .u32 1294757372, .int .u32 1396182291, .int .u32 1695183700, .int .u32 1986661051, .int .u32 2177026350, .int .u32 2456956037, .int .u32 2730485921, .int .u32 2820302411, .int .u32 3259730800, .int .u32 3345764771, .int .u32 3516065817, .int .u32 3600352804, .int .u32 4094571909, .int .u32 275423344, .int .u32 430227734, .int .u32 506948616, .int .u32 659060556, .int .u32 883997877, .int .u32 958139571, .int .u32 1322822218, .int .u32 1537002063, .int .u32 1747873779, .int .u32 1955562222, .int .u32 2024104815, .int .u32 2227730452, .int .u32 2361852424, .int .u32 2428436474, .int .u32 2756734187, .int .u32 3204031479, .int .u32 3329325298]
def gls : Nat -> Option (List V) := fun g => match Nat.beq g 0 with | true => some tb0 | false => none
def cfg : Cfg := Z27 tabs extO gls
theorem keys : Zlx tabs = true := by kernel_rfl
noncomputable abbrev vl (e : Nat -> List V -> Option V) : Gam := val Tryz.prog tabs e cfg
abbrev Ev := Nat -> List V -> Option V
noncomputable abbrev stp (e : Ev) (Γ : Gam) := Go.Abs.step Tryz.prog tabs e cfg Γ
end Go.Proofs.YtpmgdngjbdkdfaaGreatDoor
namespace Go.Proofs.YtpmgdngjbdkdfaaGreatDoor
open Go.Abs
noncomputable def y.zq39 (Γ : Gam) (v0 v1 : V) : Option V :=
 ca Γ 7 [] fun v2=>pr (.un .not) [v2] fun v3=>vif v3 (some (.bool false)) (pr (.bin .lss .no) [v0, .int .i64 1] fun v4=>vif v4 (Γ 4 15 [v0, v1, .bool true]) (pr (.bin .gtr .no) [v0, .int .i64 30] fun v5=>vif v5 (Γ 4 15 [v0, v1, .bool true]) (pr (.bin .lss .no) [v1, .int .i64 1] fun v6=>vif v6 (Γ 4 15 [v0, v1, .bool true]) (pr (.bin .gtr .no) [v1, .int .i64 40] fun v7=>Γ 4 15 [v0, v1, v7]))))
theorem s.zq39 (e : Ev) (Γ : Gam) (v0 v1 : V) : stp e Γ 4 0 [v0, v1] = y.zq39 Γ v0 v1 := by kernel_rfl
theorem w.zq39 (e : Ev) (v0 v1 : V) : vl e 4 0 [v0, v1] = y.zq39 (vl e) v0 v1 := Zac (s.zq39 e _ v0 v1)
noncomputable def y.zq39_15 (Γ : Gam) (v0 v1 v2 : V) : Option V :=
 vif v2 (some (.bool true)) (ch Γ 10192 [] fun v3=>pr (.ext 0) [v3] fun v4=>pr (.ext 1) [v3] fun v5=>pr (.ext 2) [v3] fun v6=>pr (.cat []) [] fun v7=>pr (.cat [none, none]) [.sl false 34 [], .sl false 34 []] fun v8=>ch Γ 10224 [.str [120], v4, v5, v6] fun v9=>pr (.ext 0) [v9] fun v10=>pr (.ext 1) [v9] fun v11=>pr (.ext 2) [v9] fun v12=>pr (.ext 3) [v9] fun v13=>pr (.ext 4) [v9] fun v14=>pr (.cat [some 32]) [v10] fun v15=>ch Γ 10240 [.str [98, 108, 111, 98], .str [120], .sl false 34 [], .sl false 34 []] fun v16=>pr (.ext 0) [v16] fun v17=>pr (.ext 1) [v16] fun v18=>pr (.ext 2) [v16] fun v19=>Γ 4 32 [v0, v1, .bool true, .int .i64 0, v18, v19, v15, v12, v13, v14])
theorem s.zq39_15 (e : Ev) (Γ : Gam) (v0 v1 v2 : V) : stp e Γ 4 15 [v0, v1, v2] = y.zq39_15 Γ v0 v1 v2 := by kernel_rfl
theorem w.zq39_15 (e : Ev) (v0 v1 v2 : V) : vl e 4 15 [v0, v1, v2] = y.zq39_15 (vl e) v0 v1 v2 := Zac (s.zq39_15 e _ v0 v1 v2)
noncomputable def y.zq39_32 (Γ : Gam) (v0 v1 v2 v3 v4 v5 v6 v7 v8 v9 : V) : Option V :=
 pr (.bin .lss .no) [v3, v0] fun v10=>vif v10 (Γ 4 47 [v0, v1, v2, v3, .sl false 34 [], .int .i64 0, v4, v5, v6, v7, v8, v9]) (ch Γ 10288 [v6, v7, v8, v9] fun v11=>pr (.ext 0) [v11] fun v12=>pr (.ext 1) [v11] fun v13=>pr (.ext 2) [v11] fun v14=>pr (.ext 3) [v11] fun v15=>pr (.ext 4) [v11] fun v16=>ch Γ 10304 [v6, v4, v5] fun v17=>pr (.ext 0) [v17] fun v18=>pr (.ext 1) [v17] fun v19=>pr (.ext 2) [v17] fun v20=>pr (.ext 3) [v17] fun v21=>pr (.bin .eql .no) [v13, v19] fun v22=>vif v22 (ca Γ 20 [v12, v18] fun v23=>some v23) (some (.bool false)))
theorem s.zq39_32 (e : Ev) (Γ : Gam) (v0 v1 v2 v3 v4 v5 v6 v7 v8 v9 : V) : stp e Γ 4 32 [v0, v1, v2, v3, v4, v5, v6, v7, v8, v9] = y.zq39_32 Γ v0 v1 v2 v3 v4 v5 v6 v7 v8 v9 := by kernel_rfl
theorem w.zq39_32 (e : Ev) (v0 v1 v2 v3 v4 v5 v6 v7 v8 v9 : V) : vl e 4 32 [v0, v1, v2, v3, v4, v5, v6, v7, v8, v9] = y.zq39_32 (vl e) v0 v1 v2 v3 v4 v5 v6 v7 v8 v9 := Zac (s.zq39_32 e _ v0 v1 v2 v3 v4 v5 v6 v7 v8 v9)
noncomputable def y.zq39_47 (Γ : Gam) (v0 v1 v2 v3 v4 v5 v6 v7 v8 v9 v10 v11 : V) : Option V :=
 pr (.bin .lss .no) [v5, v1] fun v12=>vif v12 (pr (.bin .add .no) [.int .i64 65, v5] fun v13=>pr (.i2i .u8) [v13] fun v14=>pr (.bsl 1) [v14] fun v15=>pr .b2s [v15] fun v16=>pr (.un .not) [v2] fun v17=>pr (.cat [none, none, some 32]) [v16, v17, v8] fun v18=>pr (.bsl 34) [v18] fun v19=>pr (.app 34) [v4, v19] fun v20=>pr (.bin .add .no) [v5, .int .i64 1] fun v21=>Γ 4 47 [v0, v1, v2, v3, v20, v21, v6, v7, v8, v9, v10, v11]) (ch Γ 10256 [v4, v9, v10, v11] fun v13=>pr (.ext 0) [v13] fun v14=>pr (.ext 1) [v13] fun v15=>pr (.ext 2) [v13] fun v16=>pr (.ext 3) [v13] fun v17=>pr (.ext 4) [v13] fun v18=>pr (.cat [some 32]) [v14] fun v19=>pr (.bin .neq .no) [v15, .int .i64 0] fun v20=>vif v20 (some (.bool false)) (ca Γ 17 [v4] fun v21=>ch Γ 10240 [.str [116, 114, 101, 101], v21, v6, v7] fun v22=>pr (.ext 0) [v22] fun v23=>pr (.ext 1) [v22] fun v24=>pr (.ext 2) [v22] fun v25=>pr (.cat [some 32]) [v19] fun v26=>pr (.bin .add .no) [v3, .int .i64 1] fun v27=>Γ 4 32 [v0, v1, .bool false, v27, v24, v25, v26, v16, v17, v18]))
theorem s.zq39_47 (e : Ev) (Γ : Gam) (v0 v1 v2 v3 v4 v5 v6 v7 v8 v9 v10 v11 : V) : stp e Γ 4 47 [v0, v1, v2, v3, v4, v5, v6, v7, v8, v9, v10, v11] = y.zq39_47 Γ v0 v1 v2 v3 v4 v5 v6 v7 v8 v9 v10 v11 := by kernel_rfl
theorem w.zq39_47 (e : Ev) (v0 v1 v2 v3 v4 v5 v6 v7 v8 v9 v10 v11 : V) : vl e 4 47 [v0, v1, v2, v3, v4, v5, v6, v7, v8, v9, v10, v11] = y.zq39_47 (vl e) v0 v1 v2 v3 v4 v5 v6 v7 v8 v9 v10 v11 := Zac (s.zq39_47 e _ v0 v1 v2 v3 v4 v5 v6 v7 v8 v9 v10 v11)
noncomputable def y.zq60 (Γ : Gam) (v0 v1 : V) : Option V :=
 pr (.len false) [v0] fun v2=>pr (.len false) [v1] fun v3=>pr (.bin .neq .no) [v2, v3] fun v4=>vif v4 (some (.bool false)) (pr (.len false) [v0] fun v5=>Γ 20 16 [v0, v1, v5, .int .i64 0])
theorem s.zq60 (e : Ev) (Γ : Gam) (v0 v1 : V) : stp e Γ 20 0 [v0, v1] = y.zq60 Γ v0 v1 := by kernel_rfl
theorem w.zq60 (e : Ev) (v0 v1 : V) : vl e 20 0 [v0, v1] = y.zq60 (vl e) v0 v1 := Zac (s.zq60 e _ v0 v1)
noncomputable def y.zq60_16 (Γ : Gam) (v0 v1 v2 v3 : V) : Option V :=
 pr (.bin .lss .no) [v3, v2] fun v4=>vif v4 (pr (.elem 33) [v0, v3] fun v5=>pr (.ld (some 33) 0) [v5] fun v6=>pr (.elem 33) [v1, v3] fun v7=>pr (.ld (some 33) 0) [v7] fun v8=>pr (.bin .neq (.flat [(none, true), (some .u8, true), (some .u8, true), (some .u8, true), (some .u8, true), (some .u8, true), (some .u8, true), (some .u8, true), (some .u8, true), (some .u8, true), (some .u8, true), (some .u8, true), (some .u8, true), (some .u8, true), (some .u8, true), (some .u8, true), (some .u8, true), (some .u8, true), (some .u8, true), (some .u8, true), (some .u8, true), (some .u8, true), (some .u8, true), (some .u8, true), (some .u8, true), (some .u8, true), (some .u8, true), (some .u8, true), (some .u8, true), (some .u8, true), (some .u8, true), (some .u8, true), (some .u8, true)])) [v6, v8] fun v9=>vif v9 (some (.bool false)) (pr (.bin .add .no) [v3, .int .i64 1] fun v10=>Γ 20 16 [v0, v1, v2, v10])) (some (.bool true))
theorem s.zq60_16 (e : Ev) (Γ : Gam) (v0 v1 v2 v3 : V) : stp e Γ 20 16 [v0, v1, v2, v3] = y.zq60_16 Γ v0 v1 v2 v3 := by kernel_rfl
theorem w.zq60_16 (e : Ev) (v0 v1 v2 v3 : V) : vl e 20 16 [v0, v1, v2, v3] = y.zq60_16 (vl e) v0 v1 v2 v3 := Zac (s.zq60_16 e _ v0 v1 v2 v3)
noncomputable def y.zq57 (Γ : Gam) (v0 v1 : V) : Option V :=
 pr (.bsl 1) [v0, v1] fun v2=>ca Γ 43 [v2] fun v3=>pr .s2b [v3] fun v4=>ca Γ 62 [v4] fun v5=>pr (.cat [some 32]) [v5] fun v6=>some v6
theorem s.zq57 (e : Ev) (Γ : Gam) (v0 v1 : V) : stp e Γ 40 0 [v0, v1] = y.zq57 Γ v0 v1 := by kernel_rfl
theorem w.zq57 (e : Ev) (v0 v1 : V) : vl e 40 0 [v0, v1] = y.zq57 (vl e) v0 v1 := Zac (s.zq57 e _ v0 v1)
noncomputable def y.zq2 (Γ : Gam) (v0 : V) : Option V :=
 pr (.len false) [v0] fun v1=>Γ 64 10 [v0, .int .i64 8, v0, v1, .int .i64 0]
theorem s.zq2 (e : Ev) (Γ : Gam) (v0 : V) : stp e Γ 64 0 [v0] = y.zq2 Γ v0 := by kernel_rfl
theorem w.zq2 (e : Ev) (v0 : V) : vl e 64 0 [v0] = y.zq2 (vl e) v0 := Zac (s.zq2 e _ v0)
noncomputable def y.zq2_10 (Γ : Gam) (v0 v1 v2 v3 v4 : V) : Option V :=
 pr (.bin .lss .no) [v4, v3] fun v5=>vif v5 (pr (.elem 1) [v2, v4] fun v6=>pr (.ld none 0) [v6] fun v7=>pr (.len true) [v7] fun v8=>pr (.bin .add .no) [.int .i64 8, v8] fun v9=>pr (.bin .add .no) [v1, v9] fun v10=>pr (.bin .add .no) [v4, .int .i64 1] fun v11=>Γ 64 10 [v0, v10, v2, v3, v11]) (pr (.mks 1) [.int .i64 0, v1] fun v6=>pr (.len false) [v0] fun v7=>ca Γ 86 [v7] fun v8=>pr (.app 1) [v6, v8] fun v9=>pr (.len false) [v0] fun v10=>Γ 64 31 [v9, v0, v10, .int .i64 0])
theorem s.zq2_10 (e : Ev) (Γ : Gam) (v0 v1 v2 v3 v4 : V) : stp e Γ 64 10 [v0, v1, v2, v3, v4] = y.zq2_10 Γ v0 v1 v2 v3 v4 := by kernel_rfl
theorem w.zq2_10 (e : Ev) (v0 v1 v2 v3 v4 : V) : vl e 64 10 [v0, v1, v2, v3, v4] = y.zq2_10 (vl e) v0 v1 v2 v3 v4 := Zac (s.zq2_10 e _ v0 v1 v2 v3 v4)
noncomputable def y.zq2_31 (Γ : Gam) (v0 v1 v2 v3 : V) : Option V :=
 pr (.bin .lss .no) [v3, v2] fun v4=>vif v4 (pr (.elem 1) [v1, v3] fun v5=>pr (.ld none 0) [v5] fun v6=>pr (.len true) [v6] fun v7=>ca Γ 86 [v7] fun v8=>pr (.app 1) [v0, v8] fun v9=>pr (.app 1) [v9, v6] fun v10=>pr (.bin .add .no) [v3, .int .i64 1] fun v11=>Γ 64 31 [v10, v1, v2, v11]) (pr .b2s [v0] fun v5=>some v5)
theorem s.zq2_31 (e : Ev) (Γ : Gam) (v0 v1 v2 v3 : V) : stp e Γ 64 31 [v0, v1, v2, v3] = y.zq2_31 Γ v0 v1 v2 v3 := by kernel_rfl
theorem w.zq2_31 (e : Ev) (v0 v1 v2 v3 : V) : vl e 64 31 [v0, v1, v2, v3] = y.zq2_31 (vl e) v0 v1 v2 v3 := Zac (s.zq2_31 e _ v0 v1 v2 v3)
noncomputable def y.zq55 (Γ : Gam) (v0 : V) : Option V :=
 ca Γ 88 [v0] fun v1=>pr (.ext 0) [v1] fun v2=>pr (.ext 1) [v1] fun v3=>pr (.un .not) [v3] fun v4=>vif v4 (Γ 68 9 [v2, .bool true]) (pr (.len false) [v2] fun v5=>pr (.bin .rem .no) [v5, .int .i64 3] fun v6=>pr (.bin .neq .no) [v6, .int .i64 0] fun v7=>Γ 68 9 [v2, v7])
theorem s.zq55 (e : Ev) (Γ : Gam) (v0 : V) : stp e Γ 68 0 [v0] = y.zq55 Γ v0 := by kernel_rfl
theorem w.zq55 (e : Ev) (v0 : V) : vl e 68 0 [v0] = y.zq55 (vl e) v0 := Zac (s.zq55 e _ v0)
noncomputable def y.zq55_9 (Γ : Gam) (v0 v1 : V) : Option V :=
 vif v1 (some (.tup [.sl false 34 [], .bool false])) (Γ 68 20 [v0, .sl false 34 [], .int .i64 0])
theorem s.zq55_9 (e : Ev) (Γ : Gam) (v0 v1 : V) : stp e Γ 68 9 [v0, v1] = y.zq55_9 Γ v0 v1 := by kernel_rfl
theorem w.zq55_9 (e : Ev) (v0 v1 : V) : vl e 68 9 [v0, v1] = y.zq55_9 (vl e) v0 v1 := Zac (s.zq55_9 e _ v0 v1)
noncomputable def y.zq55_20 (Γ : Gam) (v0 v1 v2 : V) : Option V :=
 pr (.len false) [v0] fun v3=>pr (.bin .lss .no) [v2, v3] fun v4=>vif v4 (pr (.elem 1) [v0, v2] fun v5=>pr (.ld none 0) [v5] fun v6=>pr (.bin .neq .no) [v6, .str [98, 108, 111, 98]] fun v7=>vif v7 (pr (.elem 1) [v0, v2] fun v8=>pr (.ld none 0) [v8] fun v9=>pr (.bin .neq .no) [v9, .str [116, 114, 101, 101]] fun v10=>vif v10 (some (.tup [.sl false 34 [], .bool false])) (pr (.bin .add .no) [v2, .int .i64 2] fun v11=>pr (.elem 1) [v0, v11] fun v12=>pr (.ld none 0) [v12] fun v13=>pr (.len true) [v13] fun v14=>pr (.bin .neq .no) [v14, .int .i64 32] fun v15=>vif v15 (some (.tup [.sl false 34 [], .bool false])) (pr (.bin .add .no) [v2, .int .i64 1] fun v16=>pr (.elem 1) [v0, v16] fun v17=>pr (.ld none 0) [v17] fun v18=>pr (.elem 1) [v0, v2] fun v19=>pr (.ld none 0) [v19] fun v20=>pr (.bin .eql .no) [v20, .str [116, 114, 101, 101]] fun v21=>pr (.bin .add .no) [v2, .int .i64 2] fun v22=>pr (.elem 1) [v0, v22] fun v23=>pr (.ld none 0) [v23] fun v24=>ca Γ 89 [v24] fun v25=>pr (.cat [none, none, some 32]) [v18, v21, v25] fun v26=>pr (.bsl 34) [v26] fun v27=>pr (.app 34) [v1, v27] fun v28=>pr (.bin .add .no) [v2, .int .i64 3] fun v29=>Γ 68 20 [v0, v28, v29]))) (pr (.bin .add .no) [v2, .int .i64 2] fun v8=>pr (.elem 1) [v0, v8] fun v9=>pr (.ld none 0) [v9] fun v10=>pr (.len true) [v10] fun v11=>pr (.bin .neq .no) [v11, .int .i64 32] fun v12=>vif v12 (some (.tup [.sl false 34 [], .bool false])) (pr (.bin .add .no) [v2, .int .i64 1] fun v13=>pr (.elem 1) [v0, v13] fun v14=>pr (.ld none 0) [v14] fun v15=>pr (.elem 1) [v0, v2] fun v16=>pr (.ld none 0) [v16] fun v17=>pr (.bin .eql .no) [v17, .str [116, 114, 101, 101]] fun v18=>pr (.bin .add .no) [v2, .int .i64 2] fun v19=>pr (.elem 1) [v0, v19] fun v20=>pr (.ld none 0) [v20] fun v21=>ca Γ 89 [v21] fun v22=>pr (.cat [none, none, some 32]) [v15, v18, v22] fun v23=>pr (.bsl 34) [v23] fun v24=>pr (.app 34) [v1, v24] fun v25=>pr (.bin .add .no) [v2, .int .i64 3] fun v26=>Γ 68 20 [v0, v25, v26]))) (ca Γ 90 [v1] fun v5=>pr (.un .not) [v5] fun v6=>vif v6 (some (.tup [.sl false 34 [], .bool false])) (some (.tup [v1, .bool true])))
theorem s.zq55_20 (e : Ev) (Γ : Gam) (v0 v1 v2 : V) : stp e Γ 68 20 [v0, v1, v2] = y.zq55_20 Γ v0 v1 v2 := by kernel_rfl
theorem w.zq55_20 (e : Ev) (v0 v1 v2 : V) : vl e 68 20 [v0, v1, v2] = y.zq55_20 (vl e) v0 v1 v2 := Zac (s.zq55_20 e _ v0 v1 v2)
noncomputable def y.zq45 (Γ : Gam) (v0 v1 v2 : V) : Option V :=
 pr .scs [v0] fun v3=>pr .scs [v2] fun v4=>Γ 84 10 [v1, .int .i64 0, v3, v4, .agg [.int .u32 0, .int .u32 0, .int .u32 0, .int .u32 0, .int .u32 0, .int .u32 0, .int .u32 0, .int .u32 0], (.agg (repl 64 (.int .u32 0)))]
theorem s.zq45 (e : Ev) (Γ : Gam) (v0 v1 v2 : V) : stp e Γ 84 0 [v0, v1, v2] = y.zq45 Γ v0 v1 v2 := by kernel_rfl
theorem w.zq45 (e : Ev) (v0 v1 v2 : V) : vl e 84 0 [v0, v1, v2] = y.zq45 (vl e) v0 v1 v2 := Zac (s.zq45 e _ v0 v1 v2)
noncomputable def y.zq45_10 (Γ : Gam) (v0 v1 v2 v3 v4 v5 : V) : Option V :=
 pr (.bin .lss .no) [v1, .int .i64 16] fun v6=>vif v6 (pr (.bin .mul .no) [.int .i64 4, v1] fun v7=>pr (.elem 1) [v0, v7] fun v8=>pr (.ld none 0) [v8] fun v9=>pr (.i2i .u32) [v9] fun v10=>pr (.bin .shl .no) [v10, .int .u64 24] fun v11=>pr (.bin .mul .no) [.int .i64 4, v1] fun v12=>pr (.bin .add .no) [v12, .int .i64 1] fun v13=>pr (.elem 1) [v0, v13] fun v14=>pr (.ld none 0) [v14] fun v15=>pr (.i2i .u32) [v15] fun v16=>pr (.bin .shl .no) [v16, .int .u64 16] fun v17=>pr (.bin .add .no) [v11, v17] fun v18=>pr (.bin .mul .no) [.int .i64 4, v1] fun v19=>pr (.bin .add .no) [v19, .int .i64 2] fun v20=>pr (.elem 1) [v0, v20] fun v21=>pr (.ld none 0) [v21] fun v22=>pr (.i2i .u32) [v22] fun v23=>pr (.bin .shl .no) [v23, .int .u64 8] fun v24=>pr (.bin .add .no) [v18, v24] fun v25=>pr (.bin .mul .no) [.int .i64 4, v1] fun v26=>pr (.bin .add .no) [v26, .int .i64 3] fun v27=>pr (.elem 1) [v0, v27] fun v28=>pr (.ld none 0) [v28] fun v29=>pr (.i2i .u32) [v29] fun v30=>pr (.bin .add .no) [v25, v30] fun v31=>pr (.chk 64) [v1] fun v32=>pr (.std 1 0 1) [v5, v32, v31] fun v33=>pr (.bin .add .no) [v1, .int .i64 1] fun v34=>Γ 84 10 [v0, v34, v2, v3, v4, v33]) (Γ 84 25 [.int .i64 16, v2, v3, v4, v5])
theorem s.zq45_10 (e : Ev) (Γ : Gam) (v0 v1 v2 v3 v4 v5 : V) : stp e Γ 84 10 [v0, v1, v2, v3, v4, v5] = y.zq45_10 Γ v0 v1 v2 v3 v4 v5 := by kernel_rfl
theorem w.zq45_10 (e : Ev) (v0 v1 v2 v3 v4 v5 : V) : vl e 84 10 [v0, v1, v2, v3, v4, v5] = y.zq45_10 (vl e) v0 v1 v2 v3 v4 v5 := Zac (s.zq45_10 e _ v0 v1 v2 v3 v4 v5)
noncomputable def y.zq45_25 (Γ : Gam) (v0 v1 v2 v3 v4 : V) : Option V :=
 pr (.bin .lss .no) [v0, .int .i64 64] fun v5=>vif v5 (pr (.bin .sub .no) [v0, .int .i64 15] fun v6=>pr (.chk 64) [v6] fun v7=>pr (.ldd none 0 1) [v4, v7] fun v8=>pr (.bin .sub .no) [v0, .int .i64 2] fun v9=>pr (.chk 64) [v9] fun v10=>pr (.ldd none 0 1) [v4, v10] fun v11=>ca Γ 101 [v8, .int .u64 7] fun v12=>ca Γ 101 [v8, .int .u64 18] fun v13=>pr (.bin .xor .no) [v12, v13] fun v14=>pr (.bin .shr .no) [v8, .int .u64 3] fun v15=>pr (.bin .xor .no) [v14, v15] fun v16=>ca Γ 101 [v11, .int .u64 17] fun v17=>ca Γ 101 [v11, .int .u64 19] fun v18=>pr (.bin .xor .no) [v17, v18] fun v19=>pr (.bin .shr .no) [v11, .int .u64 10] fun v20=>pr (.bin .xor .no) [v19, v20] fun v21=>pr (.bin .sub .no) [v0, .int .i64 16] fun v22=>pr (.chk 64) [v22] fun v23=>pr (.ldd none 0 1) [v4, v23] fun v24=>pr (.bin .add .no) [v24, v16] fun v25=>pr (.bin .sub .no) [v0, .int .i64 7] fun v26=>pr (.chk 64) [v26] fun v27=>pr (.ldd none 0 1) [v4, v27] fun v28=>pr (.bin .add .no) [v25, v28] fun v29=>pr (.bin .add .no) [v29, v21] fun v30=>pr (.chk 64) [v0] fun v31=>pr (.std 1 0 1) [v4, v31, v30] fun v32=>pr (.bin .add .no) [v0, .int .i64 1] fun v33=>Γ 84 25 [v33, v1, v2, v3, v32]) (pr (.ld none 0) [v1] fun v6=>pr (.ld none 1) [v1] fun v7=>pr (.ld none 2) [v1] fun v8=>pr (.ld none 3) [v1] fun v9=>pr (.ld none 4) [v1] fun v10=>pr (.ld none 5) [v1] fun v11=>pr (.ld none 6) [v1] fun v12=>pr (.ld none 7) [v1] fun v13=>Γ 84 48 [v6, v7, v8, v9, v10, v11, v12, v13, .int .i64 0, v1, v2, v3, v4])
theorem s.zq45_25 (e : Ev) (Γ : Gam) (v0 v1 v2 v3 v4 : V) : stp e Γ 84 25 [v0, v1, v2, v3, v4] = y.zq45_25 Γ v0 v1 v2 v3 v4 := by kernel_rfl
theorem w.zq45_25 (e : Ev) (v0 v1 v2 v3 v4 : V) : vl e 84 25 [v0, v1, v2, v3, v4] = y.zq45_25 (vl e) v0 v1 v2 v3 v4 := Zac (s.zq45_25 e _ v0 v1 v2 v3 v4)
noncomputable def y.zq45_48 (Γ : Gam) (v0 v1 v2 v3 v4 v5 v6 v7 v8 v9 v10 v11 v12 : V) : Option V :=
 pr (.bin .lss .no) [v8, .int .i64 64] fun v13=>vif v13 (ca Γ 102 [v4, .int .u64 6, .int .u64 11, .int .u64 25] fun v14=>pr (.bin .add .no) [v7, v14] fun v15=>pr (.bin .and .no) [v4, v5] fun v16=>pr (.un .xor) [v4] fun v17=>pr (.bin .and .no) [v17, v6] fun v18=>pr (.bin .xor .no) [v16, v18] fun v19=>pr (.bin .add .no) [v15, v19] fun v20=>pr (.chk 64) [v8] fun v21=>pr (.ldd none 0 1) [v10, v21] fun v22=>pr (.bin .add .no) [v20, v22] fun v23=>pr (.chk 64) [v8] fun v24=>pr (.ldd none 0 1) [v12, v24] fun v25=>pr (.bin .add .no) [v23, v25] fun v26=>ca Γ 102 [v0, .int .u64 2, .int .u64 13, .int .u64 22] fun v27=>pr (.bin .and .no) [v0, v1] fun v28=>pr (.bin .and .no) [v0, v2] fun v29=>pr (.bin .xor .no) [v28, v29] fun v30=>pr (.bin .and .no) [v1, v2] fun v31=>pr (.bin .xor .no) [v30, v31] fun v32=>pr (.bin .add .no) [v27, v32] fun v33=>pr (.bin .add .no) [v3, v26] fun v34=>pr (.bin .add .no) [v26, v33] fun v35=>pr (.bin .add .no) [v8, .int .i64 1] fun v36=>Γ 84 48 [v35, v0, v1, v2, v34, v4, v5, v6, v36, v9, v10, v11, v12]) (pr (.ld none 0) [v9] fun v14=>pr (.bin .add .no) [v14, v0] fun v15=>pr (.ld none 1) [v9] fun v16=>pr (.bin .add .no) [v16, v1] fun v17=>pr (.ld none 2) [v9] fun v18=>pr (.bin .add .no) [v18, v2] fun v19=>pr (.ld none 3) [v9] fun v20=>pr (.bin .add .no) [v20, v3] fun v21=>pr (.ld none 4) [v9] fun v22=>pr (.bin .add .no) [v22, v4] fun v23=>pr (.ld none 5) [v9] fun v24=>pr (.bin .add .no) [v24, v5] fun v25=>pr (.ld none 6) [v9] fun v26=>pr (.bin .add .no) [v26, v6] fun v27=>pr (.ld none 7) [v9] fun v28=>pr (.bin .add .no) [v28, v7] fun v29=>pr (.cat [none, none, none, none, none, none, none, none]) [v15, v17, v19, v21, v23, v25, v27, v29] fun v30=>some v30)
theorem s.zq45_48 (e : Ev) (Γ : Gam) (v0 v1 v2 v3 v4 v5 v6 v7 v8 v9 v10 v11 v12 : V) : stp e Γ 84 48 [v0, v1, v2, v3, v4, v5, v6, v7, v8, v9, v10, v11, v12] = y.zq45_48 Γ v0 v1 v2 v3 v4 v5 v6 v7 v8 v9 v10 v11 v12 := by kernel_rfl
theorem w.zq45_48 (e : Ev) (v0 v1 v2 v3 v4 v5 v6 v7 v8 v9 v10 v11 v12 : V) : vl e 84 48 [v0, v1, v2, v3, v4, v5, v6, v7, v8, v9, v10, v11, v12] = y.zq45_48 (vl e) v0 v1 v2 v3 v4 v5 v6 v7 v8 v9 v10 v11 v12 := Zac (s.zq45_48 e _ v0 v1 v2 v3 v4 v5 v6 v7 v8 v9 v10 v11 v12)
noncomputable def y.zq43 (Γ : Gam) (v0 : V) : Option V :=
 ca Γ 106 [v0] fun v1=>pr (.ext 0) [v1] fun v2=>pr (.ext 1) [v1] fun v3=>pr (.un .not) [v3] fun v4=>vif v4 (some (.tup [.sl false 1 [], .bool false])) (pr (.sls true false) [v0, .int .i64 8] fun v5=>Γ 88 20 [v5, v2, .sl false 1 []])
theorem s.zq43 (e : Ev) (Γ : Gam) (v0 : V) : stp e Γ 88 0 [v0] = y.zq43 Γ v0 := by kernel_rfl
theorem w.zq43 (e : Ev) (v0 : V) : vl e 88 0 [v0] = y.zq43 (vl e) v0 := Zac (s.zq43 e _ v0)
noncomputable def y.zq43_20 (Γ : Gam) (v0 v1 v2 : V) : Option V :=
 pr (.bin .gtr .no) [v1, .int .i64 0] fun v3=>vif v3 (ca Γ 106 [v0] fun v4=>pr (.ext 0) [v4] fun v5=>pr (.ext 1) [v4] fun v6=>pr (.un .not) [v6] fun v7=>vif v7 (some (.tup [.sl false 1 [], .bool false])) (pr (.len true) [v0] fun v8=>pr (.bin .sub .no) [v8, .int .i64 8] fun v9=>pr (.bin .gtr .no) [v5, v9] fun v10=>vif v10 (some (.tup [.sl false 1 [], .bool false])) (pr (.bin .add .no) [.int .i64 8, v5] fun v11=>pr (.sls true true) [v0, .int .i64 8, v11] fun v12=>pr (.bsl 1) [v12] fun v13=>pr (.app 1) [v2, v13] fun v14=>pr (.bin .add .no) [.int .i64 8, v5] fun v15=>pr (.sls true false) [v0, v15] fun v16=>pr (.bin .sub .no) [v1, .int .i64 1] fun v17=>Γ 88 20 [v16, v17, v14]))) (pr (.bin .eql .no) [v0, .str []] fun v4=>some (.tup [v2, v4]))
theorem s.zq43_20 (e : Ev) (Γ : Gam) (v0 v1 v2 : V) : stp e Γ 88 20 [v0, v1, v2] = y.zq43_20 Γ v0 v1 v2 := by kernel_rfl
theorem w.zq43_20 (e : Ev) (v0 v1 v2 : V) : vl e 88 20 [v0, v1, v2] = y.zq43_20 (vl e) v0 v1 v2 := Zac (s.zq43_20 e _ v0 v1 v2)
noncomputable def y.zq5 (Γ : Gam) (v0 : V) : Option V :=
 pr (.len true) [v0] fun v1=>pr (.bin .gtr .no) [v1, .int .i64 1048576] fun v2=>vif v2 (some (.tup [.sl false 1 [], .int .i64 3])) (ca Γ 117 [v0] fun v3=>pr (.ext 0) [v3] fun v4=>pr (.ext 1) [v3] fun v5=>pr (.un .not) [v5] fun v6=>vif v6 (Γ 104 17 [v0, v4, .bool true]) (pr (.bin .lss .no) [v4, .int .i64 0] fun v7=>vif v7 (Γ 104 17 [v0, v4, .bool true]) (pr (.len true) [v0] fun v8=>pr (.bin .quo .no) [v8, .int .i64 8] fun v9=>pr (.bin .gtr .no) [v4, v9] fun v10=>Γ 104 17 [v0, v4, v10])))
theorem s.zq5 (e : Ev) (Γ : Gam) (v0 : V) : stp e Γ 104 0 [v0] = y.zq5 Γ v0 := by kernel_rfl
theorem w.zq5 (e : Ev) (v0 : V) : vl e 104 0 [v0] = y.zq5 (vl e) v0 := Zac (s.zq5 e _ v0)
noncomputable def y.zq5_17 (Γ : Gam) (v0 v1 v2 : V) : Option V :=
 vif v2 (some (.tup [.sl false 1 [], .int .i64 4])) (pr (.mnx false) [v1, .int .i64 4096] fun v3=>pr (.mks 1) [.int .i64 0, v3] fun v4=>pr (.sls true false) [v0, .int .i64 8] fun v5=>Γ 104 30 [v4, v5, v1, .int .i64 0])
theorem s.zq5_17 (e : Ev) (Γ : Gam) (v0 v1 v2 : V) : stp e Γ 104 17 [v0, v1, v2] = y.zq5_17 Γ v0 v1 v2 := by kernel_rfl
theorem w.zq5_17 (e : Ev) (v0 v1 v2 : V) : vl e 104 17 [v0, v1, v2] = y.zq5_17 (vl e) v0 v1 v2 := Zac (s.zq5_17 e _ v0 v1 v2)
noncomputable def y.zq5_30 (Γ : Gam) (v0 v1 v2 v3 : V) : Option V :=
 pr (.bin .lss .no) [v3, v2] fun v4=>vif v4 (ca Γ 117 [v1] fun v5=>pr (.ext 0) [v5] fun v6=>pr (.ext 1) [v5] fun v7=>pr (.un .not) [v7] fun v8=>vif v8 (some (.tup [.sl false 1 [], .int .i64 4])) (pr (.bin .lss .no) [v6, .int .i64 0] fun v9=>vif v9 (some (.tup [.sl false 1 [], .int .i64 4])) (pr (.len true) [v1] fun v10=>pr (.bin .sub .no) [v10, .int .i64 8] fun v11=>pr (.bin .gtr .no) [v6, v11] fun v12=>vif v12 (some (.tup [.sl false 1 [], .int .i64 4])) (pr (.bin .add .no) [.int .i64 8, v6] fun v13=>pr (.sls true true) [v1, .int .i64 8, v13] fun v14=>pr (.bsl 1) [v14] fun v15=>pr (.app 1) [v0, v15] fun v16=>pr (.bin .add .no) [.int .i64 8, v6] fun v17=>pr (.sls true false) [v1, v17] fun v18=>pr (.bin .add .no) [v3, .int .i64 1] fun v19=>Γ 104 30 [v16, v18, v2, v19])))) (pr (.bin .neq .no) [v1, .str []] fun v5=>vif v5 (some (.tup [.sl false 1 [], .int .i64 4])) (some (.tup [v0, .int .i64 0])))
theorem s.zq5_30 (e : Ev) (Γ : Gam) (v0 v1 v2 v3 : V) : stp e Γ 104 30 [v0, v1, v2, v3] = y.zq5_30 Γ v0 v1 v2 v3 := by kernel_rfl
theorem w.zq5_30 (e : Ev) (v0 v1 v2 v3 : V) : vl e 104 30 [v0, v1, v2, v3] = y.zq5_30 (vl e) v0 v1 v2 v3 := Zac (s.zq5_30 e _ v0 v1 v2 v3)
noncomputable def y.zq9 (Γ : Gam) (v0 v1 : V) : Option V :=
 pr (.i2i .u64) [v1] fun v2=>pr (.bin .and .no) [v2, .int .u64 31] fun v3=>pr (.bin .shl .no) [v0, v3] fun v4=>pr (.bin .sub .no) [.int .u64 32, v3] fun v5=>pr (.bin .shr .no) [v0, v5] fun v6=>pr (.bin .or .no) [v4, v6] fun v7=>some v7
theorem s.zq9 (e : Ev) (Γ : Gam) (v0 v1 : V) : stp e Γ 108 0 [v0, v1] = y.zq9 Γ v0 v1 := by kernel_rfl
theorem w.zq9 (e : Ev) (v0 v1 : V) : vl e 108 0 [v0, v1] = y.zq9 (vl e) v0 v1 := Zac (s.zq9 e _ v0 v1)
noncomputable def y.zq6 (Γ : Gam) (v0 v1 : V) : Option V :=
 pr (.len true) [v0] fun v2=>pr (.bin .sub .no) [v2, .int .i64 1] fun v3=>Γ 116 8 [v0, v1, v3]
theorem s.zq6 (e : Ev) (Γ : Gam) (v0 v1 : V) : stp e Γ 116 0 [v0, v1] = y.zq6 Γ v0 v1 := by kernel_rfl
theorem w.zq6 (e : Ev) (v0 v1 : V) : vl e 116 0 [v0, v1] = y.zq6 (vl e) v0 v1 := Zac (s.zq6 e _ v0 v1)
noncomputable def y.zq6_8 (Γ : Gam) (v0 v1 v2 : V) : Option V :=
 pr (.bin .geq .no) [v2, .int .i64 0] fun v3=>vif v3 (pr .idx [v0, v2] fun v4=>pr (.bin .eql .no) [v4, v1] fun v5=>vif v5 (some v2) (pr (.bin .sub .no) [v2, .int .i64 1] fun v6=>Γ 116 8 [v0, v1, v6])) (some (.int .i64 (-1)))
theorem s.zq6_8 (e : Ev) (Γ : Gam) (v0 v1 v2 : V) : stp e Γ 116 8 [v0, v1, v2] = y.zq6_8 Γ v0 v1 v2 := by kernel_rfl
theorem w.zq6_8 (e : Ev) (v0 v1 v2 : V) : vl e 116 8 [v0, v1, v2] = y.zq6_8 (vl e) v0 v1 v2 := Zac (s.zq6_8 e _ v0 v1 v2)
noncomputable def y.zq58 (Γ : Gam) (v0 : V) : Option V :=
 pr (.len false) [v0] fun v1=>Γ 17 10 [.sl false 1 [], v0, v1, .int .i64 0]
theorem s.zq58 (e : Ev) (Γ : Gam) (v0 : V) : stp e Γ 17 0 [v0] = y.zq58 Γ v0 := by kernel_rfl
theorem w.zq58 (e : Ev) (v0 : V) : vl e 17 0 [v0] = y.zq58 (vl e) v0 := Zac (s.zq58 e _ v0)
noncomputable def y.zq58_10 (Γ : Gam) (v0 v1 v2 v3 : V) : Option V :=
 pr (.bin .lss .no) [v3, v2] fun v4=>vif v4 (pr (.elem 34) [v1, v3] fun v5=>pr (.ld (some 34) 0) [v5] fun v6=>pr (.cat [some 34]) [v6] fun v7=>pr (.ld none 1) [v7] fun v8=>vif v8 (pr (.bsl 1) [.str [116, 114, 101, 101]] fun v9=>pr (.app 1) [v0, v9] fun v10=>pr (.ld none 0) [v7] fun v11=>pr (.b2so 2 32) [v7] fun v12=>pr (.bsl 1) [v11, v12] fun v13=>pr (.app 1) [v10, v13] fun v14=>pr (.bin .add .no) [v3, .int .i64 1] fun v15=>Γ 17 10 [v14, v1, v2, v15]) (pr (.bsl 1) [.str [98, 108, 111, 98]] fun v9=>pr (.app 1) [v0, v9] fun v10=>pr (.ld none 0) [v7] fun v11=>pr (.b2so 2 32) [v7] fun v12=>pr (.bsl 1) [v11, v12] fun v13=>pr (.app 1) [v10, v13] fun v14=>pr (.bin .add .no) [v3, .int .i64 1] fun v15=>Γ 17 10 [v14, v1, v2, v15])) (ca Γ 43 [v0] fun v5=>some v5)
theorem s.zq58_10 (e : Ev) (Γ : Gam) (v0 v1 v2 v3 : V) : stp e Γ 17 10 [v0, v1, v2, v3] = y.zq58_10 Γ v0 v1 v2 v3 := by kernel_rfl
theorem w.zq58_10 (e : Ev) (v0 v1 v2 v3 : V) : vl e 17 10 [v0, v1, v2, v3] = y.zq58_10 (vl e) v0 v1 v2 v3 := Zac (s.zq58_10 e _ v0 v1 v2 v3)
noncomputable def y.zq51 (Γ : Gam) (v0 : V) : Option V :=
 ca Γ 50 [v0] fun v1=>pr (.len false) [v1] fun v2=>Γ 29 10 [v0, v1, v1, v2, .int .i64 0]
theorem s.zq51 (e : Ev) (Γ : Gam) (v0 : V) : stp e Γ 29 0 [v0] = y.zq51 Γ v0 := by kernel_rfl
theorem w.zq51 (e : Ev) (v0 : V) : vl e 29 0 [v0] = y.zq51 (vl e) v0 := Zac (s.zq51 e _ v0)
noncomputable def y.zq51_10 (Γ : Gam) (v0 v1 v2 v3 v4 : V) : Option V :=
 pr (.bin .lss .no) [v4, v3] fun v5=>vif v5 (pr (.elem 1) [v2, v4] fun v6=>pr (.ld none 0) [v6] fun v7=>ca Γ 51 [v7] fun v8=>pr (.un .not) [v8] fun v9=>vif v9 (some (.bool false)) (pr (.bin .add .no) [v4, .int .i64 1] fun v10=>Γ 29 10 [v0, v1, v2, v3, v10])) (pr (.len true) [v0] fun v6=>pr (.bin .leq .no) [v6, .int .i64 128] fun v7=>vif v7 (pr (.len false) [v1] fun v8=>pr (.bin .leq .no) [v8, .int .i64 16] fun v9=>some v9) (some (.bool false)))
theorem s.zq51_10 (e : Ev) (Γ : Gam) (v0 v1 v2 v3 v4 : V) : stp e Γ 29 10 [v0, v1, v2, v3, v4] = y.zq51_10 Γ v0 v1 v2 v3 v4 := by kernel_rfl
theorem w.zq51_10 (e : Ev) (v0 v1 v2 v3 v4 : V) : vl e 29 10 [v0, v1, v2, v3, v4] = y.zq51_10 (vl e) v0 v1 v2 v3 v4 := Zac (s.zq51_10 e _ v0 v1 v2 v3 v4)
noncomputable def y.zq18 (Γ : Gam) (v0 : V) : Option V :=
 pr (.len true) [v0] fun v1=>pr (.bin .gtr .no) [v1, .int .i64 128] fun v2=>vif v2 (some (.bool false)) (ca Γ 56 [v0, .str [47]] fun v3=>pr (.len false) [v3] fun v4=>pr (.bin .leq .no) [v4, .int .i64 16] fun v5=>vif v5 (ca Γ 57 [v3, .fn 58 []] fun v6=>pr (.un .not) [v6] fun v7=>some v7) (some (.bool false)))
theorem s.zq18 (e : Ev) (Γ : Gam) (v0 : V) : stp e Γ 37 0 [v0] = y.zq18 Γ v0 := by kernel_rfl
theorem w.zq18 (e : Ev) (v0 : V) : vl e 37 0 [v0] = y.zq18 (vl e) v0 := Zac (s.zq18 e _ v0)
noncomputable def y.zq13 (Γ : Gam) (v0 : V) : Option V :=
 ca Γ 63 [v0] fun v1=>pr (.un .not) [v1] fun v2=>vif v2 (some (.tup [.str [], .int .i64 1])) (pr (.len false) [v0] fun v3=>Γ 41 18 [.sl false 1 [], v0, v3, .int .i64 0])
theorem s.zq13 (e : Ev) (Γ : Gam) (v0 : V) : stp e Γ 41 0 [v0] = y.zq13 Γ v0 := by kernel_rfl
theorem w.zq13 (e : Ev) (v0 : V) : vl e 41 0 [v0] = y.zq13 (vl e) v0 := Zac (s.zq13 e _ v0)
noncomputable def y.zq13_18 (Γ : Gam) (v0 v1 v2 v3 : V) : Option V :=
 pr (.bin .lss .no) [v3, v2] fun v4=>vif v4 (pr (.elem 34) [v1, v3] fun v5=>pr (.ld (some 34) 0) [v5] fun v6=>pr (.cat [some 34]) [v6] fun v7=>pr (.ld none 1) [v7] fun v8=>vif v8 (pr (.ld none 0) [v7] fun v9=>pr (.b2so 2 32) [v7] fun v10=>pr (.bsl 1) [.str [116, 114, 101, 101], v9, v10] fun v11=>pr (.app 1) [v0, v11] fun v12=>pr (.bin .add .no) [v3, .int .i64 1] fun v13=>Γ 41 18 [v12, v1, v2, v13]) (pr (.ld none 0) [v7] fun v9=>pr (.b2so 2 32) [v7] fun v10=>pr (.bsl 1) [.str [98, 108, 111, 98], v9, v10] fun v11=>pr (.app 1) [v0, v11] fun v12=>pr (.bin .add .no) [v3, .int .i64 1] fun v13=>Γ 41 18 [v12, v1, v2, v13])) (ca Γ 64 [v0] fun v5=>some (.tup [v5, .int .i64 0]))
theorem s.zq13_18 (e : Ev) (Γ : Gam) (v0 v1 v2 v3 : V) : stp e Γ 41 18 [v0, v1, v2, v3] = y.zq13_18 Γ v0 v1 v2 v3 := by kernel_rfl
theorem w.zq13_18 (e : Ev) (v0 v1 v2 v3 : V) : vl e 41 18 [v0, v1, v2, v3] = y.zq13_18 (vl e) v0 v1 v2 v3 := Zac (s.zq13_18 e _ v0 v1 v2 v3)
noncomputable def y.zq67 (Γ : Gam) (v0 v1 : V) : Option V :=
 ca Γ 75 [v0, v1] fun v2=>pr (.bin .geq .no) [v2, .int .i64 0] fun v3=>some v3
theorem s.zq67 (e : Ev) (Γ : Gam) (v0 v1 : V) : stp e Γ 57 0 [v0, v1] = y.zq67 Γ v0 v1 := by kernel_rfl
theorem w.zq67 (e : Ev) (v0 v1 : V) : vl e 57 0 [v0, v1] = y.zq67 (vl e) v0 v1 := Zac (s.zq67 e _ v0 v1)
noncomputable def y.zq20 (Γ : Gam) (v0 : V) : Option V :=
 ch Γ 11280 [v0] fun v1=>pr (.ext 0) [v1] fun v2=>pr (.ext 1) [v1] fun v3=>ch Γ 11264 [v2, .fn 81 [], v3] fun v4=>pr (.ext 0) [v4] fun v5=>pr (.ext 1) [v4] fun v6=>pr .snapx [v6, v5] fun v7=>ca Γ 78 [v7, .str [47]] fun v8=>pr .flr [v8] fun v9=>some v9
theorem s.zq20 (e : Ev) (Γ : Gam) (v0 : V) : stp e Γ 61 0 [v0] = y.zq20 Γ v0 := by kernel_rfl
theorem w.zq20 (e : Ev) (v0 : V) : vl e 61 0 [v0] = y.zq20 (vl e) v0 := Zac (s.zq20 e _ v0)
noncomputable def y.zq42 (Γ : Gam) (v0 : V) : Option V :=
 pr (.i2i .u64) [v0] fun v1=>Γ 65 12 [v1, .str [], .int .i64 0]
theorem s.zq42 (e : Ev) (Γ : Gam) (v0 : V) : stp e Γ 65 0 [v0] = y.zq42 Γ v0 := by kernel_rfl
theorem w.zq42 (e : Ev) (v0 : V) : vl e 65 0 [v0] = y.zq42 (vl e) v0 := Zac (s.zq42 e _ v0)
noncomputable def y.zq42_12 (Γ : Gam) (v0 v1 v2 : V) : Option V :=
 pr (.bin .lss .no) [v2, .int .i64 8] fun v3=>vif v3 (pr (.bin .rem .no) [v0, .int .u64 256] fun v4=>pr (.i2i .u8) [v4] fun v5=>pr (.bsl 1) [v5] fun v6=>pr .b2s [v6] fun v7=>pr (.bin .add .no) [v7, v1] fun v8=>pr (.bin .quo .no) [v0, .int .u64 256] fun v9=>pr (.bin .add .no) [v2, .int .i64 1] fun v10=>Γ 65 12 [v9, v8, v10]) (some v1)
theorem s.zq42_12 (e : Ev) (Γ : Gam) (v0 v1 v2 : V) : stp e Γ 65 12 [v0, v1, v2] = y.zq42_12 Γ v0 v1 v2 := by kernel_rfl
theorem w.zq42_12 (e : Ev) (v0 v1 v2 : V) : vl e 65 12 [v0, v1, v2] = y.zq42_12 (vl e) v0 v1 v2 := Zac (s.zq42_12 e _ v0 v1 v2)
end Go.Proofs.YtpmgdngjbdkdfaaGreatDoor
namespace Go.Proofs.YtpmgdngjbdkdfaaGreatDoor
open Go.Abs
noncomputable def y.zq52 (Γ : Gam) (v0 : V) : Option V :=
 pr (.len false) [v0] fun v1=>Γ 69 10 [.str [], v0, v1, .int .i64 0]
theorem s.zq52 (e : Ev) (Γ : Gam) (v0 : V) : stp e Γ 69 0 [v0] = y.zq52 Γ v0 := by kernel_rfl
theorem w.zq52 (e : Ev) (v0 : V) : vl e 69 0 [v0] = y.zq52 (vl e) v0 := Zac (s.zq52 e _ v0)
noncomputable def y.zq52_10 (Γ : Gam) (v0 v1 v2 v3 : V) : Option V :=
 pr (.bin .lss .no) [v3, v2] fun v4=>vif v4 (pr (.elem 1) [v1, v3] fun v5=>pr (.ld none 0) [v5] fun v6=>pr (.bin .neq .no) [v6, .str []] fun v7=>vif v7 (pr (.bin .neq .no) [v0, .str []] fun v8=>vif v8 (pr (.bin .add .no) [v0, .str [47]] fun v9=>pr (.bin .add .no) [v9, v6] fun v10=>pr (.bin .add .no) [v3, .int .i64 1] fun v11=>Γ 69 10 [v10, v1, v2, v11]) (pr (.bin .add .no) [v0, v6] fun v9=>pr (.bin .add .no) [v3, .int .i64 1] fun v10=>Γ 69 10 [v9, v1, v2, v10])) (pr (.bin .add .no) [v0, v6] fun v8=>pr (.bin .add .no) [v3, .int .i64 1] fun v9=>Γ 69 10 [v8, v1, v2, v9])) (some v0)
theorem s.zq52_10 (e : Ev) (Γ : Gam) (v0 v1 v2 v3 : V) : stp e Γ 69 10 [v0, v1, v2, v3] = y.zq52_10 Γ v0 v1 v2 v3 := by kernel_rfl
theorem w.zq52_10 (e : Ev) (v0 v1 v2 v3 : V) : vl e 69 10 [v0, v1, v2, v3] = y.zq52_10 (vl e) v0 v1 v2 v3 := Zac (s.zq52_10 e _ v0 v1 v2 v3)
noncomputable def y.zq21 (Γ : Gam) (v0 : V) : Option V :=
 pr (.bin .eql .no) [v0, .str []] fun v1=>some v1
theorem s.zq21 (e : Ev) (Γ : Gam) (v0 : V) : stp e Γ 81 0 [v0] = y.zq21 Γ v0 := by kernel_rfl
theorem w.zq21 (e : Ev) (v0 : V) : vl e 81 0 [v0] = y.zq21 (vl e) v0 := Zac (s.zq21 e _ v0)
noncomputable def y.zq17 (Γ : Gam) (v0 : V) : Option V :=
 ca Γ 103 [v0, .int .u8 47] fun v1=>pr (.mnx true) [v1, .int .i64 0] fun v2=>pr (.sls false true) [v0, v2] fun v3=>some v3
theorem s.zq17 (e : Ev) (Γ : Gam) (v0 : V) : stp e Γ 85 0 [v0] = y.zq17 Γ v0 := by kernel_rfl
theorem w.zq17 (e : Ev) (v0 : V) : vl e 85 0 [v0] = y.zq17 (vl e) v0 := Zac (s.zq17 e _ v0)
noncomputable def y.zq59 (Γ : Gam) (v0 : V) : Option V :=
 Γ 89 10 [v0, .int .i64 0, (.agg (repl 32 (.int .u8 0))), (.agg (repl 32 (.int .u8 0)))]
theorem s.zq59 (e : Ev) (Γ : Gam) (v0 : V) : stp e Γ 89 0 [v0] = y.zq59 Γ v0 := by kernel_rfl
theorem w.zq59 (e : Ev) (v0 : V) : vl e 89 0 [v0] = y.zq59 (vl e) v0 := Zac (s.zq59 e _ v0)
noncomputable def y.zq59_10 (Γ : Gam) (v0 v1 v2 v3 : V) : Option V :=
 pr (.bin .lss .no) [v1, .int .i64 32] fun v4=>vif v4 (pr .idx [v0, v1] fun v5=>pr (.chk 32) [v1] fun v6=>pr (.std 1 0 1) [v3, v6, v5] fun v7=>pr (.bin .add .no) [v1, .int .i64 1] fun v8=>Γ 89 10 [v0, v8, v2, v7]) (pr (.cat [some 32]) [v3] fun v5=>some v5)
theorem s.zq59_10 (e : Ev) (Γ : Gam) (v0 v1 v2 v3 : V) : stp e Γ 89 10 [v0, v1, v2, v3] = y.zq59_10 Γ v0 v1 v2 v3 := by kernel_rfl
theorem w.zq59_10 (e : Ev) (v0 v1 v2 v3 : V) : vl e 89 10 [v0, v1, v2, v3] = y.zq59_10 (vl e) v0 v1 v2 v3 := Zac (s.zq59_10 e _ v0 v1 v2 v3)
noncomputable def y.zq50 (Γ : Gam) (v0 v1 : V) : Option V :=
 pr (.bin .shr .no) [v0, v1] fun v2=>pr (.bin .sub .no) [.int .u64 32, v1] fun v3=>pr (.bin .shl .no) [v0, v3] fun v4=>pr (.bin .or .no) [v2, v4] fun v5=>some v5
theorem s.zq50 (e : Ev) (Γ : Gam) (v0 v1 : V) : stp e Γ 101 0 [v0, v1] = y.zq50 Γ v0 v1 := by kernel_rfl
theorem w.zq50 (e : Ev) (v0 v1 : V) : vl e 101 0 [v0, v1] = y.zq50 (vl e) v0 v1 := Zac (s.zq50 e _ v0 v1)
noncomputable def y.zq15 (Γ : Gam) (v0 : V) : Option V :=
 pr (.len true) [v0] fun v1=>pr (.bin .neq .no) [v1, .int .i64 32] fun v2=>vif v2 (pr (.cat []) [] fun v3=>pr (.cat [some 32]) [(.agg (repl 32 (.int .u8 0)))] fun v4=>some (.tup [v4, .bool false])) (pr .s2b [v0] fun v3=>pr (.s2a 32) [v3] fun v4=>pr (.ld (some 32) 0) [v4] fun v5=>pr (.cat [some 32]) [v5] fun v6=>some (.tup [v6, .bool true]))
theorem s.zq15 (e : Ev) (Γ : Gam) (v0 : V) : stp e Γ 105 0 [v0] = y.zq15 Γ v0 := by kernel_rfl
theorem w.zq15 (e : Ev) (v0 : V) : vl e 105 0 [v0] = y.zq15 (vl e) v0 := Zac (s.zq15 e _ v0)
noncomputable def y.zq4 (Γ : Gam) (v0 : V) : Option V :=
 pr (.len true) [v0] fun v1=>pr (.bin .lss .no) [v1, .int .i64 8] fun v2=>vif v2 (some (.tup [.int .i64 0, .bool false])) (Γ 117 18 [v0, .int .u64 0, .int .i64 0])
theorem s.zq4 (e : Ev) (Γ : Gam) (v0 : V) : stp e Γ 117 0 [v0] = y.zq4 Γ v0 := by kernel_rfl
theorem w.zq4 (e : Ev) (v0 : V) : vl e 117 0 [v0] = y.zq4 (vl e) v0 := Zac (s.zq4 e _ v0)
noncomputable def y.zq4_18 (Γ : Gam) (v0 v1 v2 : V) : Option V :=
 pr (.bin .lss .no) [v2, .int .i64 8] fun v3=>vif v3 (pr (.bin .shl .no) [v1, .int .u64 8] fun v4=>pr .idx [v0, v2] fun v5=>pr (.i2i .u64) [v5] fun v6=>pr (.bin .or .no) [v4, v6] fun v7=>pr (.bin .add .no) [v2, .int .i64 1] fun v8=>Γ 117 18 [v0, v7, v8]) (pr (.i2i .i64) [v1] fun v4=>some (.tup [v4, .bool true]))
theorem s.zq4_18 (e : Ev) (Γ : Gam) (v0 v1 v2 : V) : stp e Γ 117 18 [v0, v1, v2] = y.zq4_18 Γ v0 v1 v2 := by kernel_rfl
theorem w.zq4_18 (e : Ev) (v0 v1 v2 : V) : vl e 117 18 [v0, v1, v2] = y.zq4_18 (vl e) v0 v1 v2 := Zac (s.zq4_18 e _ v0 v1 v2)
noncomputable def y.zq10 (Γ : Gam) (v0 : V) : Option V :=
 pr (.bsl 1) [v0] fun v1=>ca Γ 46 [.str [98, 108, 111, 98], v1] fun v2=>pr (.cat [some 32]) [v2] fun v3=>some v3
theorem s.zq10 (e : Ev) (Γ : Gam) (v0 : V) : stp e Γ 22 0 [v0] = y.zq10 Γ v0 := by kernel_rfl
theorem w.zq10 (e : Ev) (v0 : V) : vl e 22 0 [v0] = y.zq10 (vl e) v0 := Zac (s.zq10 e _ v0)
noncomputable def y.zq14 (Γ : Gam) (v0 : V) : Option V :=
 pr (.bsl 1) [v0] fun v1=>ca Γ 46 [.str [116, 114, 101, 101], v1] fun v2=>pr (.cat [some 32]) [v2] fun v3=>some v3
theorem s.zq14 (e : Ev) (Γ : Gam) (v0 : V) : stp e Γ 42 0 [v0] = y.zq14 Γ v0 := by kernel_rfl
theorem w.zq14 (e : Ev) (v0 : V) : vl e 42 0 [v0] = y.zq14 (vl e) v0 := Zac (s.zq14 e _ v0)
noncomputable def y.zq62 (Γ : Gam) (v0 v1 : V) : Option V :=
 pr (.bsl 1) [v0] fun v2=>pr (.app 1) [v2, v1] fun v3=>ca Γ 64 [v3] fun v4=>ca Γ 70 [v4] fun v5=>pr (.cat [some 32]) [v5] fun v6=>some v6
theorem s.zq62 (e : Ev) (Γ : Gam) (v0 v1 : V) : stp e Γ 46 0 [v0, v1] = y.zq62 Γ v0 v1 := by kernel_rfl
theorem w.zq62 (e : Ev) (v0 v1 : V) : vl e 46 0 [v0, v1] = y.zq62 (vl e) v0 v1 := Zac (s.zq62 e _ v0 v1)
noncomputable def y.zq54 (Γ : Gam) (v0 : V) : Option V :=
 Γ 50 12 [v0, .sl false 1 [], .int .i64 0, .int .i64 0]
theorem s.zq54 (e : Ev) (Γ : Gam) (v0 : V) : stp e Γ 50 0 [v0] = y.zq54 Γ v0 := by kernel_rfl
theorem w.zq54 (e : Ev) (v0 : V) : vl e 50 0 [v0] = y.zq54 (vl e) v0 := Zac (s.zq54 e _ v0)
noncomputable def y.zq54_12 (Γ : Gam) (v0 v1 v2 v3 : V) : Option V :=
 pr (.len true) [v0] fun v4=>pr (.bin .leq .no) [v3, v4] fun v5=>vif v5 (pr (.len true) [v0] fun v6=>pr (.bin .eql .no) [v3, v6] fun v7=>vif v7 (pr (.sls true true) [v0, v2, v3] fun v8=>pr (.bsl 1) [v8] fun v9=>pr (.app 1) [v1, v9] fun v10=>pr (.bin .add .no) [v3, .int .i64 1] fun v11=>pr (.bin .add .no) [v3, .int .i64 1] fun v12=>Γ 50 12 [v0, v10, v11, v12]) (pr .idx [v0, v3] fun v8=>pr (.bin .eql .no) [v8, .int .u8 47] fun v9=>vif v9 (pr (.sls true true) [v0, v2, v3] fun v10=>pr (.bsl 1) [v10] fun v11=>pr (.app 1) [v1, v11] fun v12=>pr (.bin .add .no) [v3, .int .i64 1] fun v13=>pr (.bin .add .no) [v3, .int .i64 1] fun v14=>Γ 50 12 [v0, v12, v13, v14]) (pr (.bin .add .no) [v3, .int .i64 1] fun v10=>Γ 50 12 [v0, v1, v2, v10]))) (some v1)
theorem s.zq54_12 (e : Ev) (Γ : Gam) (v0 v1 v2 v3 : V) : stp e Γ 50 12 [v0, v1, v2, v3] = y.zq54_12 Γ v0 v1 v2 v3 := by kernel_rfl
theorem w.zq54_12 (e : Ev) (v0 v1 v2 v3 : V) : vl e 50 12 [v0, v1, v2, v3] = y.zq54_12 (vl e) v0 v1 v2 v3 := Zac (s.zq54_12 e _ v0 v1 v2 v3)
noncomputable def y.zq19 (Γ : Gam) (v0 : V) : Option V :=
 ca Γ 59 [v0] fun v1=>pr (.un .not) [v1] fun v2=>some v2
theorem s.zq19 (e : Ev) (Γ : Gam) (v0 : V) : stp e Γ 58 0 [v0] = y.zq19 Γ v0 := by kernel_rfl
theorem w.zq19 (e : Ev) (v0 : V) : vl e 58 0 [v0] = y.zq19 (vl e) v0 := Zac (s.zq19 e _ v0)
noncomputable def y.zq47 (Γ : Gam) (v0 : V) : Option V :=
 pr (.cat [none, none, none, none, none, none, none, none]) [.int .u32 1779033703, .int .u32 3144134277, .int .u32 1013904242, .int .u32 2773480762, .int .u32 1359893119, .int .u32 2600822924, .int .u32 528734635, .int .u32 1541459225] fun v1=>ca Γ 82 [v0] fun v2=>ca Γ 83 [] fun v3=>pr (.cat [some 64]) [v3] fun v4=>Γ 62 14 [v2, .int .i64 0, (.agg (repl 32 (.int .u8 0))), v1, v4]
theorem s.zq47 (e : Ev) (Γ : Gam) (v0 : V) : stp e Γ 62 0 [v0] = y.zq47 Γ v0 := by kernel_rfl
theorem w.zq47 (e : Ev) (v0 : V) : vl e 62 0 [v0] = y.zq47 (vl e) v0 := Zac (s.zq47 e _ v0)
noncomputable def y.zq47_14 (Γ : Gam) (v0 v1 v2 v3 v4 : V) : Option V :=
 pr (.len false) [v0] fun v5=>pr (.bin .lss .no) [v1, v5] fun v6=>vif v6 (pr (.bin .add .no) [v1, .int .i64 64] fun v7=>pr (.slc 1 true true false) [v0, v1, v7] fun v8=>ca Γ 84 [v3, v8, v4] fun v9=>pr (.cat [some 8]) [v9] fun v10=>pr (.bin .add .no) [v1, .int .i64 64] fun v11=>Γ 62 14 [v0, v11, v2, v10, v4]) (Γ 62 31 [v3, .int .i64 0, v2, (.agg (repl 32 (.int .u8 0)))])
theorem s.zq47_14 (e : Ev) (Γ : Gam) (v0 v1 v2 v3 v4 : V) : stp e Γ 62 14 [v0, v1, v2, v3, v4] = y.zq47_14 Γ v0 v1 v2 v3 v4 := by kernel_rfl
theorem w.zq47_14 (e : Ev) (v0 v1 v2 v3 v4 : V) : vl e 62 14 [v0, v1, v2, v3, v4] = y.zq47_14 (vl e) v0 v1 v2 v3 v4 := Zac (s.zq47_14 e _ v0 v1 v2 v3 v4)
noncomputable def y.zq47_31 (Γ : Gam) (v0 v1 v2 v3 : V) : Option V :=
 pr (.bin .lss .no) [v1, .int .i64 8] fun v4=>vif v4 (pr (.idxa 8 1 none) [v0, v1] fun v5=>Γ 62 45 [v1, v5, .int .i64 0, v0, v1, v2, v3]) (pr (.cat [some 32]) [v3] fun v5=>some v5)
theorem s.zq47_31 (e : Ev) (Γ : Gam) (v0 v1 v2 v3 : V) : stp e Γ 62 31 [v0, v1, v2, v3] = y.zq47_31 Γ v0 v1 v2 v3 := by kernel_rfl
theorem w.zq47_31 (e : Ev) (v0 v1 v2 v3 : V) : vl e 62 31 [v0, v1, v2, v3] = y.zq47_31 (vl e) v0 v1 v2 v3 := Zac (s.zq47_31 e _ v0 v1 v2 v3)
noncomputable def y.zq47_45 (Γ : Gam) (v0 v1 v2 v3 v4 v5 v6 : V) : Option V :=
 pr (.bin .lss .no) [v2, .int .i64 4] fun v7=>vif v7 (pr (.bin .mul .no) [.int .i64 4, v0] fun v8=>pr (.bin .add .no) [v8, v2] fun v9=>pr (.bin .mul .no) [.int .i64 8, v2] fun v10=>pr (.bin .sub .no) [.int .i64 24, v10] fun v11=>pr (.i2i .u64) [v11] fun v12=>pr (.bin .shr .no) [v1, v12] fun v13=>pr (.i2i .u8) [v13] fun v14=>pr (.chk 32) [v9] fun v15=>pr (.std 1 0 1) [v6, v15, v14] fun v16=>pr (.bin .add .no) [v2, .int .i64 1] fun v17=>Γ 62 45 [v0, v1, v17, v3, v4, v5, v16]) (pr (.bin .add .no) [v4, .int .i64 1] fun v8=>Γ 62 31 [v3, v8, v5, v6])
theorem s.zq47_45 (e : Ev) (Γ : Gam) (v0 v1 v2 v3 v4 v5 v6 : V) : stp e Γ 62 45 [v0, v1, v2, v3, v4, v5, v6] = y.zq47_45 Γ v0 v1 v2 v3 v4 v5 v6 := by kernel_rfl
theorem w.zq47_45 (e : Ev) (v0 v1 v2 v3 v4 v5 v6 : V) : vl e 62 45 [v0, v1, v2, v3, v4, v5, v6] = y.zq47_45 (vl e) v0 v1 v2 v3 v4 v5 v6 := Zac (s.zq47_45 e _ v0 v1 v2 v3 v4 v5 v6)
noncomputable def y.zq61 (Γ : Gam) (v0 : V) : Option V :=
 pr (.cat [none, none, none, none, none, none, none, none]) [.int .u32 1779033703, .int .u32 3144134277, .int .u32 1013904242, .int .u32 2773480762, .int .u32 1359893119, .int .u32 2600822924, .int .u32 528734635, .int .u32 1541459225] fun v1=>Γ 70 12 [v0, v0, (.agg (repl 32 (.int .u8 0))), v1, (.agg (repl 64 (.int .u8 0)))]
theorem s.zq61 (e : Ev) (Γ : Gam) (v0 : V) : stp e Γ 70 0 [v0] = y.zq61 Γ v0 := by kernel_rfl
theorem w.zq61 (e : Ev) (v0 : V) : vl e 70 0 [v0] = y.zq61 (vl e) v0 := Zac (s.zq61 e _ v0)
noncomputable def y.zq61_12 (Γ : Gam) (v0 v1 v2 v3 v4 : V) : Option V :=
 pr (.len true) [v1] fun v5=>pr (.bin .geq .no) [v5, .int .i64 64] fun v6=>vif v6 (pr (.cpya 0 64) [v4, v1] fun v7=>pr (.cpyn 64) [v1] fun v8=>ch Γ 11456 [v3, v7] fun v9=>pr (.ext 0) [v9] fun v10=>pr (.ext 1) [v9] fun v11=>pr (.sls true false) [v1, .int .i64 64] fun v12=>Γ 70 12 [v0, v12, v2, v10, v11]) (pr (.clra (.int .u8 0) 0 64) [v4] fun v7=>pr (.cpya 0 64) [v7, v1] fun v8=>pr (.cpyn 64) [v1] fun v9=>pr (.len true) [v1] fun v10=>pr (.chk 64) [v10] fun v11=>pr (.std 1 0 1) [v8, v11, .int .u8 128] fun v12=>pr (.len true) [v1] fun v13=>pr (.bin .geq .no) [v13, .int .i64 56] fun v14=>vif v14 (ch Γ 11456 [v3, v12] fun v15=>pr (.ext 0) [v15] fun v16=>pr (.ext 1) [v15] fun v17=>pr (.clra (.int .u8 0) 0 64) [v17] fun v18=>Γ 70 39 [v0, v2, v16, v18]) (Γ 70 39 [v0, v2, v3, v12]))
theorem s.zq61_12 (e : Ev) (Γ : Gam) (v0 v1 v2 v3 v4 : V) : stp e Γ 70 12 [v0, v1, v2, v3, v4] = y.zq61_12 Γ v0 v1 v2 v3 v4 := by kernel_rfl
theorem w.zq61_12 (e : Ev) (v0 v1 v2 v3 v4 : V) : vl e 70 12 [v0, v1, v2, v3, v4] = y.zq61_12 (vl e) v0 v1 v2 v3 v4 := Zac (s.zq61_12 e _ v0 v1 v2 v3 v4)
noncomputable def y.zq61_39 (Γ : Gam) (v0 v1 v2 v3 : V) : Option V :=
 Γ 70 43 [v0, .int .i64 0, v1, v2, v3]
theorem s.zq61_39 (e : Ev) (Γ : Gam) (v0 v1 v2 v3 : V) : stp e Γ 70 39 [v0, v1, v2, v3] = y.zq61_39 Γ v0 v1 v2 v3 := by kernel_rfl
theorem w.zq61_39 (e : Ev) (v0 v1 v2 v3 : V) : vl e 70 39 [v0, v1, v2, v3] = y.zq61_39 (vl e) v0 v1 v2 v3 := Zac (s.zq61_39 e _ v0 v1 v2 v3)
noncomputable def y.zq61_43 (Γ : Gam) (v0 v1 v2 v3 v4 : V) : Option V :=
 pr (.bin .lss .no) [v1, .int .i64 8] fun v5=>vif v5 (pr (.bin .add .no) [.int .i64 56, v1] fun v6=>pr (.len true) [v0] fun v7=>pr (.i2i .u64) [v7] fun v8=>pr (.bin .shl .no) [v8, .int .u64 3] fun v9=>pr (.bin .mul .no) [.int .i64 8, v1] fun v10=>pr (.bin .sub .no) [.int .i64 56, v10] fun v11=>pr (.bin .shr .no) [v9, v11] fun v12=>pr (.i2i .u8) [v12] fun v13=>pr (.chk 64) [v6] fun v14=>pr (.std 1 0 1) [v4, v14, v13] fun v15=>pr (.bin .add .no) [v1, .int .i64 1] fun v16=>Γ 70 43 [v0, v16, v2, v3, v15]) (ch Γ 11456 [v3, v4] fun v6=>pr (.ext 0) [v6] fun v7=>pr (.ext 1) [v6] fun v8=>Γ 70 64 [.int .i64 0, v2, v7, (.agg (repl 32 (.int .u8 0)))])
theorem s.zq61_43 (e : Ev) (Γ : Gam) (v0 v1 v2 v3 v4 : V) : stp e Γ 70 43 [v0, v1, v2, v3, v4] = y.zq61_43 Γ v0 v1 v2 v3 v4 := by kernel_rfl
theorem w.zq61_43 (e : Ev) (v0 v1 v2 v3 v4 : V) : vl e 70 43 [v0, v1, v2, v3, v4] = y.zq61_43 (vl e) v0 v1 v2 v3 v4 := Zac (s.zq61_43 e _ v0 v1 v2 v3 v4)
noncomputable def y.zq61_64 (Γ : Gam) (v0 v1 v2 v3 : V) : Option V :=
 pr (.bin .lss .no) [v0, .int .i64 32] fun v4=>vif v4 (pr (.bin .quo .no) [v0, .int .i64 4] fun v5=>pr (.chk 8) [v5] fun v6=>pr (.ldd none 0 1) [v2, v6] fun v7=>pr (.bin .rem .no) [v0, .int .i64 4] fun v8=>pr (.bin .mul .no) [.int .i64 8, v8] fun v9=>pr (.bin .sub .no) [.int .i64 24, v9] fun v10=>pr (.bin .shr .no) [v7, v10] fun v11=>pr (.i2i .u8) [v11] fun v12=>pr (.chk 32) [v0] fun v13=>pr (.std 1 0 1) [v3, v13, v12] fun v14=>pr (.bin .add .no) [v0, .int .i64 1] fun v15=>Γ 70 64 [v15, v1, v2, v14]) (pr (.cat [some 32]) [v3] fun v5=>some v5)
theorem s.zq61_64 (e : Ev) (Γ : Gam) (v0 v1 v2 v3 : V) : stp e Γ 70 64 [v0, v1, v2, v3] = y.zq61_64 Γ v0 v1 v2 v3 := by kernel_rfl
theorem w.zq61_64 (e : Ev) (v0 v1 v2 v3 : V) : vl e 70 64 [v0, v1, v2, v3] = y.zq61_64 (vl e) v0 v1 v2 v3 := Zac (s.zq61_64 e _ v0 v1 v2 v3)
noncomputable def y.zq48 (Γ : Gam) (v0 : V) : Option V :=
 pr (.bsl 1) [] fun v1=>pr (.app 1) [v1, v0] fun v2=>pr (.bsl 1) [.int .u8 128] fun v3=>pr (.app 1) [v2, v3] fun v4=>Γ 82 8 [v0, v4]
theorem s.zq48 (e : Ev) (Γ : Gam) (v0 : V) : stp e Γ 82 0 [v0] = y.zq48 Γ v0 := by kernel_rfl
theorem w.zq48 (e : Ev) (v0 : V) : vl e 82 0 [v0] = y.zq48 (vl e) v0 := Zac (s.zq48 e _ v0)
noncomputable def y.zq48_8 (Γ : Gam) (v0 v1 : V) : Option V :=
 pr (.len false) [v1] fun v2=>pr (.bin .rem .no) [v2, .int .i64 64] fun v3=>pr (.bin .neq .no) [v3, .int .i64 56] fun v4=>vif v4 (pr (.bsl 1) [.int .u8 0] fun v5=>pr (.app 1) [v1, v5] fun v6=>Γ 82 8 [v0, v6]) (pr (.len false) [v0] fun v5=>Γ 82 25 [v1, v5, .sl false 1 [], .int .i64 0])
theorem s.zq48_8 (e : Ev) (Γ : Gam) (v0 v1 : V) : stp e Γ 82 8 [v0, v1] = y.zq48_8 Γ v0 v1 := by kernel_rfl
theorem w.zq48_8 (e : Ev) (v0 v1 : V) : vl e 82 8 [v0, v1] = y.zq48_8 (vl e) v0 v1 := Zac (s.zq48_8 e _ v0 v1)
noncomputable def y.zq48_25 (Γ : Gam) (v0 v1 v2 v3 : V) : Option V :=
 pr (.bin .lss .no) [v3, .int .i64 8] fun v4=>vif v4 (pr (.bin .eql .no) [v3, .int .i64 0] fun v5=>vif v5 (pr (.bin .rem .no) [v1, .int .i64 32] fun v6=>pr (.bin .mul .no) [v6, .int .i64 8] fun v7=>pr (.i2i .u8) [v7] fun v8=>pr (.bsl 1) [v8] fun v9=>pr (.app 1) [v9, v2] fun v10=>pr (.bin .quo .no) [v1, .int .i64 32] fun v11=>pr (.bin .add .no) [v3, .int .i64 1] fun v12=>Γ 82 25 [v0, v11, v10, v12]) (pr (.bin .rem .no) [v1, .int .i64 256] fun v6=>pr (.i2i .u8) [v6] fun v7=>pr (.bsl 1) [v7] fun v8=>pr (.app 1) [v8, v2] fun v9=>pr (.bin .quo .no) [v1, .int .i64 256] fun v10=>pr (.bin .add .no) [v3, .int .i64 1] fun v11=>Γ 82 25 [v0, v10, v9, v11])) (pr (.app 1) [v0, v2] fun v5=>some v5)
theorem s.zq48_25 (e : Ev) (Γ : Gam) (v0 v1 v2 v3 : V) : stp e Γ 82 25 [v0, v1, v2, v3] = y.zq48_25 Γ v0 v1 v2 v3 := by kernel_rfl
theorem w.zq48_25 (e : Ev) (v0 v1 v2 v3 : V) : vl e 82 25 [v0, v1, v2, v3] = y.zq48_25 (vl e) v0 v1 v2 v3 := Zac (s.zq48_25 e _ v0 v1 v2 v3)
noncomputable def y.zq3 (Γ : Gam) (v0 : V) : Option V :=
 Γ 86 10 [v0, .int .i64 0, .agg [.int .u8 0, .int .u8 0, .int .u8 0, .int .u8 0, .int .u8 0, .int .u8 0, .int .u8 0, .int .u8 0]]
theorem s.zq3 (e : Ev) (Γ : Gam) (v0 : V) : stp e Γ 86 0 [v0] = y.zq3 Γ v0 := by kernel_rfl
theorem w.zq3 (e : Ev) (v0 : V) : vl e 86 0 [v0] = y.zq3 (vl e) v0 := Zac (s.zq3 e _ v0)
noncomputable def y.zq3_10 (Γ : Gam) (v0 v1 v2 : V) : Option V :=
 pr (.bin .lss .no) [v1, .int .i64 8] fun v3=>vif v3 (pr (.i2i .u64) [v0] fun v4=>pr (.bin .mul .no) [.int .i64 8, v1] fun v5=>pr (.bin .sub .no) [.int .i64 56, v5] fun v6=>pr (.bin .shr .no) [v4, v6] fun v7=>pr (.i2i .u8) [v7] fun v8=>pr (.chk 8) [v1] fun v9=>pr (.std 1 0 1) [v2, v9, v8] fun v10=>pr (.bin .add .no) [v1, .int .i64 1] fun v11=>Γ 86 10 [v0, v11, v10]) (pr (.b2so 0 8) [v2] fun v4=>some v4)
theorem s.zq3_10 (e : Ev) (Γ : Gam) (v0 v1 v2 : V) : stp e Γ 86 10 [v0, v1, v2] = y.zq3_10 Γ v0 v1 v2 := by kernel_rfl
theorem w.zq3_10 (e : Ev) (v0 v1 v2 : V) : vl e 86 10 [v0, v1, v2] = y.zq3_10 (vl e) v0 v1 v2 := Zac (s.zq3_10 e _ v0 v1 v2)
noncomputable def y.zq56 (Γ : Gam) (v0 : V) : Option V :=
 pr (.len false) [v0] fun v1=>Γ 90 8 [v0, v0, v1, .int .i64 0]
theorem s.zq56 (e : Ev) (Γ : Gam) (v0 : V) : stp e Γ 90 0 [v0] = y.zq56 Γ v0 := by kernel_rfl
theorem w.zq56 (e : Ev) (v0 : V) : vl e 90 0 [v0] = y.zq56 (vl e) v0 := Zac (s.zq56 e _ v0)
noncomputable def y.zq56_8 (Γ : Gam) (v0 v1 v2 v3 : V) : Option V :=
 pr (.bin .lss .no) [v3, v2] fun v4=>vif v4 (pr (.elem 34) [v1, v3] fun v5=>pr (.ld (some 34) 0) [v5] fun v6=>pr (.cat [some 34]) [v6] fun v7=>pr (.ld none 0) [v7] fun v8=>ca Γ 29 [v8] fun v9=>pr (.un .not) [v9] fun v10=>vif v10 (some (.bool false)) (pr (.ld none 0) [v7] fun v11=>ca Γ 50 [v11] fun v12=>pr (.len false) [v12] fun v13=>pr (.bin .neq .no) [v13, .int .i64 1] fun v14=>vif v14 (some (.bool false)) (pr (.bin .gtr .no) [v3, .int .i64 0] fun v15=>vif v15 (pr (.bin .sub .no) [v3, .int .i64 1] fun v16=>pr (.elem 34) [v0, v16] fun v17=>pr (.ld none 0) [v17] fun v18=>pr (.ld none 0) [v7] fun v19=>pr (.bin .geq .no) [v18, v19] fun v20=>vif v20 (some (.bool false)) (pr (.bin .add .no) [v3, .int .i64 1] fun v21=>Γ 90 8 [v0, v1, v2, v21])) (pr (.bin .add .no) [v3, .int .i64 1] fun v16=>Γ 90 8 [v0, v1, v2, v16])))) (pr (.len false) [v0] fun v5=>pr (.bin .leq .no) [v5, .int .i64 512] fun v6=>some v6)
theorem s.zq56_8 (e : Ev) (Γ : Gam) (v0 v1 v2 v3 : V) : stp e Γ 90 8 [v0, v1, v2, v3] = y.zq56_8 Γ v0 v1 v2 v3 := by kernel_rfl
theorem w.zq56_8 (e : Ev) (v0 v1 v2 v3 : V) : vl e 90 8 [v0, v1, v2, v3] = y.zq56_8 (vl e) v0 v1 v2 v3 := Zac (s.zq56_8 e _ v0 v1 v2 v3)
noncomputable def y.zq49 (Γ : Gam) (v0 v1 v2 v3 : V) : Option V :=
 ca Γ 101 [v0, v1] fun v4=>ca Γ 101 [v0, v2] fun v5=>pr (.bin .xor .no) [v4, v5] fun v6=>ca Γ 101 [v0, v3] fun v7=>pr (.bin .xor .no) [v6, v7] fun v8=>some v8
theorem s.zq49 (e : Ev) (Γ : Gam) (v0 v1 v2 v3 : V) : stp e Γ 102 0 [v0, v1, v2, v3] = y.zq49 Γ v0 v1 v2 v3 := by kernel_rfl
theorem w.zq49 (e : Ev) (v0 v1 v2 v3 : V) : vl e 102 0 [v0, v1, v2, v3] = y.zq49 (vl e) v0 v1 v2 v3 := Zac (s.zq49 e _ v0 v1 v2 v3)
noncomputable def y.zq44 (Γ : Gam) (v0 : V) : Option V :=
 pr (.len true) [v0] fun v1=>pr (.bin .lss .no) [v1, .int .i64 8] fun v2=>vif v2 (some (.tup [.int .i64 0, .bool false])) (Γ 106 18 [v0, .int .i64 0, .int .i64 0])
theorem s.zq44 (e : Ev) (Γ : Gam) (v0 : V) : stp e Γ 106 0 [v0] = y.zq44 Γ v0 := by kernel_rfl
theorem w.zq44 (e : Ev) (v0 : V) : vl e 106 0 [v0] = y.zq44 (vl e) v0 := Zac (s.zq44 e _ v0)
noncomputable def y.zq44_18 (Γ : Gam) (v0 v1 v2 : V) : Option V :=
 pr (.bin .lss .no) [v2, .int .i64 8] fun v3=>vif v3 (pr (.bin .gtr .no) [v1, .int .i64 1099511627776] fun v4=>vif v4 (some (.tup [.int .i64 0, .bool false])) (pr (.bin .mul .no) [.int .i64 256, v1] fun v5=>pr .idx [v0, v2] fun v6=>pr (.i2i .i64) [v6] fun v7=>pr (.bin .add .no) [v5, v7] fun v8=>pr (.bin .add .no) [v2, .int .i64 1] fun v9=>Γ 106 18 [v0, v8, v9])) (pr (.bin .leq .no) [v1, .int .i64 1099511627776] fun v4=>some (.tup [v1, v4]))
theorem s.zq44_18 (e : Ev) (Γ : Gam) (v0 v1 v2 : V) : stp e Γ 106 18 [v0, v1, v2] = y.zq44_18 Γ v0 v1 v2 := by kernel_rfl
theorem w.zq44_18 (e : Ev) (v0 v1 v2 : V) : vl e 106 18 [v0, v1, v2] = y.zq44_18 (vl e) v0 v1 v2 := Zac (s.zq44_18 e _ v0 v1 v2)
noncomputable def y.zq40 (Γ : Gam) : Option V :=
 ch Γ 10192 [] fun v0=>pr (.ext 0) [v0] fun v1=>pr (.ext 1) [v0] fun v2=>pr (.ext 2) [v0] fun v3=>ch Γ 10208 [.sl false 2 [], v1, v2, v3] fun v4=>pr (.ext 0) [v4] fun v5=>pr (.ext 1) [v4] fun v6=>pr (.ext 2) [v4] fun v7=>pr (.ext 3) [v4] fun v8=>pr (.ext 4) [v4] fun v9=>pr (.cat [some 32]) [v5] fun v10=>ch Γ 10256 [.sl false 34 [], v7, v8, v9] fun v11=>pr (.ext 0) [v11] fun v12=>pr (.ext 1) [v11] fun v13=>pr (.ext 2) [v11] fun v14=>pr (.ext 3) [v11] fun v15=>pr (.ext 4) [v11] fun v16=>pr (.cat [some 32]) [v12] fun v17=>ch Γ 10288 [v10, v14, v15, v16] fun v18=>pr (.ext 0) [v18] fun v19=>pr (.ext 1) [v18] fun v20=>pr (.ext 2) [v18] fun v21=>pr (.ext 3) [v18] fun v22=>pr (.ext 4) [v18] fun v23=>pr (.bin .eql .no) [v6, .int .i64 0] fun v24=>vif v24 (pr (.bin .eql .no) [v13, .int .i64 0] fun v25=>vif v25 (pr (.bin .eql .no) [v20, .int .i64 0] fun v26=>vif v26 (pr (.bin .eql (.flat [(some .u8, true), (some .u8, true), (some .u8, true), (some .u8, true), (some .u8, true), (some .u8, true), (some .u8, true), (some .u8, true), (some .u8, true), (some .u8, true), (some .u8, true), (some .u8, true), (some .u8, true), (some .u8, true), (some .u8, true), (some .u8, true), (some .u8, true), (some .u8, true), (some .u8, true), (some .u8, true), (some .u8, true), (some .u8, true), (some .u8, true), (some .u8, true), (some .u8, true), (some .u8, true), (some .u8, true), (some .u8, true), (some .u8, true), (some .u8, true), (some .u8, true), (some .u8, true)])) [v10, v17] fun v27=>vif v27 (pr (.len false) [v19] fun v28=>pr (.bin .eql .no) [v28, .int .i64 0] fun v29=>vif v29 (ch Γ 10448 [v21, v22, v23] fun v30=>pr (.ext 0) [v30] fun v31=>pr (.ext 1) [v30] fun v32=>pr (.ext 2) [v30] fun v33=>pr (.ext 3) [v30] fun v34=>pr (.bin .eql .no) [v31, .int .i64 1] fun v35=>some v35) (some (.bool false))) (some (.bool false))) (some (.bool false))) (some (.bool false))) (some (.bool false))
theorem s.zq40 (e : Ev) (Γ : Gam) : stp e Γ 7 0 [] = y.zq40 Γ := by kernel_rfl
theorem w.zq40 (e : Ev) : vl e 7 0 [] = y.zq40 (vl e) := Zac (s.zq40 e _)
noncomputable def y.zq41 (Γ : Gam) (v0 : V) : Option V :=
 pr (.len false) [v0] fun v1=>ca Γ 65 [v1] fun v2=>pr (.len false) [v0] fun v3=>Γ 43 10 [v2, v0, v3, .int .i64 0]
theorem s.zq41 (e : Ev) (Γ : Gam) (v0 : V) : stp e Γ 43 0 [v0] = y.zq41 Γ v0 := by kernel_rfl
theorem w.zq41 (e : Ev) (v0 : V) : vl e 43 0 [v0] = y.zq41 (vl e) v0 := Zac (s.zq41 e _ v0)
noncomputable def y.zq41_10 (Γ : Gam) (v0 v1 v2 v3 : V) : Option V :=
 pr (.bin .lss .no) [v3, v2] fun v4=>vif v4 (pr (.elem 1) [v1, v3] fun v5=>pr (.ld none 0) [v5] fun v6=>pr (.len true) [v6] fun v7=>ca Γ 65 [v7] fun v8=>pr (.bin .add .no) [v0, v8] fun v9=>pr (.bin .add .no) [v9, v6] fun v10=>pr (.bin .add .no) [v3, .int .i64 1] fun v11=>Γ 43 10 [v10, v1, v2, v11]) (some v0)
theorem s.zq41_10 (e : Ev) (Γ : Gam) (v0 v1 v2 v3 : V) : stp e Γ 43 10 [v0, v1, v2, v3] = y.zq41_10 Γ v0 v1 v2 v3 := by kernel_rfl
theorem w.zq41_10 (e : Ev) (v0 v1 v2 v3 : V) : vl e 43 10 [v0, v1, v2, v3] = y.zq41_10 (vl e) v0 v1 v2 v3 := Zac (s.zq41_10 e _ v0 v1 v2 v3)
noncomputable def y.zq53 (Γ : Gam) (v0 : V) : Option V :=
 Γ 51 8 [v0, .int .i64 0]
theorem s.zq53 (e : Ev) (Γ : Gam) (v0 : V) : stp e Γ 51 0 [v0] = y.zq53 Γ v0 := by kernel_rfl
theorem w.zq53 (e : Ev) (v0 : V) : vl e 51 0 [v0] = y.zq53 (vl e) v0 := Zac (s.zq53 e _ v0)
noncomputable def y.zq53_8 (Γ : Gam) (v0 v1 : V) : Option V :=
 pr (.len true) [v0] fun v2=>pr (.bin .lss .no) [v1, v2] fun v3=>vif v3 (pr .idx [v0, v1] fun v4=>pr (.bin .eql .no) [v4, .int .u8 0] fun v5=>vif v5 (some (.bool false)) (pr .idx [v0, v1] fun v6=>pr (.bin .eql .no) [v6, .int .u8 47] fun v7=>vif v7 (some (.bool false)) (pr (.bin .add .no) [v1, .int .i64 1] fun v8=>Γ 51 8 [v0, v8]))) (pr (.bin .neq .no) [v0, .str []] fun v4=>vif v4 (pr (.bin .neq .no) [v0, .str [46]] fun v5=>vif v5 (pr (.bin .neq .no) [v0, .str [46, 46]] fun v6=>some v6) (some (.bool false))) (some (.bool false)))
theorem s.zq53_8 (e : Ev) (Γ : Gam) (v0 v1 : V) : stp e Γ 51 8 [v0, v1] = y.zq53_8 Γ v0 v1 := by kernel_rfl
theorem w.zq53_8 (e : Ev) (v0 v1 : V) : vl e 51 8 [v0, v1] = y.zq53_8 (vl e) v0 v1 := Zac (s.zq53_8 e _ v0 v1)
end Go.Proofs.YtpmgdngjbdkdfaaGreatDoor
namespace Go.Proofs.YtpmgdngjbdkdfaaGreatDoor
open Go.Abs
noncomputable def y.zq24 (Γ : Gam) (v0 : V) : Option V :=
 pr (.bin .neq .no) [v0, .str []] fun v1=>vif v1 (pr (.bin .neq .no) [v0, .str [46]] fun v2=>vif v2 (pr (.bin .neq .no) [v0, .str [46, 46]] fun v3=>vif v3 (ca Γ 76 [v0, .str [0]] fun v4=>pr (.un .not) [v4] fun v5=>vif v5 (ca Γ 76 [v0, .str [47]] fun v6=>pr (.un .not) [v6] fun v7=>some v7) (some (.bool false))) (some (.bool false))) (some (.bool false))) (some (.bool false))
theorem s.zq24 (e : Ev) (Γ : Gam) (v0 : V) : stp e Γ 59 0 [v0] = y.zq24 Γ v0 := by kernel_rfl
theorem w.zq24 (e : Ev) (v0 : V) : vl e 59 0 [v0] = y.zq24 (vl e) v0 := Zac (s.zq24 e _ v0)
noncomputable def y.zq12 (Γ : Gam) (v0 : V) : Option V :=
 pr (.len false) [v0] fun v1=>Γ 63 8 [v0, v0, v1, .int .i64 0]
theorem s.zq12 (e : Ev) (Γ : Gam) (v0 : V) : stp e Γ 63 0 [v0] = y.zq12 Γ v0 := by kernel_rfl
theorem w.zq12 (e : Ev) (v0 : V) : vl e 63 0 [v0] = y.zq12 (vl e) v0 := Zac (s.zq12 e _ v0)
noncomputable def y.zq12_8 (Γ : Gam) (v0 v1 v2 v3 : V) : Option V :=
 pr (.bin .lss .no) [v3, v2] fun v4=>vif v4 (pr (.elem 34) [v1, v3] fun v5=>pr (.ld (some 34) 0) [v5] fun v6=>pr (.cat [some 34]) [v6] fun v7=>pr (.ld none 0) [v7] fun v8=>ca Γ 37 [v8] fun v9=>pr (.un .not) [v9] fun v10=>vif v10 (some (.bool false)) (pr (.ld none 0) [v7] fun v11=>ca Γ 85 [v11] fun v12=>pr (.bin .neq .no) [v12, .str []] fun v13=>vif v13 (some (.bool false)) (pr (.bin .gtr .no) [v3, .int .i64 0] fun v14=>vif v14 (pr (.bin .sub .no) [v3, .int .i64 1] fun v15=>pr (.elem 34) [v0, v15] fun v16=>pr (.ld none 0) [v16] fun v17=>pr (.ld none 0) [v7] fun v18=>pr (.bin .geq .no) [v17, v18] fun v19=>vif v19 (some (.bool false)) (pr (.bin .add .no) [v3, .int .i64 1] fun v20=>Γ 63 8 [v0, v1, v2, v20])) (pr (.bin .add .no) [v3, .int .i64 1] fun v15=>Γ 63 8 [v0, v1, v2, v15])))) (pr (.len false) [v0] fun v5=>pr (.bin .leq .no) [v5, .int .i64 512] fun v6=>some v6)
theorem s.zq12_8 (e : Ev) (Γ : Gam) (v0 v1 v2 v3 : V) : stp e Γ 63 8 [v0, v1, v2, v3] = y.zq12_8 Γ v0 v1 v2 v3 := by kernel_rfl
theorem w.zq12_8 (e : Ev) (v0 v1 v2 v3 : V) : vl e 63 8 [v0, v1, v2, v3] = y.zq12_8 (vl e) v0 v1 v2 v3 := Zac (s.zq12_8 e _ v0 v1 v2 v3)
noncomputable def y.zq69 (Γ : Gam) (v0 v1 : V) : Option V :=
 pr (.len false) [v0] fun v2=>Γ 75 8 [v0, v1, v2, .int .i64 0]
theorem s.zq69 (e : Ev) (Γ : Gam) (v0 v1 : V) : stp e Γ 75 0 [v0, v1] = y.zq69 Γ v0 v1 := by kernel_rfl
theorem w.zq69 (e : Ev) (v0 v1 : V) : vl e 75 0 [v0, v1] = y.zq69 (vl e) v0 v1 := Zac (s.zq69 e _ v0 v1)
noncomputable def y.zq69_8 (Γ : Gam) (v0 v1 v2 v3 : V) : Option V :=
 pr (.bin .lss .no) [v3, v2] fun v4=>vif v4 (pr (.elem 1) [v0, v3] fun v5=>pr (.ld none 0) [v5] fun v6=>cv Γ v1 [v6] fun v7=>vif v7 (some v3) (pr (.bin .add .no) [v3, .int .i64 1] fun v8=>Γ 75 8 [v0, v1, v2, v8])) (some (.int .i64 (-1)))
theorem s.zq69_8 (e : Ev) (Γ : Gam) (v0 v1 v2 v3 : V) : stp e Γ 75 8 [v0, v1, v2, v3] = y.zq69_8 Γ v0 v1 v2 v3 := by kernel_rfl
theorem w.zq69_8 (e : Ev) (v0 v1 v2 v3 : V) : vl e 75 8 [v0, v1, v2, v3] = y.zq69_8 (vl e) v0 v1 v2 v3 := Zac (s.zq69_8 e _ v0 v1 v2 v3)
noncomputable def y.zq46 (Γ : Gam) : Option V :=
 pr (.cat [none, none, none, none, none, none, none, none, none, none, none, none, none, none, none, none, none, none, none, none, none, none, none, none, none, none, none, none, none, none, none, none, none, none, none, none, none, none, none, none, none, none, none, none, none, none, none, none, none, none, none, none, none, none, none, none, none, none, none, none, none, none, none, none]) ((.int .u32 1116352408) :: (.int .u32 1899447441) :: (.int .u32 3049323471) :: (.int .u32 3921009573) :: (.int .u32 961987163) :: (.int .u32 1508970993) :: (.int .u32 2453635748) :: (.int .u32 2870763221) :: (.int .u32 3624381080) :: (.int .u32 310598401) :: (.int .u32 607225278) :: (.int .u32 1426881987) :: (.int .u32 1925078388) :: (.int .u32 2162078206) :: (.int .u32 2614888103) :: (.int .u32 3248222580) :: (.int .u32 3835390401) :: (.int .u32 4022224774) :: (.int .u32 264347078) :: (.int .u32 604807628) :: (.int .u32 770255983) :: (.int .u32 1249150122) :: (.int .u32 1555081692) :: (.int .u32 1996064986) :: (.int .u32 2554220882) :: (.int .u32 2821834349) :: (.int .u32 2952996808) :: (.int .u32 3210313671) :: (.int .u32 3336571891) :: (.int .u32 3584528711) :: (.int .u32 113926993) :: (.int .u32 338241895) :: (.int .u32 666307205) :: (.int .u32 773529912) :: (.int .u32 1294757372) :: (.int .u32 1396182291) :: (.int .u32 1695183700) :: (.int .u32 1986661051) :: (.int .u32 2177026350) :: (.int .u32 2456956037) :: (.int .u32 2730485921) :: (.int .u32 2820302411) :: (.int .u32 3259730800) :: (.int .u32 3345764771) :: (.int .u32 3516065817) :: (.int .u32 3600352804) :: (.int .u32 4094571909) :: (.int .u32 275423344) :: (.int .u32 430227734) :: (.int .u32 506948616) :: (.int .u32 659060556) :: (.int .u32 883997877) :: (.int .u32 958139571) :: (.int .u32 1322822218) :: (.int .u32 1537002063) :: (.int .u32 1747873779) :: (.int .u32 1955562222) :: (.int .u32 2024104815) :: (.int .u32 2227730452) :: (.int .u32 2361852424) :: (.int .u32 2428436474) :: (.int .u32 2756734187) :: (.int .u32 3204031479) :: (.int .u32 3329325298) :: []) fun v0=>some v0
theorem s.zq46 (e : Ev) (Γ : Gam) : stp e Γ 83 0 [] = y.zq46 Γ := by kernel_rfl
theorem w.zq46 (e : Ev) : vl e 83 0 [] = y.zq46 (vl e) := Zac (s.zq46 e _)
noncomputable def y.zq11 (Γ : Gam) (v0 : V) : Option V :=
 ca Γ 104 [v0] fun v1=>pr (.ext 0) [v1] fun v2=>pr (.ext 1) [v1] fun v3=>pr (.bin .neq .no) [v3, .int .i64 0] fun v4=>vif v4 (Γ 87 9 [v2, .bool true]) (pr (.len false) [v2] fun v5=>pr (.bin .rem .no) [v5, .int .i64 3] fun v6=>pr (.bin .neq .no) [v6, .int .i64 0] fun v7=>Γ 87 9 [v2, v7])
theorem s.zq11 (e : Ev) (Γ : Gam) (v0 : V) : stp e Γ 87 0 [v0] = y.zq11 Γ v0 := by kernel_rfl
theorem w.zq11 (e : Ev) (v0 : V) : vl e 87 0 [v0] = y.zq11 (vl e) v0 := Zac (s.zq11 e _ v0)
noncomputable def y.zq11_9 (Γ : Gam) (v0 v1 : V) : Option V :=
 vif v1 (some (.tup [.sl false 34 [], .int .i64 4])) (Γ 87 18 [v0, .sl false 34 []])
theorem s.zq11_9 (e : Ev) (Γ : Gam) (v0 v1 : V) : stp e Γ 87 9 [v0, v1] = y.zq11_9 Γ v0 v1 := by kernel_rfl
theorem w.zq11_9 (e : Ev) (v0 v1 : V) : vl e 87 9 [v0, v1] = y.zq11_9 (vl e) v0 v1 := Zac (s.zq11_9 e _ v0 v1)
noncomputable def y.zq11_18 (Γ : Gam) (v0 v1 : V) : Option V :=
 pr (.len false) [v0] fun v2=>pr (.bin .gtr .no) [v2, .int .i64 0] fun v3=>vif v3 (pr (.elem 1) [v0, .int .i64 2] fun v4=>pr (.ld none 0) [v4] fun v5=>ca Γ 105 [v5] fun v6=>pr (.ext 0) [v6] fun v7=>pr (.ext 1) [v6] fun v8=>pr (.cat [some 32]) [v7] fun v9=>pr (.un .not) [v8] fun v10=>vif v10 (some (.tup [.sl false 34 [], .int .i64 4])) (pr (.elem 1) [v0, .int .i64 0] fun v11=>pr (.ld none 0) [v11] fun v12=>pr (.bin .neq .no) [v12, .str [98, 108, 111, 98]] fun v13=>vif v13 (pr (.elem 1) [v0, .int .i64 0] fun v14=>pr (.ld none 0) [v14] fun v15=>pr (.bin .neq .no) [v15, .str [116, 114, 101, 101]] fun v16=>vif v16 (some (.tup [.sl false 34 [], .int .i64 4])) (pr (.elem 1) [v0, .int .i64 1] fun v17=>pr (.ld none 0) [v17] fun v18=>pr (.elem 1) [v0, .int .i64 0] fun v19=>pr (.ld none 0) [v19] fun v20=>pr (.bin .eql .no) [v20, .str [116, 114, 101, 101]] fun v21=>pr (.cat [none, none, some 32]) [v18, v21, v9] fun v22=>pr (.bsl 34) [v22] fun v23=>pr (.app 34) [v1, v23] fun v24=>pr (.slc 1 true false false) [v0, .int .i64 3] fun v25=>Γ 87 18 [v25, v24])) (pr (.elem 1) [v0, .int .i64 1] fun v14=>pr (.ld none 0) [v14] fun v15=>pr (.elem 1) [v0, .int .i64 0] fun v16=>pr (.ld none 0) [v16] fun v17=>pr (.bin .eql .no) [v17, .str [116, 114, 101, 101]] fun v18=>pr (.cat [none, none, some 32]) [v15, v18, v9] fun v19=>pr (.bsl 34) [v19] fun v20=>pr (.app 34) [v1, v20] fun v21=>pr (.slc 1 true false false) [v0, .int .i64 3] fun v22=>Γ 87 18 [v22, v21]))) (ca Γ 63 [v1] fun v4=>pr (.un .not) [v4] fun v5=>vif v5 (some (.tup [.sl false 34 [], .int .i64 4])) (some (.tup [v1, .int .i64 0])))
theorem s.zq11_18 (e : Ev) (Γ : Gam) (v0 v1 : V) : stp e Γ 87 18 [v0, v1] = y.zq11_18 Γ v0 v1 := by kernel_rfl
theorem w.zq11_18 (e : Ev) (v0 v1 : V) : vl e 87 18 [v0, v1] = y.zq11_18 (vl e) v0 v1 := Zac (s.zq11_18 e _ v0 v1)
noncomputable def y.zq79 (Γ : Gam) (v0 v1 : V) : Option V :=
 ca Γ 116 [v0, v1] fun v2=>some v2
theorem s.zq79 (e : Ev) (Γ : Gam) (v0 v1 : V) : stp e Γ 103 0 [v0, v1] = y.zq79 Γ v0 v1 := by kernel_rfl
theorem w.zq79 (e : Ev) (v0 v1 : V) : vl e 103 0 [v0, v1] = y.zq79 (vl e) v0 v1 := Zac (s.zq79 e _ v0 v1)
noncomputable def y.zq63 (Γ : Gam) (v0 : V) : Option V :=
 pr (.elem 1) [v0, .int .i64 0] fun v1=>pr (.ld none 0) [v1] fun v2=>pr (.i2i .u32) [v2] fun v3=>pr (.bin .shl .no) [v3, .int .u64 24] fun v4=>pr (.elem 1) [v0, .int .i64 1] fun v5=>pr (.ld none 0) [v5] fun v6=>pr (.i2i .u32) [v6] fun v7=>pr (.bin .shl .no) [v7, .int .u64 16] fun v8=>pr (.bin .or .no) [v4, v8] fun v9=>pr (.elem 1) [v0, .int .i64 2] fun v10=>pr (.ld none 0) [v10] fun v11=>pr (.i2i .u32) [v11] fun v12=>pr (.bin .shl .no) [v12, .int .u64 8] fun v13=>pr (.bin .or .no) [v9, v13] fun v14=>pr (.elem 1) [v0, .int .i64 3] fun v15=>pr (.ld none 0) [v15] fun v16=>pr (.i2i .u32) [v16] fun v17=>pr (.bin .or .no) [v14, v17] fun v18=>some v18
theorem s.zq63 (e : Ev) (Γ : Gam) (v0 : V) : stp e Γ 107 0 [v0] = y.zq63 Γ v0 := by kernel_rfl
theorem w.zq63 (e : Ev) (v0 : V) : vl e 107 0 [v0] = y.zq63 (vl e) v0 := Zac (s.zq63 e _ v0)
noncomputable def y.zq81_h0 (Γ : Gam) : Option V :=
 some (.tup [(.iface 0 (.tup [])), (.iface 0 (.tup [])), (.iface 0 (.tup []))])
theorem s.zq81_h0 (e : Ev) (Γ : Gam) : stp e Γ 10192 1 [] = y.zq81_h0 Γ := by kernel_rfl
theorem w.zq81_h0 (e : Ev) : vl e 10192 1 [] = y.zq81_h0 (vl e) := Zac (s.zq81_h0 e _)
noncomputable def y.zq65_h0 (Γ : Gam) (v0 : V) : Option V :=
 vamb v0 (some (.tup [.int .i64 0, .agg []])) (pr (.rapp 1) [.agg [], .int .i64 0, v0] fun v3=>pr (.rlen 1) [.int .i64 0, v0] fun v4=>some (.tup [v4, v3]))
theorem s.zq65_h0 (e : Ev) (Γ : Gam) (v0 : V) : stp e Γ 11280 1 [v0] = y.zq65_h0 Γ v0 := by kernel_rfl
theorem w.zq65_h0 (e : Ev) (v0 : V) : vl e 11280 1 [v0] = y.zq65_h0 (vl e) v0 := Zac (s.zq65_h0 e _ v0)
noncomputable def y.zq29_h0 (Γ : Gam) (v0 v1 : V) : Option V :=
 Γ 11456 8 [.int .i64 0, v0, v1, (.agg (repl 64 (.int .u32 0)))]
theorem s.zq29_h0 (e : Ev) (Γ : Gam) (v0 v1 : V) : stp e Γ 11456 1 [v0, v1] = y.zq29_h0 Γ v0 v1 := by kernel_rfl
theorem w.zq29_h0 (e : Ev) (v0 v1 : V) : vl e 11456 1 [v0, v1] = y.zq29_h0 (vl e) v0 v1 := Zac (s.zq29_h0 e _ v0 v1)
noncomputable def y.zq29_h0_8 (Γ : Gam) (v0 v1 v2 v3 : V) : Option V :=
 pr (.bin .lss .no) [v0, .int .i64 16] fun v4=>vif v4 (pr (.bin .mul .no) [.int .i64 4, v0] fun v5=>pr (.chk 64) [v5] fun v6=>pr (.snapd 0 64) [v2, v6] fun v7=>ca Γ 107 [v7] fun v8=>pr .flr [v8] fun v9=>pr (.chk 64) [v0] fun v10=>pr (.std 1 0 1) [v3, v10, v9] fun v11=>pr (.bin .add .no) [v0, .int .i64 1] fun v12=>Γ 11456 8 [v12, v1, v2, v11]) (Γ 11456 25 [.int .i64 16, v1, v2, v3])
theorem s.zq29_h0_8 (e : Ev) (Γ : Gam) (v0 v1 v2 v3 : V) : stp e Γ 11456 8 [v0, v1, v2, v3] = y.zq29_h0_8 Γ v0 v1 v2 v3 := by kernel_rfl
theorem w.zq29_h0_8 (e : Ev) (v0 v1 v2 v3 : V) : vl e 11456 8 [v0, v1, v2, v3] = y.zq29_h0_8 (vl e) v0 v1 v2 v3 := Zac (s.zq29_h0_8 e _ v0 v1 v2 v3)
noncomputable def y.zq29_h0_25 (Γ : Gam) (v0 v1 v2 v3 : V) : Option V :=
 pr (.bin .lss .no) [v0, .int .i64 64] fun v4=>vif v4 (pr (.bin .sub .no) [v0, .int .i64 15] fun v5=>pr (.chk 64) [v5] fun v6=>pr (.ldd none 0 1) [v3, v6] fun v7=>pr (.bin .sub .no) [v0, .int .i64 2] fun v8=>pr (.chk 64) [v8] fun v9=>pr (.ldd none 0 1) [v3, v9] fun v10=>ca Γ 108 [v7, (.int .i64 (-7))] fun v11=>ca Γ 108 [v7, (.int .i64 (-18))] fun v12=>pr (.bin .xor .no) [v11, v12] fun v13=>pr (.bin .shr .no) [v7, .int .u64 3] fun v14=>pr (.bin .xor .no) [v13, v14] fun v15=>ca Γ 108 [v10, (.int .i64 (-17))] fun v16=>ca Γ 108 [v10, (.int .i64 (-19))] fun v17=>pr (.bin .xor .no) [v16, v17] fun v18=>pr (.bin .shr .no) [v10, .int .u64 10] fun v19=>pr (.bin .xor .no) [v18, v19] fun v20=>pr (.bin .sub .no) [v0, .int .i64 16] fun v21=>pr (.chk 64) [v21] fun v22=>pr (.ldd none 0 1) [v3, v22] fun v23=>pr (.bin .add .no) [v23, v15] fun v24=>pr (.bin .sub .no) [v0, .int .i64 7] fun v25=>pr (.chk 64) [v25] fun v26=>pr (.ldd none 0 1) [v3, v26] fun v27=>pr (.bin .add .no) [v24, v27] fun v28=>pr (.bin .add .no) [v28, v20] fun v29=>pr (.chk 64) [v0] fun v30=>pr (.std 1 0 1) [v3, v30, v29] fun v31=>pr (.bin .add .no) [v0, .int .i64 1] fun v32=>Γ 11456 25 [v32, v1, v2, v31]) (pr (.ld none 0) [v1] fun v5=>pr (.ld none 1) [v1] fun v6=>pr (.ld none 2) [v1] fun v7=>pr (.ld none 3) [v1] fun v8=>pr (.ld none 4) [v1] fun v9=>pr (.ld none 5) [v1] fun v10=>pr (.ld none 6) [v1] fun v11=>pr (.ld none 7) [v1] fun v12=>Γ 11456 48 [v5, v6, v7, v8, v9, v10, v11, v12, v3, .int .i64 0, v1, v2])
theorem s.zq29_h0_25 (e : Ev) (Γ : Gam) (v0 v1 v2 v3 : V) : stp e Γ 11456 25 [v0, v1, v2, v3] = y.zq29_h0_25 Γ v0 v1 v2 v3 := by kernel_rfl
theorem w.zq29_h0_25 (e : Ev) (v0 v1 v2 v3 : V) : vl e 11456 25 [v0, v1, v2, v3] = y.zq29_h0_25 (vl e) v0 v1 v2 v3 := Zac (s.zq29_h0_25 e _ v0 v1 v2 v3)
noncomputable def y.zq29_h0_48 (Γ : Gam) (v0 v1 v2 v3 v4 v5 v6 v7 v8 v9 v10 v11 : V) : Option V :=
 pr (.bin .lss .no) [v9, .int .i64 64] fun v12=>vif v12 (pr (.idxa 64 1 none) [v8, v9] fun v13=>ca Γ 108 [v4, (.int .i64 (-6))] fun v14=>ca Γ 108 [v4, (.int .i64 (-11))] fun v15=>pr (.bin .xor .no) [v14, v15] fun v16=>ca Γ 108 [v4, (.int .i64 (-25))] fun v17=>pr (.bin .xor .no) [v16, v17] fun v18=>pr (.bin .add .no) [v7, v18] fun v19=>pr (.bin .and .no) [v4, v5] fun v20=>pr (.un .xor) [v4] fun v21=>pr (.bin .and .no) [v21, v6] fun v22=>pr (.bin .xor .no) [v20, v22] fun v23=>pr (.bin .add .no) [v19, v23] fun v24=>pr (.chk 64) [v9] fun v25=>pr (.ldd none 0 1) [(.agg (.int .u32 1116352408 :: .int .u32 1899447441 :: .int .u32 3049323471 :: .int .u32 3921009573 :: .int .u32 961987163 :: .int .u32 1508970993 :: .int .u32 2453635748 :: .int .u32 2870763221 :: .int .u32 3624381080 :: .int .u32 310598401 :: .int .u32 607225278 :: .int .u32 1426881987 :: .int .u32 1925078388 :: .int .u32 2162078206 :: .int .u32 2614888103 :: .int .u32 3248222580 :: .int .u32 3835390401 :: .int .u32 4022224774 :: .int .u32 264347078 :: .int .u32 604807628 :: .int .u32 770255983 :: .int .u32 1249150122 :: .int .u32 1555081692 :: .int .u32 1996064986 :: .int .u32 2554220882 :: .int .u32 2821834349 :: .int .u32 2952996808 :: .int .u32 3210313671 :: .int .u32 3336571891 :: .int .u32 3584528711 :: .int .u32 113926993 :: .int .u32 338241895 :: .int .u32 666307205 :: .int .u32 773529912 :: .int .u32 1294757372 :: .int .u32 1396182291 :: .int .u32 1695183700 :: .int .u32 1986661051 :: .int .u32 2177026350 :: .int .u32 2456956037 :: .int .u32 2730485921 :: .int .u32 2820302411 :: .int .u32 3259730800 :: .int .u32 3345764771 :: .int .u32 3516065817 :: .int .u32 3600352804 :: .int .u32 4094571909 :: .int .u32 275423344 :: .int .u32 430227734 :: .int .u32 506948616 :: .int .u32 659060556 :: .int .u32 883997877 :: .int .u32 958139571 :: .int .u32 1322822218 :: .int .u32 1537002063 :: .int .u32 1747873779 :: .int .u32 1955562222 :: .int .u32 2024104815 :: .int .u32 2227730452 :: .int .u32 2361852424 :: .int .u32 2428436474 :: .int .u32 2756734187 :: .int .u32 3204031479 :: .int .u32 3329325298 :: [])), v25] fun v26=>pr (.bin .add .no) [v24, v26] fun v27=>pr (.bin .add .no) [v27, v13] fun v28=>ca Γ 108 [v0, (.int .i64 (-2))] fun v29=>ca Γ 108 [v0, (.int .i64 (-13))] fun v30=>pr (.bin .xor .no) [v29, v30] fun v31=>ca Γ 108 [v0, (.int .i64 (-22))] fun v32=>pr (.bin .xor .no) [v31, v32] fun v33=>pr (.bin .and .no) [v0, v1] fun v34=>pr (.bin .and .no) [v0, v2] fun v35=>pr (.bin .xor .no) [v34, v35] fun v36=>pr (.bin .and .no) [v1, v2] fun v37=>pr (.bin .xor .no) [v36, v37] fun v38=>pr (.bin .add .no) [v33, v38] fun v39=>pr (.bin .add .no) [v28, v39] fun v40=>pr (.bin .add .no) [v3, v28] fun v41=>pr (.bin .add .no) [v9, .int .i64 1] fun v42=>Γ 11456 48 [v40, v0, v1, v2, v41, v4, v5, v6, v8, v42, v10, v11]) (pr (.cat [none, none, none, none, none, none, none, none]) [v0, v1, v2, v3, v4, v5, v6, v7] fun v13=>Γ 11456 72 [v13, .int .i64 0, v10, v11])
theorem s.zq29_h0_48 (e : Ev) (Γ : Gam) (v0 v1 v2 v3 v4 v5 v6 v7 v8 v9 v10 v11 : V) : stp e Γ 11456 48 [v0, v1, v2, v3, v4, v5, v6, v7, v8, v9, v10, v11] = y.zq29_h0_48 Γ v0 v1 v2 v3 v4 v5 v6 v7 v8 v9 v10 v11 := by kernel_rfl
theorem w.zq29_h0_48 (e : Ev) (v0 v1 v2 v3 v4 v5 v6 v7 v8 v9 v10 v11 : V) : vl e 11456 48 [v0, v1, v2, v3, v4, v5, v6, v7, v8, v9, v10, v11] = y.zq29_h0_48 (vl e) v0 v1 v2 v3 v4 v5 v6 v7 v8 v9 v10 v11 := Zac (s.zq29_h0_48 e _ v0 v1 v2 v3 v4 v5 v6 v7 v8 v9 v10 v11)
noncomputable def y.zq29_h0_72 (Γ : Gam) (v0 v1 v2 v3 : V) : Option V :=
 pr (.bin .lss .no) [v1, .int .i64 8] fun v4=>vif v4 (pr (.idxa 8 1 none) [v0, v1] fun v5=>pr (.chk 8) [v1] fun v6=>pr (.ldd none 0 1) [v2, v6] fun v7=>pr (.bin .add .no) [v7, v5] fun v8=>pr (.chk 8) [v1] fun v9=>pr (.std 1 0 1) [v2, v9, v8] fun v10=>pr (.bin .add .no) [v1, .int .i64 1] fun v11=>Γ 11456 72 [v0, v11, v10, v3]) (some (.tup [v2, v3]))
theorem s.zq29_h0_72 (e : Ev) (Γ : Gam) (v0 v1 v2 v3 : V) : stp e Γ 11456 72 [v0, v1, v2, v3] = y.zq29_h0_72 Γ v0 v1 v2 v3 := by kernel_rfl
theorem w.zq29_h0_72 (e : Ev) (v0 v1 v2 v3 : V) : vl e 11456 72 [v0, v1, v2, v3] = y.zq29_h0_72 (vl e) v0 v1 v2 v3 := Zac (s.zq29_h0_72 e _ v0 v1 v2 v3)
noncomputable def y.zq27_h0 (Γ : Gam) (v0 v1 v2 v3 : V) : Option V :=
 ca Γ 40 [v0, v1] fun v4=>pr (.cat [some 32]) [v4] fun v5=>pr (.cat [none, some 32, none]) [v0, v5, v1] fun v6=>pr (.bsl 34) [v6] fun v7=>pr (.app 34) [v3, v7] fun v8=>pr (.len false) [v2] fun v9=>Γ 10240 12 [v0, v1, v2, v9, .int .i64 0, v2, v8, (.agg (repl 32 (.int .u8 0))), v5]
theorem s.zq27_h0 (e : Ev) (Γ : Gam) (v0 v1 v2 v3 : V) : stp e Γ 10240 1 [v0, v1, v2, v3] = y.zq27_h0 Γ v0 v1 v2 v3 := by kernel_rfl
theorem w.zq27_h0 (e : Ev) (v0 v1 v2 v3 : V) : vl e 10240 1 [v0, v1, v2, v3] = y.zq27_h0 (vl e) v0 v1 v2 v3 := Zac (s.zq27_h0 e _ v0 v1 v2 v3)
noncomputable def y.zq27_h0_12 (Γ : Gam) (v0 v1 v2 v3 v4 v5 v6 v7 v8 : V) : Option V :=
 pr (.bin .lss .no) [v4, v3] fun v9=>vif v9 (pr (.elem 34) [v2, v4] fun v10=>pr (.ld (some 34) 0) [v10] fun v11=>pr (.cat [some 34]) [v11] fun v12=>pr (.ld none 0) [v12] fun v13=>pr (.bin .eql .no) [v13, v0] fun v14=>vif v14 (pr (.ld (some 32) 1) [v12] fun v15=>pr (.bin .eql (.flat [(some .u8, true), (some .u8, true), (some .u8, true), (some .u8, true), (some .u8, true), (some .u8, true), (some .u8, true), (some .u8, true), (some .u8, true), (some .u8, true), (some .u8, true), (some .u8, true), (some .u8, true), (some .u8, true), (some .u8, true), (some .u8, true), (some .u8, true), (some .u8, true), (some .u8, true), (some .u8, true), (some .u8, true), (some .u8, true), (some .u8, true), (some .u8, true), (some .u8, true), (some .u8, true), (some .u8, true), (some .u8, true), (some .u8, true), (some .u8, true), (some .u8, true), (some .u8, true)])) [v15, v8] fun v16=>vif v16 (pr (.cat [some 32]) [v8] fun v17=>some (.tup [v17, v5, v6])) (pr (.bin .add .no) [v4, .int .i64 1] fun v17=>Γ 10240 12 [v0, v1, v2, v3, v17, v5, v6, v7, v8])) (pr (.bin .add .no) [v4, .int .i64 1] fun v15=>Γ 10240 12 [v0, v1, v2, v3, v15, v5, v6, v7, v8])) (pr (.cat [none, some 32, none]) [v0, v8, v1] fun v10=>pr (.bsl 34) [v10] fun v11=>pr (.app 34) [v5, v11] fun v12=>pr (.cat [some 32]) [v8] fun v13=>some (.tup [v13, v12, v6]))
theorem s.zq27_h0_12 (e : Ev) (Γ : Gam) (v0 v1 v2 v3 v4 v5 v6 v7 v8 : V) : stp e Γ 10240 12 [v0, v1, v2, v3, v4, v5, v6, v7, v8] = y.zq27_h0_12 Γ v0 v1 v2 v3 v4 v5 v6 v7 v8 := by kernel_rfl
theorem w.zq27_h0_12 (e : Ev) (v0 v1 v2 v3 v4 v5 v6 v7 v8 : V) : vl e 10240 12 [v0, v1, v2, v3, v4, v5, v6, v7, v8] = y.zq27_h0_12 (vl e) v0 v1 v2 v3 v4 v5 v6 v7 v8 := Zac (s.zq27_h0_12 e _ v0 v1 v2 v3 v4 v5 v6 v7 v8)
noncomputable def y.zq33_h0 (Γ : Gam) (v0 v1 v2 v3 : V) : Option V :=
 pr (.len true) [v0] fun v4=>pr (.bin .gtr .no) [v4, .int .i64 32768] fun v5=>vif v5 (pr (.cat []) [] fun v6=>pr (.cat [some 32]) [(.agg (repl 32 (.int .u8 0)))] fun v7=>some (.tup [v7, .int .i64 3, v1, v2, v3])) (ca Γ 22 [v0] fun v6=>pr (.cat [some 32]) [v6] fun v7=>pr (.mup (true, (repl 32 ((some .u8, true))))) [v1, v7, v0] fun v8=>pr (.cat [some 32]) [v7] fun v9=>some (.tup [v9, .int .i64 0, v8, v2, v3]))
theorem s.zq33_h0 (e : Ev) (Γ : Gam) (v0 v1 v2 v3 : V) : stp e Γ 10224 1 [v0, v1, v2, v3] = y.zq33_h0 Γ v0 v1 v2 v3 := by kernel_rfl
theorem w.zq33_h0 (e : Ev) (v0 v1 v2 v3 : V) : vl e 10224 1 [v0, v1, v2, v3] = y.zq33_h0 (vl e) v0 v1 v2 v3 := Zac (s.zq33_h0 e _ v0 v1 v2 v3)
noncomputable def y.zq30_h0 (Γ : Gam) (v0 v1 v2 v3 : V) : Option V :=
 pr (.len false) [v0] fun v4=>pr (.bin .gtr .no) [v4, .int .i64 512] fun v5=>vif v5 (pr (.cat []) [] fun v6=>pr (.cat [some 32]) [(.agg (repl 32 (.int .u8 0)))] fun v7=>some (.tup [v7, .int .i64 3, v1, v2, v3])) (ch Γ 10528 [v0] fun v6=>pr (.ext 0) [v6] fun v7=>pr (.ext 1) [v6] fun v8=>ch Γ 10544 [v7, .fn 35 [], v8] fun v9=>Γ 10208 28 [v7, v7, v7, .int .i64 0, v1, v2, v3, (.agg (repl 32 (.int .u8 0))), v9])
theorem s.zq30_h0 (e : Ev) (Γ : Gam) (v0 v1 v2 v3 : V) : stp e Γ 10208 1 [v0, v1, v2, v3] = y.zq30_h0 Γ v0 v1 v2 v3 := by kernel_rfl
theorem w.zq30_h0 (e : Ev) (v0 v1 v2 v3 : V) : vl e 10208 1 [v0, v1, v2, v3] = y.zq30_h0 (vl e) v0 v1 v2 v3 := Zac (s.zq30_h0 e _ v0 v1 v2 v3)
noncomputable def y.zq30_h0_28 (Γ : Gam) (v0 v1 v2 v3 v4 v5 v6 v7 v8 : V) : Option V :=
 pr (.bin .lss .no) [v3, v2] fun v9=>vif v9 (pr .chkd [v1, v3] fun v10=>pr (.ldd (some 2) 0 2) [v8, v10] fun v11=>pr (.cat [some 2]) [v11] fun v12=>pr (.ld none 0) [v12] fun v13=>ca Γ 37 [v13] fun v14=>pr (.un .not) [v14] fun v15=>vif v15 (pr (.cat []) [] fun v16=>pr (.cat [some 32]) [(.agg (repl 32 (.int .u8 0)))] fun v17=>some (.tup [v17, .int .i64 1, v4, v5, v6])) (pr (.bin .gtr .no) [v3, .int .i64 0] fun v16=>vif v16 (pr (.bin .sub .no) [v3, .int .i64 1] fun v17=>pr .chkd [v0, v17] fun v18=>pr (.ldd none 0 2) [v8, v18] fun v19=>pr (.ld none 0) [v12] fun v20=>ca Γ 38 [v19, v20] fun v21=>pr (.ext 0) [v21] fun v22=>pr (.ext 1) [v21] fun v23=>vif v23 (pr (.cat []) [] fun v24=>pr (.cat [some 32]) [(.agg (repl 32 (.int .u8 0)))] fun v25=>some (.tup [v25, .int .i64 1, v4, v5, v6])) (pr (.bin .sub .no) [v3, .int .i64 1] fun v24=>pr .chkd [v0, v24] fun v25=>pr (.ldd none 0 2) [v8, v25] fun v26=>pr (.ld none 0) [v12] fun v27=>pr (.bin .eql .no) [v26, v27] fun v28=>vif v28 (pr (.cat []) [] fun v29=>pr (.cat [some 32]) [(.agg (repl 32 (.int .u8 0)))] fun v30=>some (.tup [v30, .int .i64 1, v4, v5, v6])) (pr (.bin .add .no) [v3, .int .i64 1] fun v29=>Γ 10208 28 [v0, v1, v2, v29, v4, v5, v6, v7, v8]))) (pr (.bin .add .no) [v3, .int .i64 1] fun v17=>Γ 10208 28 [v0, v1, v2, v17, v4, v5, v6, v7, v8]))) (Γ 10208 65 [v0, v0, v0, .int .i64 0, v4, v5, v6, v7, v8])
theorem s.zq30_h0_28 (e : Ev) (Γ : Gam) (v0 v1 v2 v3 v4 v5 v6 v7 v8 : V) : stp e Γ 10208 28 [v0, v1, v2, v3, v4, v5, v6, v7, v8] = y.zq30_h0_28 Γ v0 v1 v2 v3 v4 v5 v6 v7 v8 := by kernel_rfl
theorem w.zq30_h0_28 (e : Ev) (v0 v1 v2 v3 v4 v5 v6 v7 v8 : V) : vl e 10208 28 [v0, v1, v2, v3, v4, v5, v6, v7, v8] = y.zq30_h0_28 (vl e) v0 v1 v2 v3 v4 v5 v6 v7 v8 := Zac (s.zq30_h0_28 e _ v0 v1 v2 v3 v4 v5 v6 v7 v8)
noncomputable def y.zq30_h0_65 (Γ : Gam) (v0 v1 v2 v3 v4 v5 v6 v7 v8 : V) : Option V :=
 pr (.bin .lss .no) [v3, v2] fun v9=>vif v9 (pr .chkd [v1, v3] fun v10=>pr (.ldd (some 2) 0 2) [v8, v10] fun v11=>pr (.cat [some 2]) [v11] fun v12=>pr (.ld none 1) [v12] fun v13=>pr (.len true) [v13] fun v14=>pr (.bin .gtr .no) [v14, .int .i64 32768] fun v15=>vif v15 (pr (.cat []) [] fun v16=>pr (.cat [some 32]) [(.agg (repl 32 (.int .u8 0)))] fun v17=>some (.tup [v17, .int .i64 3, v4, v5, v6])) (pr (.bin .add .no) [v3, .int .i64 1] fun v16=>Γ 10208 65 [v0, v1, v2, v16, v4, v5, v6, v7, v8])) (ch Γ 10624 [.str [], .int .i64 0, v0, v8, v4, v5, v6] fun v10=>pr (.ext 0) [v10] fun v11=>pr (.ext 1) [v10] fun v12=>pr (.ext 2) [v10] fun v13=>pr (.ext 3) [v10] fun v14=>pr (.ext 4) [v10] fun v15=>pr (.ext 5) [v10] fun v16=>pr (.cat [some 32]) [v11] fun v17=>some (.tup [v17, v12, v14, v15, v16]))
theorem s.zq30_h0_65 (e : Ev) (Γ : Gam) (v0 v1 v2 v3 v4 v5 v6 v7 v8 : V) : stp e Γ 10208 65 [v0, v1, v2, v3, v4, v5, v6, v7, v8] = y.zq30_h0_65 Γ v0 v1 v2 v3 v4 v5 v6 v7 v8 := by kernel_rfl
theorem w.zq30_h0_65 (e : Ev) (v0 v1 v2 v3 v4 v5 v6 v7 v8 : V) : vl e 10208 65 [v0, v1, v2, v3, v4, v5, v6, v7, v8] = y.zq30_h0_65 (vl e) v0 v1 v2 v3 v4 v5 v6 v7 v8 := Zac (s.zq30_h0_65 e _ v0 v1 v2 v3 v4 v5 v6 v7 v8)
noncomputable def y.zq68_h0 (Γ : Gam) (v0 v1 v2 : V) : Option V :=
 ch Γ 11200 [v0, v1, v2] fun v4=>pr (.ext 0) [v4] fun v5=>pr (.ext 1) [v4] fun v6=>pr (.bin .eql .no) [v5, (.int .i64 (-1))] fun v7=>vif v7 (some (.tup [v0, v6])) (pr (.bin .add .no) [v5, .int .i64 1] fun v8=>Γ 11264 18 [v0, v1, v5, v8, v6])
theorem s.zq68_h0 (e : Ev) (Γ : Gam) (v0 v1 v2 : V) : stp e Γ 11264 1 [v0, v1, v2] = y.zq68_h0 Γ v0 v1 v2 := by kernel_rfl
theorem w.zq68_h0 (e : Ev) (v0 v1 v2 : V) : vl e 11264 1 [v0, v1, v2] = y.zq68_h0 (vl e) v0 v1 v2 := Zac (s.zq68_h0 e _ v0 v1 v2)
noncomputable def y.zq68_h0_18 (Γ : Gam) (v0 v1 v2 v3 v4 : V) : Option V :=
 pr (.bin .lss .no) [v3, v0] fun v5=>vif v5 (pr .chkd [v0, v3] fun v6=>pr (.ldd none 0 1) [v4, v6] fun v7=>cv Γ v1 [v7] fun v8=>pr (.un .not) [v8] fun v9=>vif v9 (pr .chkd [v0, v2] fun v10=>pr (.std 1 0 1) [v4, v10, v7] fun v11=>pr (.bin .add .no) [v2, .int .i64 1] fun v12=>pr (.bin .add .no) [v3, .int .i64 1] fun v13=>Γ 11264 18 [v0, v1, v12, v13, v11]) (pr (.bin .add .no) [v3, .int .i64 1] fun v10=>Γ 11264 18 [v0, v1, v2, v10, v4])) (pr .chkd [v0, v2] fun v6=>pr (.clrx (.str [])) [v4, v0, v6] fun v7=>pr .chkl [v0, v2] fun v8=>some (.tup [v8, v7]))
theorem s.zq68_h0_18 (e : Ev) (Γ : Gam) (v0 v1 v2 v3 v4 : V) : stp e Γ 11264 18 [v0, v1, v2, v3, v4] = y.zq68_h0_18 Γ v0 v1 v2 v3 v4 := by kernel_rfl
theorem w.zq68_h0_18 (e : Ev) (v0 v1 v2 v3 v4 : V) : vl e 11264 18 [v0, v1, v2, v3, v4] = y.zq68_h0_18 (vl e) v0 v1 v2 v3 v4 := Zac (s.zq68_h0_18 e _ v0 v1 v2 v3 v4)
noncomputable def y.zq64_h0 (Γ : Gam) (v0 : V) : Option V :=
 vamb v0 (some (.tup [.int .i64 0, .agg []])) (pr (.rapp 2) [.agg [], .int .i64 0, v0] fun v3=>pr (.rlen 2) [.int .i64 0, v0] fun v4=>some (.tup [v4, v3]))
theorem s.zq64_h0 (e : Ev) (Γ : Gam) (v0 : V) : stp e Γ 10528 1 [v0] = y.zq64_h0 Γ v0 := by kernel_rfl
theorem w.zq64_h0 (e : Ev) (v0 : V) : vl e 10528 1 [v0] = y.zq64_h0 (vl e) v0 := Zac (s.zq64_h0 e _ v0)
noncomputable def y.zq69_h0 (Γ : Gam) (v0 v1 v2 : V) : Option V :=
 Γ 11200 8 [v0, v1, v0, .int .i64 0, v2]
theorem s.zq69_h0 (e : Ev) (Γ : Gam) (v0 v1 v2 : V) : stp e Γ 11200 1 [v0, v1, v2] = y.zq69_h0 Γ v0 v1 v2 := by kernel_rfl
theorem w.zq69_h0 (e : Ev) (v0 v1 v2 : V) : vl e 11200 1 [v0, v1, v2] = y.zq69_h0 (vl e) v0 v1 v2 := Zac (s.zq69_h0 e _ v0 v1 v2)
noncomputable def y.zq69_h0_8 (Γ : Gam) (v0 v1 v2 v3 v4 : V) : Option V :=
 pr (.bin .lss .no) [v3, v2] fun v5=>vif v5 (pr .chkd [v0, v3] fun v6=>pr (.ldd none 0 1) [v4, v6] fun v7=>cv Γ v1 [v7] fun v8=>vif v8 (some (.tup [v3, v4])) (pr (.bin .add .no) [v3, .int .i64 1] fun v9=>Γ 11200 8 [v0, v1, v2, v9, v4])) (some (.tup [(.int .i64 (-1)), v4]))
theorem s.zq69_h0_8 (e : Ev) (Γ : Gam) (v0 v1 v2 v3 v4 : V) : stp e Γ 11200 8 [v0, v1, v2, v3, v4] = y.zq69_h0_8 Γ v0 v1 v2 v3 v4 := by kernel_rfl
theorem w.zq69_h0_8 (e : Ev) (v0 v1 v2 v3 v4 : V) : vl e 11200 8 [v0, v1, v2, v3, v4] = y.zq69_h0_8 (vl e) v0 v1 v2 v3 v4 := Zac (s.zq69_h0_8 e _ v0 v1 v2 v3 v4)
noncomputable def y.zq32_h0 (Γ : Gam) (v0 v1 v2 v3 : V) : Option V :=
 pr .scs [v0] fun v4=>pr (.ld (some 32) 0) [v4] fun v5=>ch Γ 10704 [.str [], v5, .int .i64 1, .sl false 33 [], .int .i64 4096, v1, v2, v3] fun v6=>pr (.ext 0) [v6] fun v7=>pr (.ext 1) [v6] fun v8=>pr (.ext 2) [v6] fun v9=>pr (.ext 3) [v6] fun v10=>pr (.ext 4) [v6] fun v11=>pr (.ext 5) [v6] fun v12=>pr (.bin .neq .no) [v7, .int .i64 0] fun v13=>vif v13 (some (.tup [.sl false 33 [], v7, v10, v11, v12])) (some (.tup [v8, .int .i64 0, v10, v11, v12]))
theorem s.zq32_h0 (e : Ev) (Γ : Gam) (v0 v1 v2 v3 : V) : stp e Γ 10288 1 [v0, v1, v2, v3] = y.zq32_h0 Γ v0 v1 v2 v3 := by kernel_rfl
theorem w.zq32_h0 (e : Ev) (v0 v1 v2 v3 : V) : vl e 10288 1 [v0, v1, v2, v3] = y.zq32_h0 (vl e) v0 v1 v2 v3 := Zac (s.zq32_h0 e _ v0 v1 v2 v3)
noncomputable def y.zq34_h0 (Γ : Gam) (v0 v1 v2 v3 : V) : Option V :=
 ca Γ 41 [v0] fun v4=>pr (.ext 0) [v4] fun v5=>pr (.ext 1) [v4] fun v6=>pr (.bin .neq .no) [v6, .int .i64 0] fun v7=>vif v7 (pr (.cat []) [] fun v8=>pr (.cat [some 32]) [(.agg (repl 32 (.int .u8 0)))] fun v9=>some (.tup [v9, v6, v1, v2, v3])) (ca Γ 42 [v5] fun v8=>pr (.cat [some 32]) [v8] fun v9=>pr (.mup (true, (repl 32 ((some .u8, true))))) [v2, v9, v5] fun v10=>pr (.cat [some 32]) [v9] fun v11=>some (.tup [v11, .int .i64 0, v1, v10, v3]))
theorem s.zq34_h0 (e : Ev) (Γ : Gam) (v0 v1 v2 v3 : V) : stp e Γ 10256 1 [v0, v1, v2, v3] = y.zq34_h0 Γ v0 v1 v2 v3 := by kernel_rfl
theorem w.zq34_h0 (e : Ev) (v0 v1 v2 v3 : V) : vl e 10256 1 [v0, v1, v2, v3] = y.zq34_h0 (vl e) v0 v1 v2 v3 := Zac (s.zq34_h0 e _ v0 v1 v2 v3)
noncomputable def y.zq25_h0 (Γ : Gam) (v0 v1 v2 : V) : Option V :=
 pr .scs [v0] fun v3=>pr (.ld (some 32) 0) [v3] fun v4=>ch Γ 10720 [.str [], v4, .int .i64 1, .int .i64 4096, v1, v2] fun v5=>pr (.ext 0) [v5] fun v6=>pr (.ext 1) [v5] fun v7=>pr (.ext 2) [v5] fun v8=>pr (.ext 3) [v5] fun v9=>pr (.ext 4) [v5] fun v10=>some (.tup [v6, v7, v9, v10])
theorem s.zq25_h0 (e : Ev) (Γ : Gam) (v0 v1 v2 : V) : stp e Γ 10304 1 [v0, v1, v2] = y.zq25_h0 Γ v0 v1 v2 := by kernel_rfl
theorem w.zq25_h0 (e : Ev) (v0 v1 v2 : V) : vl e 10304 1 [v0, v1, v2] = y.zq25_h0 (vl e) v0 v1 v2 := Zac (s.zq25_h0 e _ v0 v1 v2)
noncomputable def y.zq70_h0 (Γ : Gam) (v0 v1 v2 : V) : Option V :=
 ch Γ 10849 [v0, v0, v1, v2] fun v3=>some v3
theorem s.zq70_h0 (e : Ev) (Γ : Gam) (v0 v1 v2 : V) : stp e Γ 10544 1 [v0, v1, v2] = y.zq70_h0 Γ v0 v1 v2 := by kernel_rfl
theorem w.zq70_h0 (e : Ev) (v0 v1 v2 : V) : vl e 10544 1 [v0, v1, v2] = y.zq70_h0 (vl e) v0 v1 v2 := Zac (s.zq70_h0 e _ v0 v1 v2)
noncomputable def y.zq38_h0 (Γ : Gam) (v0 v1 v2 v3 v4 v5 v6 v7 : V) : Option V :=
 pr .scs [v1] fun v8=>pr (.bin .gtr .no) [v2, .int .i64 16] fun v9=>vif v9 (some (.tup [.int .i64 8, v3, v4, v5, v6, v7])) (pr (.ld (some 32) 0) [v8] fun v10=>ch Γ 11056 [v10, v5, v6, v7] fun v11=>pr (.ext 0) [v11] fun v12=>pr (.ext 1) [v11] fun v13=>pr (.ext 2) [v11] fun v14=>pr (.ext 3) [v11] fun v15=>pr (.ext 4) [v11] fun v16=>pr (.bin .neq .no) [v13, .int .i64 0] fun v17=>vif v17 (some (.tup [v13, v3, v4, v14, v15, v16])) (pr (.len false) [v12] fun v18=>Γ 10704 26 [v0, v2, v12, v18, .int .i64 0, v3, v4, v14, v15, v16]))
theorem s.zq38_h0 (e : Ev) (Γ : Gam) (v0 v1 v2 v3 v4 v5 v6 v7 : V) : stp e Γ 10704 1 [v0, v1, v2, v3, v4, v5, v6, v7] = y.zq38_h0 Γ v0 v1 v2 v3 v4 v5 v6 v7 := by kernel_rfl
theorem w.zq38_h0 (e : Ev) (v0 v1 v2 v3 v4 v5 v6 v7 : V) : vl e 10704 1 [v0, v1, v2, v3, v4, v5, v6, v7] = y.zq38_h0 (vl e) v0 v1 v2 v3 v4 v5 v6 v7 := Zac (s.zq38_h0 e _ v0 v1 v2 v3 v4 v5 v6 v7)
end Go.Proofs.YtpmgdngjbdkdfaaGreatDoor
namespace Go.Proofs.YtpmgdngjbdkdfaaGreatDoor
open Go.Abs
noncomputable def y.zq38_h0_26 (Γ : Gam) (v0 v1 v2 v3 v4 v5 v6 v7 v8 v9 : V) : Option V :=
 pr (.bin .lss .no) [v4, v3] fun v10=>vif v10 (pr (.elem 34) [v2, v4] fun v11=>pr (.ld (some 34) 0) [v11] fun v12=>pr (.cat [some 34]) [v12] fun v13=>pr (.bin .eql .no) [v6, .int .i64 0] fun v14=>vif v14 (some (.tup [.int .i64 3, v5, v6, v7, v8, v9])) (pr (.bin .sub .no) [v6, .int .i64 1] fun v15=>pr (.ld none 0) [v13] fun v16=>pr (.bsl 1) [v0, v16] fun v17=>ca Γ 61 [v17] fun v18=>pr (.ld none 1) [v13] fun v19=>pr (.un .not) [v19] fun v20=>vif v20 (pr (.ld (some 32) 2) [v13] fun v21=>pr (.cat [none, some 32]) [v18, v21] fun v22=>pr (.bsl 33) [v22] fun v23=>pr (.app 33) [v5, v23] fun v24=>pr (.bin .add .no) [v4, .int .i64 1] fun v25=>Γ 10704 26 [v0, v1, v2, v3, v25, v24, v15, v7, v8, v9]) (pr (.ld (some 32) 2) [v13] fun v21=>pr (.bin .add .no) [v1, .int .i64 1] fun v22=>ch Γ 10704 [v18, v21, v22, v5, v15, v7, v8, v9] fun v23=>pr (.ext 0) [v23] fun v24=>pr (.ext 1) [v23] fun v25=>pr (.ext 2) [v23] fun v26=>pr (.ext 3) [v23] fun v27=>pr (.ext 4) [v23] fun v28=>pr (.ext 5) [v23] fun v29=>pr (.bin .neq .no) [v24, .int .i64 0] fun v30=>vif v30 (some (.tup [v24, v25, v26, v27, v28, v29])) (pr (.bin .add .no) [v4, .int .i64 1] fun v31=>Γ 10704 26 [v0, v1, v2, v3, v31, v25, v26, v27, v28, v29])))) (some (.tup [.int .i64 0, v5, v6, v7, v8, v9]))
theorem s.zq38_h0_26 (e : Ev) (Γ : Gam) (v0 v1 v2 v3 v4 v5 v6 v7 v8 v9 : V) : stp e Γ 10704 26 [v0, v1, v2, v3, v4, v5, v6, v7, v8, v9] = y.zq38_h0_26 Γ v0 v1 v2 v3 v4 v5 v6 v7 v8 v9 := by kernel_rfl
theorem w.zq38_h0_26 (e : Ev) (v0 v1 v2 v3 v4 v5 v6 v7 v8 v9 : V) : vl e 10704 26 [v0, v1, v2, v3, v4, v5, v6, v7, v8, v9] = y.zq38_h0_26 (vl e) v0 v1 v2 v3 v4 v5 v6 v7 v8 v9 := Zac (s.zq38_h0_26 e _ v0 v1 v2 v3 v4 v5 v6 v7 v8 v9)
noncomputable def y.zq28_h0 (Γ : Gam) (v0 v1 v2 v3 v4 v5 : V) : Option V :=
 pr .scs [v1] fun v6=>pr (.bin .gtr .no) [v2, .int .i64 16] fun v7=>vif v7 (some (.tup [.sl false 33 [], .int .i64 8, v3, v4, v5])) (pr (.ld (some 32) 0) [v6] fun v8=>ch Γ 11072 [.str [116, 114, 101, 101], v8, v4, v5] fun v9=>pr (.ext 0) [v9] fun v10=>pr (.ext 1) [v9] fun v11=>pr (.ext 2) [v9] fun v12=>pr (.ext 3) [v9] fun v13=>pr (.un .not) [v11] fun v14=>vif v14 (some (.tup [.sl false 33 [], .int .i64 5, v3, v12, v13])) (ca Γ 68 [v10] fun v15=>pr (.ext 0) [v15] fun v16=>pr (.ext 1) [v15] fun v17=>pr (.len false) [v16] fun v18=>Γ 10720 30 [v0, v2, v3, .sl false 33 [], v16, v18, .int .i64 0, v12, v13]))
theorem s.zq28_h0 (e : Ev) (Γ : Gam) (v0 v1 v2 v3 v4 v5 : V) : stp e Γ 10720 1 [v0, v1, v2, v3, v4, v5] = y.zq28_h0 Γ v0 v1 v2 v3 v4 v5 := by kernel_rfl
theorem w.zq28_h0 (e : Ev) (v0 v1 v2 v3 v4 v5 : V) : vl e 10720 1 [v0, v1, v2, v3, v4, v5] = y.zq28_h0 (vl e) v0 v1 v2 v3 v4 v5 := Zac (s.zq28_h0 e _ v0 v1 v2 v3 v4 v5)
noncomputable def y.zq28_h0_30 (Γ : Gam) (v0 v1 v2 v3 v4 v5 v6 v7 v8 : V) : Option V :=
 pr (.bin .lss .no) [v6, v5] fun v9=>vif v9 (pr (.elem 34) [v4, v6] fun v10=>pr (.ld (some 34) 0) [v10] fun v11=>pr (.cat [some 34]) [v11] fun v12=>pr (.bin .eql .no) [v2, .int .i64 0] fun v13=>vif v13 (some (.tup [.sl false 33 [], .int .i64 3, v2, v7, v8])) (pr (.bin .sub .no) [v2, .int .i64 1] fun v14=>pr (.ld none 0) [v12] fun v15=>pr (.bsl 1) [v0, v15] fun v16=>ca Γ 69 [v16] fun v17=>pr (.ld none 1) [v12] fun v18=>pr (.un .not) [v18] fun v19=>vif v19 (pr (.ld (some 32) 2) [v12] fun v20=>pr (.cat [none, some 32]) [v17, v20] fun v21=>pr (.bsl 33) [v21] fun v22=>pr (.app 33) [v3, v22] fun v23=>pr (.bin .add .no) [v6, .int .i64 1] fun v24=>Γ 10720 30 [v0, v1, v14, v23, v4, v5, v24, v7, v8]) (pr (.ld (some 32) 2) [v12] fun v20=>pr (.bin .add .no) [v1, .int .i64 1] fun v21=>ch Γ 10720 [v17, v20, v21, v14, v7, v8] fun v22=>pr (.ext 0) [v22] fun v23=>pr (.ext 1) [v22] fun v24=>pr (.ext 2) [v22] fun v25=>pr (.ext 3) [v22] fun v26=>pr (.ext 4) [v22] fun v27=>pr (.bin .neq .no) [v24, .int .i64 0] fun v28=>vif v28 (some (.tup [.sl false 33 [], v24, v25, v26, v27])) (pr (.app 33) [v3, v23] fun v29=>pr (.bin .add .no) [v6, .int .i64 1] fun v30=>Γ 10720 30 [v0, v1, v25, v29, v4, v5, v30, v26, v27])))) (some (.tup [v3, .int .i64 0, v2, v7, v8]))
theorem s.zq28_h0_30 (e : Ev) (Γ : Gam) (v0 v1 v2 v3 v4 v5 v6 v7 v8 : V) : stp e Γ 10720 30 [v0, v1, v2, v3, v4, v5, v6, v7, v8] = y.zq28_h0_30 Γ v0 v1 v2 v3 v4 v5 v6 v7 v8 := by kernel_rfl
theorem w.zq28_h0_30 (e : Ev) (v0 v1 v2 v3 v4 v5 v6 v7 v8 : V) : vl e 10720 30 [v0, v1, v2, v3, v4, v5, v6, v7, v8] = y.zq28_h0_30 (vl e) v0 v1 v2 v3 v4 v5 v6 v7 v8 := Zac (s.zq28_h0_30 e _ v0 v1 v2 v3 v4 v5 v6 v7 v8)
noncomputable def y.zq73_h1 (Γ : Gam) (v0 v1 v2 v3 : V) : Option V :=
 Γ 10849 8 [v0, v1, v2, .int .i64 20, .int .i64 0, .int .i64 20, v3]
theorem s.zq73_h1 (e : Ev) (Γ : Gam) (v0 v1 v2 v3 : V) : stp e Γ 10849 1 [v0, v1, v2, v3] = y.zq73_h1 Γ v0 v1 v2 v3 := by kernel_rfl
theorem w.zq73_h1 (e : Ev) (v0 v1 v2 v3 : V) : vl e 10849 1 [v0, v1, v2, v3] = y.zq73_h1 (vl e) v0 v1 v2 v3 := Zac (s.zq73_h1 e _ v0 v1 v2 v3)
noncomputable def y.zq73_h1_8 (Γ : Gam) (v0 v1 v2 v3 v4 v5 v6 : V) : Option V :=
 pr (.bin .leq .no) [v5, v1] fun v7=>vif v7 (ch Γ 11137 [v0, v4, v5, v2, v6] fun v8=>pr (.bin .add .no) [v5, v3] fun v10=>Γ 10849 8 [v0, v1, v2, v3, v5, v10, v8]) (ch Γ 11137 [v0, v4, v1, v2, v6] fun v8=>Γ 10849 24 [v0, v1, v2, v3, v8])
theorem s.zq73_h1_8 (e : Ev) (Γ : Gam) (v0 v1 v2 v3 v4 v5 v6 : V) : stp e Γ 10849 8 [v0, v1, v2, v3, v4, v5, v6] = y.zq73_h1_8 Γ v0 v1 v2 v3 v4 v5 v6 := by kernel_rfl
theorem w.zq73_h1_8 (e : Ev) (v0 v1 v2 v3 v4 v5 v6 : V) : vl e 10849 8 [v0, v1, v2, v3, v4, v5, v6] = y.zq73_h1_8 (vl e) v0 v1 v2 v3 v4 v5 v6 := Zac (s.zq73_h1_8 e _ v0 v1 v2 v3 v4 v5 v6)
noncomputable def y.zq73_h1_24 (Γ : Gam) (v0 v1 v2 v3 v4 : V) : Option V :=
 pr (.bin .lss .no) [v3, v1] fun v5=>vif v5 (pr (.bin .mul .no) [.int .i64 2, v3] fun v6=>Γ 10849 36 [v0, v1, v2, v3, .int .i64 0, v6, v4]) (some v4)
theorem s.zq73_h1_24 (e : Ev) (Γ : Gam) (v0 v1 v2 v3 v4 : V) : stp e Γ 10849 24 [v0, v1, v2, v3, v4] = y.zq73_h1_24 Γ v0 v1 v2 v3 v4 := by kernel_rfl
theorem w.zq73_h1_24 (e : Ev) (v0 v1 v2 v3 v4 : V) : vl e 10849 24 [v0, v1, v2, v3, v4] = y.zq73_h1_24 (vl e) v0 v1 v2 v3 v4 := Zac (s.zq73_h1_24 e _ v0 v1 v2 v3 v4)
noncomputable def y.zq36_h0 (Γ : Gam) (v0 v1 v2 v3 : V) : Option V :=
 pr .scs [v0] fun v4=>pr (.ld (some 32) 0) [v4] fun v5=>pr (.mlk (true, (repl 32 ((some .u8, true)))) (.str []) true) [v2, v5] fun v6=>pr (.ext 0) [v6] fun v7=>pr (.ext 1) [v6] fun v8=>pr (.un .not) [v8] fun v9=>vif v9 (some (.tup [.sl false 34 [], .int .i64 5, v1, v2, v3])) (ca Γ 87 [v7] fun v10=>pr (.ext 0) [v10] fun v11=>pr (.ext 1) [v10] fun v12=>some (.tup [v11, v12, v1, v2, v3]))
theorem s.zq36_h0 (e : Ev) (Γ : Gam) (v0 v1 v2 v3 : V) : stp e Γ 11056 1 [v0, v1, v2, v3] = y.zq36_h0 Γ v0 v1 v2 v3 := by kernel_rfl
theorem w.zq36_h0 (e : Ev) (v0 v1 v2 v3 : V) : vl e 11056 1 [v0, v1, v2, v3] = y.zq36_h0 (vl e) v0 v1 v2 v3 := Zac (s.zq36_h0 e _ v0 v1 v2 v3)
noncomputable def y.zq26_h0 (Γ : Gam) (v0 v1 v2 v3 : V) : Option V :=
 pr .scs [v1] fun v4=>pr (.len false) [v2] fun v5=>Γ 11072 8 [v0, v2, v5, .int .i64 0, v2, v3, v4]
theorem s.zq26_h0 (e : Ev) (Γ : Gam) (v0 v1 v2 v3 : V) : stp e Γ 11072 1 [v0, v1, v2, v3] = y.zq26_h0 Γ v0 v1 v2 v3 := by kernel_rfl
theorem w.zq26_h0 (e : Ev) (v0 v1 v2 v3 : V) : vl e 11072 1 [v0, v1, v2, v3] = y.zq26_h0 (vl e) v0 v1 v2 v3 := Zac (s.zq26_h0 e _ v0 v1 v2 v3)
noncomputable def y.zq26_h0_8 (Γ : Gam) (v0 v1 v2 v3 v4 v5 v6 : V) : Option V :=
 pr (.bin .lss .no) [v3, v2] fun v7=>vif v7 (pr (.elem 34) [v1, v3] fun v8=>pr (.ld (some 34) 0) [v8] fun v9=>pr (.cat [some 34]) [v9] fun v10=>pr (.ld none 0) [v10] fun v11=>pr (.bin .eql .no) [v11, v0] fun v12=>vif v12 (pr (.ld (some 32) 1) [v10] fun v13=>pr (.ld (some 32) 0) [v6] fun v14=>pr (.bin .eql (.flat [(some .u8, true), (some .u8, true), (some .u8, true), (some .u8, true), (some .u8, true), (some .u8, true), (some .u8, true), (some .u8, true), (some .u8, true), (some .u8, true), (some .u8, true), (some .u8, true), (some .u8, true), (some .u8, true), (some .u8, true), (some .u8, true), (some .u8, true), (some .u8, true), (some .u8, true), (some .u8, true), (some .u8, true), (some .u8, true), (some .u8, true), (some .u8, true), (some .u8, true), (some .u8, true), (some .u8, true), (some .u8, true), (some .u8, true), (some .u8, true), (some .u8, true), (some .u8, true)])) [v13, v14] fun v15=>vif v15 (pr (.ld none 33) [v10] fun v16=>some (.tup [v16, .bool true, v4, v5])) (pr (.bin .add .no) [v3, .int .i64 1] fun v16=>Γ 11072 8 [v0, v1, v2, v16, v4, v5, v6])) (pr (.bin .add .no) [v3, .int .i64 1] fun v13=>Γ 11072 8 [v0, v1, v2, v13, v4, v5, v6])) (some (.tup [.str [], .bool false, v4, v5]))
theorem s.zq26_h0_8 (e : Ev) (Γ : Gam) (v0 v1 v2 v3 v4 v5 v6 : V) : stp e Γ 11072 8 [v0, v1, v2, v3, v4, v5, v6] = y.zq26_h0_8 Γ v0 v1 v2 v3 v4 v5 v6 := by kernel_rfl
theorem w.zq26_h0_8 (e : Ev) (v0 v1 v2 v3 v4 v5 v6 : V) : vl e 11072 8 [v0, v1, v2, v3, v4, v5, v6] = y.zq26_h0_8 (vl e) v0 v1 v2 v3 v4 v5 v6 := Zac (s.zq26_h0_8 e _ v0 v1 v2 v3 v4 v5 v6)
noncomputable def y.zq71_h1 (Γ : Gam) (v0 v1 v2 v3 v4 : V) : Option V :=
 pr (.bin .add .no) [v1, .int .i64 1] fun v5=>Γ 11137 5 [v0, v1, v2, v3, v5, v4]
theorem s.zq71_h1 (e : Ev) (Γ : Gam) (v0 v1 v2 v3 v4 : V) : stp e Γ 11137 1 [v0, v1, v2, v3, v4] = y.zq71_h1 Γ v0 v1 v2 v3 v4 := by kernel_rfl
theorem w.zq71_h1 (e : Ev) (v0 v1 v2 v3 v4 : V) : vl e 11137 1 [v0, v1, v2, v3, v4] = y.zq71_h1 (vl e) v0 v1 v2 v3 v4 := Zac (s.zq71_h1 e _ v0 v1 v2 v3 v4)
noncomputable def y.zq71_h1_5 (Γ : Gam) (v0 v1 v2 v3 v4 v5 : V) : Option V :=
 pr (.bin .lss .no) [v4, v2] fun v6=>vif v6 (Γ 11137 17 [v0, v1, v2, v3, v4, v4, v5]) (some v5)
theorem s.zq71_h1_5 (e : Ev) (Γ : Gam) (v0 v1 v2 v3 v4 v5 : V) : stp e Γ 11137 5 [v0, v1, v2, v3, v4, v5] = y.zq71_h1_5 Γ v0 v1 v2 v3 v4 v5 := by kernel_rfl
theorem w.zq71_h1_5 (e : Ev) (v0 v1 v2 v3 v4 v5 : V) : vl e 11137 5 [v0, v1, v2, v3, v4, v5] = y.zq71_h1_5 (vl e) v0 v1 v2 v3 v4 v5 := Zac (s.zq71_h1_5 e _ v0 v1 v2 v3 v4 v5)
noncomputable def y.zq71_h1_17 (Γ : Gam) (v0 v1 v2 v3 v4 v5 v6 : V) : Option V :=
 pr (.bin .gtr .no) [v5, v1] fun v7=>vif v7 (pr .chkd [v0, v5] fun v8=>pr (.ldd (some 2) 0 2) [v6, v8] fun v9=>pr (.bin .sub .no) [v5, .int .i64 1] fun v10=>pr .chkd [v0, v10] fun v11=>pr (.ldd (some 2) 0 2) [v6, v11] fun v12=>cv Γ v3 [v9, v12] fun v13=>pr (.bin .lss .no) [v13, .int .i64 0] fun v14=>vif v14 (pr (.bin .sub .no) [v5, .int .i64 1] fun v15=>pr (.bin .sub .no) [v5, .int .i64 1] fun v16=>pr .chkd [v0, v16] fun v17=>pr (.ldd (some 2) 0 2) [v6, v17] fun v18=>pr .chkd [v0, v5] fun v19=>pr (.ldd (some 2) 0 2) [v6, v19] fun v20=>pr .chkd [v0, v5] fun v21=>pr (.std 2 0 2) [v6, v21, v18] fun v22=>pr .chkd [v0, v15] fun v23=>pr (.std 2 0 2) [v22, v23, v20] fun v24=>pr (.bin .sub .no) [v5, .int .i64 1] fun v25=>Γ 11137 17 [v0, v1, v2, v3, v4, v25, v24]) (pr (.bin .add .no) [v4, .int .i64 1] fun v15=>Γ 11137 5 [v0, v1, v2, v3, v15, v6])) (pr (.bin .add .no) [v4, .int .i64 1] fun v8=>Γ 11137 5 [v0, v1, v2, v3, v8, v6])
theorem s.zq71_h1_17 (e : Ev) (Γ : Gam) (v0 v1 v2 v3 v4 v5 v6 : V) : stp e Γ 11137 17 [v0, v1, v2, v3, v4, v5, v6] = y.zq71_h1_17 Γ v0 v1 v2 v3 v4 v5 v6 := by kernel_rfl
theorem w.zq71_h1_17 (e : Ev) (v0 v1 v2 v3 v4 v5 v6 : V) : vl e 11137 17 [v0, v1, v2, v3, v4, v5, v6] = y.zq71_h1_17 (vl e) v0 v1 v2 v3 v4 v5 v6 := Zac (s.zq71_h1_17 e _ v0 v1 v2 v3 v4 v5 v6)
noncomputable def y.zq35_h0 (Γ : Gam) (v0 v1 v2 : V) : Option V :=
 pr .mln [v0] fun v3=>pr .mln [v1] fun v4=>pr (.bin .add .no) [v3, v4] fun v5=>pr .mln [v2] fun v6=>pr (.bin .add .no) [v5, v6] fun v7=>some (.tup [v7, v0, v1, v2])
theorem s.zq35_h0 (e : Ev) (Γ : Gam) (v0 v1 v2 : V) : stp e Γ 10448 1 [v0, v1, v2] = y.zq35_h0 Γ v0 v1 v2 := by kernel_rfl
theorem w.zq35_h0 (e : Ev) (v0 v1 v2 : V) : vl e 10448 1 [v0, v1, v2] = y.zq35_h0 (vl e) v0 v1 v2 := Zac (s.zq35_h0 e _ v0 v1 v2)
noncomputable def y.zq37_h0 (Γ : Gam) (v0 v1 v2 v3 v4 v5 v6 : V) : Option V :=
 Γ 10624 8 [v0, v1, v2, .sl false 34 [], v3, v4, v5, v6, (.agg (repl 32 (.int .u8 0)))]
theorem s.zq37_h0 (e : Ev) (Γ : Gam) (v0 v1 v2 v3 v4 v5 v6 : V) : stp e Γ 10624 1 [v0, v1, v2, v3, v4, v5, v6] = y.zq37_h0 Γ v0 v1 v2 v3 v4 v5 v6 := by kernel_rfl
theorem w.zq37_h0 (e : Ev) (v0 v1 v2 v3 v4 v5 v6 : V) : vl e 10624 1 [v0, v1, v2, v3, v4, v5, v6] = y.zq37_h0 (vl e) v0 v1 v2 v3 v4 v5 v6 := Zac (s.zq37_h0 e _ v0 v1 v2 v3 v4 v5 v6)
noncomputable def y.zq37_h0_8 (Γ : Gam) (v0 v1 v2 v3 v4 v5 v6 v7 v8 : V) : Option V :=
 pr .vlen [v1, v2] fun v9=>pr (.bin .gtr .no) [v9, .int .i64 0] fun v10=>vif v10 (pr .vidx [v1, v2, .int .i64 0] fun v11=>pr (.ldd none 0 2) [v4, v11] fun v12=>ca Γ 38 [v0, v12] fun v13=>pr (.ext 0) [v13] fun v14=>pr (.ext 1) [v13] fun v15=>ca Γ 55 [v14] fun v16=>pr (.elem 1) [v16, .int .i64 0] fun v17=>pr (.ld none 0) [v17] fun v18=>pr (.bin .eql .no) [v18, v14] fun v19=>vif v19 (pr .vidx [v1, v2, .int .i64 0] fun v20=>pr (.ldd none 1 2) [v4, v20] fun v21=>ch Γ 10224 [v21, v5, v6, v7] fun v22=>pr (.ext 0) [v22] fun v23=>pr (.ext 1) [v22] fun v24=>pr (.ext 2) [v22] fun v25=>pr (.ext 3) [v22] fun v26=>pr (.ext 4) [v22] fun v27=>pr (.cat [some 32]) [v23] fun v28=>pr (.bin .neq .no) [v24, .int .i64 0] fun v29=>vif v29 (pr (.cat [some 32]) [v28] fun v30=>some (.tup [v30, v24, v4, v25, v26, v27])) (pr (.cat [none, some 32]) [v18, v28] fun v30=>pr (.cat [none, none, some 32]) [v18, .bool false, v28] fun v31=>pr (.bsl 34) [v31] fun v32=>pr (.app 34) [v3, v32] fun v33=>pr .vadd [v1, v2, .int .i64 1] fun v34=>Γ 10624 8 [v0, v34, v2, v33, v4, v25, v26, v27, v8])) (pr (.bsl 1) [v0, v18] fun v20=>ca Γ 61 [v20] fun v21=>Γ 10624 44 [v0, v1, v2, v3, v18, v21, .int .i64 0, v4, v5, v6, v7, v8])) (ch Γ 10256 [v3, v5, v6, v7] fun v11=>pr (.ext 0) [v11] fun v12=>pr (.ext 1) [v11] fun v13=>pr (.ext 2) [v11] fun v14=>pr (.ext 3) [v11] fun v15=>pr (.ext 4) [v11] fun v16=>pr (.cat [some 32]) [v12] fun v17=>some (.tup [v17, v13, v4, v14, v15, v16]))
theorem s.zq37_h0_8 (e : Ev) (Γ : Gam) (v0 v1 v2 v3 v4 v5 v6 v7 v8 : V) : stp e Γ 10624 8 [v0, v1, v2, v3, v4, v5, v6, v7, v8] = y.zq37_h0_8 Γ v0 v1 v2 v3 v4 v5 v6 v7 v8 := by kernel_rfl
theorem w.zq37_h0_8 (e : Ev) (v0 v1 v2 v3 v4 v5 v6 v7 v8 : V) : vl e 10624 8 [v0, v1, v2, v3, v4, v5, v6, v7, v8] = y.zq37_h0_8 (vl e) v0 v1 v2 v3 v4 v5 v6 v7 v8 := Zac (s.zq37_h0_8 e _ v0 v1 v2 v3 v4 v5 v6 v7 v8)
end Go.Proofs.YtpmgdngjbdkdfaaGreatDoor

namespace Go.Proofs.YtpmgdngjbdkdfaaGreatDoor
open Go.Abs
theorem Zas {i n : Nat} (h : i < n) (hn : n <= 1152921504606846976) : IntKind.i64.wrap ((i : Int) + 1) = ((i + 1 : Nat) : Int) := w64 _ (by omega)
theorem Z5p {x : Bytes} : evp .s2b [.str x] = some (.sl false 1 (encB x)) := rfl
abbrev I (n : Int) : V := .int .i64 n
abbrev strs (l : List Bytes) : V := .sl false 1 (l.map .str)
theorem Zi4 {l : List Bytes} {x : Bytes} (h : l.length + 1 <= Lim) : evp (.app 1) [strs l, .sl false 1 [.str x]] = some (strs (l ++ [x])) := by
 rw [strs, Zk2 (by simpa using h)]; simp
theorem Zge {x : Bytes} : evp (.bsl 1) [.str x] = some (.sl false 1 [.str x]) := rfl
theorem Zkm {l : List Bytes} {i : Nat} (h : i < l.length) : evp (.elem 1) [strs l, .int .i64 i] = some (.str l[i]) := Zfu (by simp [h])
theorem Zft {x : Bytes} : evp (.ld none 0) [.str x] = some (.str x) := rfl
theorem Zd0 {l : List Bytes} : evp (.len false) [strs l] = some (.int .i64 l.length) := by rw [strs, Zqc, Xb4]
theorem Zub {o : Option V} {v : V} {k : V -> Option V} {R : Option V} (h : o = some v) (hk : k v = R) : o.bind k = R := by rw [h]; exact hk
theorem Zk8 {k : IntKind} {a b : Int} : evp (.bin .mul .no) [.int k a, .int k b] = some (.int k (k.wrap (a * b))) := by simp [evp, abin, aint]
theorem Zv0 {k : Nat} (h0 : k ≠ 0) {n : Nat} (h : n < 4611686018427387904) : evp (.bin .quo .no) [.int .i64 (n : Int), .int .i64 (k : Int)] = some (.int .i64 ((n / k : Nat) : Int)) := by
 show (if (k : Int) = 0 then none else some (V.int .i64 (IntKind.i64.wrap ((n : Int).tdiv (k : Int))))) = _
 have := Xev n k
 have e1 : (n : Int).tdiv (k : Int) = ((n / k : Nat) : Int) := (Int.ofNat_tdiv n k).symm
 rw [if_neg (by omega), e1]
 generalize n / k = q at *
 rw [w64 _ (by omega)]
theorem Zqo {k : Nat} (h0 : k ≠ 0) {n : Nat} : evp (.bin .rem .no) [.int .i64 (n : Int), .int .i64 (k : Int)] = some (.int .i64 ((n % k : Nat) : Int)) := by
 show (if (k : Int) = 0 then none else some (V.int .i64 ((n : Int).tmod (k : Int)))) = _
 rw [if_neg (by omega), <- Int.ofNat_tmod]
abbrev bsl (l : Bytes) : V := .sl false 1 (l.map byteV)
theorem Zdk : ∀ l : Bytes, Zbq (l.map byteV) = some l
 | [] => rfl
 | c :: r => by
  have ih := Zdk r
  have hc : UInt8.ofNat ((c.toNat : Int).toNat) = c := by rw [Xbq]; exact UInt8.ofNat_toNat
  show ((Zbq (r.map byteV)).map (UInt8.ofNat ((c.toNat : Int).toNat) :: ·)) = _
  rw [ih, hc]; rfl
theorem Z1r {l : Bytes} : evp .b2s [bsl l] = some (.str l) := by
 show (Zbq (l.map byteV)).map V.str = _
 rw [Zdk]; rfl
theorem Z2h {sz : Nat} {l : List V} {i : Nat} (h : i <= l.length) : evp (.slc sz true false false) [.sl false sz l, .int .i64 (i : Int)] = some (.sl false sz (l.drop i)) := by
 simp only [evp, Zu6, vSlc, vOpt]
 simp [cut3, h]
theorem Zkq {n i : Nat} (h : i < n) : evp .chkd [I n, I i] = some (I i) := by
 show (if 0 <= (i : Int) /\ (i : Int) < (n : Int) then some (V.int .i64 (i : Int)) else none) = _
 rw [if_pos (by omega)]
theorem Zz9 {n i : Nat} (h : i <= n) : evp .chkl [I n, I i] = some (I i) := by
 show (if 0 <= (i : Int) /\ (i : Int) <= (n : Int) then some (V.int .i64 (i : Int)) else none) = _
 rw [if_pos (by omega)]
end Go.Proofs.YtpmgdngjbdkdfaaGreatDoor
namespace Go.Proofs.YtpmgdngjbdkdfaaGreatDoor
open Go.Abs
set_option maxRecDepth 10000
variable {e : Ev}
abbrev Fi := Bytes × Bytes
abbrev fv (f : Fi) : V := .agg [.str f.1, .str f.2]
def fl : List Fi -> List V
 | [] => []
 | f :: r => .str f.1 :: .str f.2 :: fl r
abbrev aggF (l : List Fi) : V := .agg (fl l)
abbrev Zfg (l : List Fi) : V := .sl false 2 (l.map fv)
theorem Zq8 : ∀ l : List Fi, (fl l).length = 2 * l.length
 | [] => rfl
 | f :: r => by simp only [fl, Xa1, Zq8 r]; omega
theorem Zxx : ∀ l m : List Fi, fl (l ++ m) = fl l ++ fl m
 | [], m => rfl
 | f :: r, m => by simp only [Xc2, fl, Zxx r m]
theorem Znv : ∀ (l : List Fi) (i : Nat), (fl l).drop (i * 2) = fl (l.drop i)
 | l, 0 => by simp
 | [], i + 1 => by simp [fl]
 | f :: r, i + 1 => by
  have := Znv r i
  rw [show (i + 1) * 2 = i * 2 + 1 + 1 by omega]
  simpa only [fl, Xet] using this
theorem Ztd : ∀ (l : List Fi) (i : Nat), (fl l).take (i * 2) = fl (l.take i)
 | l, 0 => by simp [fl]
 | [], i + 1 => by simp [fl]
 | f :: r, i + 1 => by
  have := Ztd r i
  rw [show (i + 1) * 2 = i * 2 + 1 + 1 by omega]
  simp only [fl, Xcy, this]
theorem Zxy {l : List Fi} {i : Nat} (h : i < l.length) : evp (.ldd (some 2) 0 2) [aggF l, I i] = some (fv l[i]) := by
 show Zaf (some 2) (fl l) (0 + (i : Int).toNat * 2) = _
 have hd : (fl l).drop (i * 2) = .str l[i].1 :: .str l[i].2 :: fl (l.drop (i + 1)) := by rw [Znv, Xa0 h]; rfl
 simp only [Zaf, Xbq, Xan]
 rw [if_pos (by rw [Zq8]; omega), hd]; rfl
theorem Zw2 {l : List Fi} {i : Nat} {x : Fi} (h : i < l.length) : evp (.std 2 0 2) [aggF l, I i, fv x] = some (aggF (l.set i x)) := by
 show vSet 2 (0 + (i : Int).toNat * 2) (aggF l) (fv x) = _
 unfold vSet
 rw [if_pos ⟨rfl, rfl, by simp [V.cells, Zq8]; omega⟩]
 simp only [V.cells, Xan, Xbq, Zaq, Xa1, Xbb]
 rw [Ztd, show i * 2 + (0 + 1 + 1) = (i + 1) * 2 by omega, Znv, Xci, if_pos h, aggF, Zxx]; simp only [fl, Xai, Xc2, Xbh]
theorem Zr6 {a b : Nat} (h : a + b <= 1152921504606846976) : IntKind.i64.wrap ((a : Int) + (b : Int)) = ((a + b : Nat) : Int) := by
 rw [<- Int.natCast_add]; exact w64 _ (by omega)
theorem Z6v {a b : Nat} (hb : b <= a) (h : a <= 1152921504606846976) : IntKind.i64.wrap ((a : Int) - (b : Int)) = ((a - b : Nat) : Int) := by
 rw [<- Int.ofNat_sub hb]; exact w64 _ (by omega)
theorem Zs9 {a : Nat} (hb : 1 <= a) (h : a <= 1152921504606846976) : IntKind.i64.wrap ((a : Int) - 1) = ((a - 1 : Nat) : Int) := Z6v (b := 1) hb h
theorem Zvk {α : Type} {p : List α -> Prop} (h0 : p []) (h1 : ∀ l x, p l -> p (l ++ [x])) (l : List α) : p l := by
 rw [<- List.reverse_reverse l]
 generalize l.reverse = m
 induction m with
 | nil => exact h0
 | cons x m ih => rw [List.reverse_cons]; exact h1 _ _ ih
structure Ord (e : Ev) (G : Fi -> Prop) (cmp : Fi -> Fi -> Int) : Prop where
 run : ∀ a b, G a -> G b -> Zej (vl e) (.fn 35 []) [fv a, fv b] = some (I (cmp a b))
 asy : ∀ a b, cmp a b < 0 -> ¬ cmp b a < 0
 tr : ∀ a b c, ¬ cmp b a < 0 -> ¬ cmp c b < 0 -> ¬ cmp c a < 0
abbrev Le (cmp : Fi -> Fi -> Int) (a b : Fi) : Prop := ¬ cmp b a < 0
abbrev So (cmp : Fi -> Fi -> Int) (l : List Fi) : Prop := l.Pairwise (Le cmp)
abbrev cmpV : V := .fn 35 []
section
variable {G : Fi -> Prop} {cmp : Fi -> Fi -> Int} (ho : Ord e G cmp)
include ho
theorem v.ins17 (pre : List Fi) (b : Nat) (hb : b <= 1000000000) (i n : Nat) : ∀ (T1 T2 rest : List Fi) (x : Fi), (∀ f ∈ pre ++ (T1 ++ x :: T2) ++ rest, G f) -> So cmp (T1 ++ T2) -> (∀ t ∈ T2, cmp x t < 0) -> (pre ++ (T1 ++ x :: T2) ++ rest).length = n -> n <= 1000000000 -> i <= 1000000000 ->
  ∃ S, S.Perm (T1 ++ x :: T2) /\ So cmp S /\ vl e 11137 17 [I n, I pre.length, I b, cmpV, I i, I (pre.length + T1.length : Nat), aggF (pre ++ (T1 ++ x :: T2) ++ rest)] = vl e 11137 5 [I n, I pre.length, I b, cmpV, I (i + 1 : Nat), aggF (pre ++ S ++ rest)] := by
 intro T1
 induction T1 using Zvk with
 | h0 =>
  intro T2 rest x hG hs hx hn hn2 hi
  refine ⟨x :: T2, by simp, ?_, ?_⟩
  ·rw [Xbh] at hs
   exact Xeb.2 ⟨fun t ht => ho.asy _ _ (hx t ht), hs⟩
  ·rw [w.zq71_h1_17]; unfold y.zq71_h1_17
   simp only [yy, if_neg (show ¬((pre.length : Int) < ((pre.length + 0 : Nat) : Int)) by omega), Xbb, Zas (show i < i + 1 by omega) (by omega)]
   rfl
 | h1 T1 u ih =>
  intro T2 rest x hG hs hx hn hn2 hi
  have hlen := hn
  simp only [Xaq, Xa1, Xbb] at hlen
  have hj : pre.length + (T1.length + 1) < (pre ++ ((T1 ++ [u]) ++ x :: T2) ++ rest).length := by rw [hn]; omega
  have gx : (pre ++ ((T1 ++ [u]) ++ x :: T2) ++ rest)[pre.length + (T1.length + 1)]'hj = x := by
   rw [List.getElem_of_eq (show pre ++ ((T1 ++ [u]) ++ x :: T2) ++ rest = (pre ++ T1 ++ [u]) ++ x :: (T2 ++ rest) by simp)]
   rw [Xe1 (by simp)]
   simp
  have gy : (pre ++ ((T1 ++ [u]) ++ x :: T2) ++ rest)[pre.length + T1.length]'(by omega) = u := by
   rw [List.getElem_of_eq (show pre ++ ((T1 ++ [u]) ++ x :: T2) ++ rest = (pre ++ T1) ++ u :: (x :: T2 ++ rest) by simp)]
   rw [Xe1 (by simp)]
   simp
  have hc := ho.run x u (hG x (by simp)) (hG u (by simp))
  have e1 : (pre.length + (T1.length + 1) : Nat) - 1 = pre.length + T1.length := by omega
  have c1 : evp .chkd [I n, I (pre.length + (T1.length + 1) : Nat)] = some (I (pre.length + (T1.length + 1) : Nat)) := Zkq (by omega)
  have c2 : evp .chkd [I n, I (pre.length + T1.length : Nat)] = some (I (pre.length + T1.length : Nat)) := Zkq (by omega)
  have l1 : evp (.ldd (some 2) 0 2) [aggF (pre ++ ((T1 ++ [u]) ++ x :: T2) ++ rest), I (pre.length + (T1.length + 1) : Nat)] = some (fv x) := by rw [Zxy hj, gx]
  have l2 : evp (.ldd (some 2) 0 2) [aggF (pre ++ ((T1 ++ [u]) ++ x :: T2) ++ rest), I (pre.length + T1.length : Nat)] = some (fv u) := by rw [Zxy (by omega), gy]
  have p1 : IntKind.i64.wrap (((pre.length + (T1.length + 1) : Nat) : Int) - 1) = ((pre.length + T1.length : Nat) : Int) := by rw [Zs9 (by omega) (by omega), e1]
  rw [w.zq71_h1_17]; unfold y.zq71_h1_17
  simp only [Xaq, Xa1, Xbb, Xan] at *
  by_cases hlt : cmp x u < 0
  ·have s1 : evp (.std 2 0 2) [aggF (pre ++ ((T1 ++ [u]) ++ x :: T2) ++ rest), I (pre.length + (T1.length + 1) : Nat), fv u] = some (aggF (pre ++ ((T1 ++ [u]) ++ u :: T2) ++ rest)) := by
    rw [Zw2 hj]; congr 3
    rw [show pre ++ ((T1 ++ [u]) ++ x :: T2) ++ rest = (pre ++ T1 ++ [u]) ++ x :: (T2 ++ rest) by simp, Xc7 _ _ (by simp)]
    simp
   have s2 : evp (.std 2 0 2) [aggF (pre ++ ((T1 ++ [u]) ++ u :: T2) ++ rest), I (pre.length + T1.length : Nat), fv x] = some (aggF (pre ++ (T1 ++ x :: (u :: T2)) ++ rest)) := by
    rw [Zw2 (by simp)]; congr 3
    rw [show pre ++ ((T1 ++ [u]) ++ u :: T2) ++ rest = (pre ++ T1) ++ u :: (u :: T2 ++ rest) by simp, Xc7 _ _ (by simp)]
    simp
   obtain ⟨S, q1, q2, q3⟩ := ih (u :: T2) rest x (fun f hf => hG f (by grind)) (by simpa using hs) (fun t ht => by
    rcases Xay.1 ht with rfl | ht
    ·exact hlt
    ·exact hx t ht) (by simp; omega) hn2 hi
   refine ⟨S, q1.trans (by simp only [Xai, Xcn]; exact (List.Perm.swap u x T2).append_left T1), q2, ?_⟩
   simp only [yy, if_pos (show (pre.length : Int) < ((pre.length + (T1.length + 1) : Nat) : Int) by omega), c1, c2, l1, l2, p1, cv, hc, if_pos hlt, s1, s2]
   exact q3
  ·refine ⟨(T1 ++ [u]) ++ x :: T2, .refl _, ?_, ?_⟩
   ·simp only [So, Xai, Xcn] at hs ⊢
    have h1 := List.pairwise_append.1 hs
    have h2 := Xeb.1 h1.2.1
    refine List.pairwise_append.2 ⟨h1.1, Xeb.2 ⟨fun t ht => ?_, Xeb.2 ⟨fun t ht => ho.asy _ _ (hx t ht), h2.2⟩⟩, fun a ha t ht => ?_⟩
    ·rcases Xay.1 ht with rfl | ht
     ·exact hlt
     ·exact h2.1 t ht
    ·have hay : Le cmp a u := h1.2.2 a ha u (by simp)
     rcases Xay.1 ht with rfl | ht
     ·exact hay
     ·rcases Xay.1 ht with rfl | ht
      ·exact ho.tr _ _ _ hay hlt
      ·exact h1.2.2 a ha t (by simp [ht])
   ·simp only [yy, if_pos (show (pre.length : Int) < ((pre.length + (T1.length + 1) : Nat) : Int) by omega), c1, c2, l1, l2, p1, cv, hc, if_neg hlt, Zas (show i < i + 1 by omega) (by omega)]
theorem v.ins5 (pre : List Fi) (b : Nat) (hb : b <= 1000000000) (n : Nat) (hn2 : n <= 1000000000) : ∀ (rest T post : List Fi), (∀ f ∈ pre ++ (T ++ rest) ++ post, G f) -> So cmp T -> (pre ++ (T ++ rest) ++ post).length = n -> pre.length + (T ++ rest).length = b ->
  ∃ S, S.Perm (T ++ rest) /\ So cmp S /\ vl e 11137 5 [I n, I pre.length, I b, cmpV, I (pre.length + T.length : Nat), aggF (pre ++ (T ++ rest) ++ post)] = some (aggF (pre ++ S ++ post)) := by
 intro rest
 induction rest with
 | nil =>
  intro T post hG hs hn hl
  refine ⟨T, by simp, hs, ?_⟩
  rw [w.zq71_h1_5]; unfold y.zq71_h1_5
  simp only [Xau] at *
  simp only [yy, if_neg (show ¬(((pre.length + T.length : Nat) : Int) < (b : Int)) by omega)]
 | cons x rest ih =>
  intro T post hG hs hn hl
  simp only [Xaq, Xa1] at hl
  have hlen := hn
  simp only [Xaq, Xa1] at hlen
  have e0 : pre ++ (T ++ x :: rest) ++ post = pre ++ (T ++ x :: []) ++ (rest ++ post) := by simp
  obtain ⟨S, q1, q2, q3⟩ := v.ins17 ho pre b hb (pre.length + T.length) n T [] (rest ++ post) x (by rw [<- e0]; exact hG) (by simpa using hs) (by simp) (by rw [<- e0]; exact hn) hn2 (by omega)
  have hSl : S.length = T.length + 1 := by rw [q1.length_eq]; simp
  have e1 : pre ++ S ++ (rest ++ post) = pre ++ (S ++ rest) ++ post := by simp
  have hp : (S ++ rest).Perm (T ++ x :: rest) := (q1.append_right rest).trans (by simp)
  obtain ⟨S', r1, r2, r3⟩ := ih S post (fun f hf => hG f (by
   simp only [Xa2] at hf ⊢
   rcases hf with (hf | hf) | hf
   ·exact .inl (.inl hf)
   ·have := hp.mem_iff.1 (Xa2.2 hf)
    exact .inl (.inr (Xa2.1 this))
   ·exact .inr hf)) q2 (by rw [Xaq, Xaq, hp.length_eq]; simp; omega) (by rw [hp.length_eq]; simp; omega)
  refine ⟨S', r1.trans hp, r2, ?_⟩
  rw [w.zq71_h1_5]; unfold y.zq71_h1_5
  simp only [yy, if_pos (show ((pre.length + T.length : Nat) : Int) < (b : Int) by omega)]
  rw [e0, q3, e1, show pre.length + T.length + 1 = pre.length + S.length by omega]
  exact r3
theorem v.ins (pre T post : List Fi) (hG : ∀ f ∈ pre ++ T ++ post, G f) (hn2 : (pre ++ T ++ post).length <= 1000000000) (hT : T ≠ []) :
  ∃ S, S.Perm T /\ So cmp S /\ vl e 11137 1 [I (pre ++ T ++ post).length, I pre.length, I (pre.length + T.length : Nat), cmpV, aggF (pre ++ T ++ post)] = some (aggF (pre ++ S ++ post)) := by
 cases T with
 | nil => exact absurd rfl hT
 | cons x r =>
  have hl : (pre ++ x :: r ++ post).length = pre.length + (r.length + 1) + post.length := by simp; omega
  obtain ⟨S, q1, q2, q3⟩ := v.ins5 ho pre (pre.length + (x :: r).length) (by simp; omega) _ hn2 r [x] post (by simpa using hG) (by simp [So]) (by simp) (by simp)
  refine ⟨S, by simpa using q1, q2, ?_⟩
  rw [w.zq71_h1]; unfold y.zq71_h1
  simp only [yy, Zas (show pre.length < pre.length + 1 by omega) (by omega)]
  simpa using q3
end
end Go.Proofs.YtpmgdngjbdkdfaaGreatDoor
namespace Go.Proofs.YtpmgdngjbdkdfaaGreatDoor
open Go.Abs
set_option maxRecDepth 10000
variable {e : Ev}
end Go.Proofs.YtpmgdngjbdkdfaaGreatDoor
namespace Go.Proofs.YtpmgdngjbdkdfaaGreatDoor
open Go.Abs
set_option maxRecDepth 10000
variable {e : Ev}
section
variable {G : Fi -> Prop} {cmp : Fi -> Fi -> Int} (ho : Ord e G cmp)
include ho
end
end Go.Proofs.YtpmgdngjbdkdfaaGreatDoor
namespace Go.Proofs.YtpmgdngjbdkdfaaGreatDoor
open Go.Abs
set_option maxRecDepth 10000
variable {e : Ev}
section
variable {G : Fi -> Prop} {cmp : Fi -> Fi -> Int} (ho : Ord e G cmp)
include ho
end
end Go.Proofs.YtpmgdngjbdkdfaaGreatDoor
namespace Go.Proofs.YtpmgdngjbdkdfaaGreatDoor
open Go.Abs
set_option maxRecDepth 10000
variable {e : Ev}
section
variable {G : Fi -> Prop} {cmp : Fi -> Fi -> Int} (ho : Ord e G cmp)
include ho
end
end Go.Proofs.YtpmgdngjbdkdfaaGreatDoor
namespace Go.Proofs.YtpmgdngjbdkdfaaGreatDoor
open Go.Abs
set_option maxRecDepth 10000
variable {e : Ev}
section
variable {G : Fi -> Prop} {cmp : Fi -> Fi -> Int} (ho : Ord e G cmp)
include ho
end
end Go.Proofs.YtpmgdngjbdkdfaaGreatDoor
namespace Go.Proofs.YtpmgdngjbdkdfaaGreatDoor
open Go.Abs
set_option maxRecDepth 10000
theorem Zdc (c : UInt8) (s : Bytes) : Zal c s ≠ [] := by
 cases s with
 | nil => simp [Zal]
 | cons b r => simp only [Zal]; split <;> (try split) <;> simp
def addH (cur : Bytes) : List Bytes -> List Bytes
 | [] => [cur]
 | x :: xs => (cur ++ x) :: xs
theorem Zpj {l : List Bytes} (h : l ≠ []) : addH [] l = l := by
 cases l with
 | nil => exact absurd rfl h
 | cons x xs => rfl
theorem Zmu (c : UInt8) (r cur : Bytes) : addH cur (Zal c (c :: r)) = cur :: Zal c r := by simp [Zal, addH]
theorem Zmn {c b : UInt8} (h : b ≠ c) (r cur : Bytes) : addH cur (Zal c (b :: r)) = addH (cur ++ [b]) (Zal c r) := by
 simp only [Zal, if_neg h]
 cases h' : Zal c r with
 | nil => exact absurd h' (Zdc _ _)
 | cons x xs => simp [addH]
theorem Zwb {α : Type} {l : List α} {i f : Nat} (h : i < l.length) (hf : f <= i) : (l.take (i + 1)).drop f = (l.take i).drop f ++ [l[i]] := by
 rw [List.take_add_one, Xad h, Option.toList_some, Xbf (by simp; omega)]
variable {e : Ev}
end Go.Proofs.YtpmgdngjbdkdfaaGreatDoor
namespace Go.Proofs.YtpmgdngjbdkdfaaGreatDoor
open Go.Abs
set_option maxRecDepth 10000
theorem Zdu (c : UInt8) : ∀ s : Bytes, (Zal c s).length <= s.length + 1
 | [] => by simp [Zal]
 | b :: r => by
  have := Zdu c r
  simp only [Zal]
  split
  ·simp; omega
  ·split
   ·simp
   ·rename_i x xs h; rw [h] at this; simp at this ⊢; omega
def tot (k : Nat) : List Bytes -> Nat
 | [] => 0
 | x :: r => x.length + k + tot k r
theorem Ztq (k : Nat) : ∀ {l : List Bytes} {x : Bytes}, x ∈ l -> x.length + k <= tot k l
 | y :: r, x, h => by
  rcases Xay.1 h with rfl | h
  ·simp [tot]
  ·have := Ztq k h; simp [tot]; omega
theorem Zhp (c : UInt8) : ∀ s : Bytes, tot 1 (Zal c s) = s.length + 1
 | [] => by simp [Zal, tot]
 | b :: r => by
  have ih := Zhp c r
  simp only [Zal]
  split
  ·simp [tot, ih]; omega
  ·split
   ·rename_i h; exact absurd h (Zdc _ _)
   ·rename_i x xs h; rw [h] at ih; simp [tot] at ih ⊢; omega
def Zgj (sep : Bytes) : List Bytes -> Bytes
 | [] => []
 | [x] => x
 | x :: y :: r => x ++ sep ++ Zgj sep (y :: r)
theorem Zlm (sep : Bytes) : ∀ l : List Bytes, Lib.join l sep = Zgj sep l
 | [] => rfl
 | [x] => by simp [Lib.join, List.intercalate, Zgj]
 | x :: y :: r => by
  have ih := Zlm sep (y :: r)
  simp only [Lib.join, List.intercalate] at ih ⊢
  rw [Zgj, <- ih]; simp [List.intersperse]
theorem Zep {c : UInt8} : ∀ {s : Bytes}, c ∉ s -> Zal c s = [s]
 | [], _ => rfl
 | b :: r, h => by
  simp only [Xay, not_or] at h
  simp only [Zal, if_neg (Ne.symm h.1), Zep h.2]
def cmpB (a b : Bytes) : Int := if Op.bytesLess a b then -1 else if Op.bytesLess b a then 1 else 0
def cmpL : List Bytes -> List Bytes -> Int
 | [], [] => 0
 | [], _ :: _ => -1
 | _ :: _, [] => 1
 | a :: r, b :: s => if cmpB a b = 0 then cmpL r s else cmpB a b
def Zll (c : UInt8) : List Bytes -> Bytes
 | [] => []
 | [x] => x
 | x :: y :: r => x ++ c :: Zll c (y :: r)
theorem Zeu (c : UInt8) : ∀ s : Bytes, Zll c (Zal c s) = s
 | [] => rfl
 | b :: r => by
  simp only [Zal]
  have ih := Zeu c r
  split
  ·rename_i h
   subst h
   cases h' : Zal b r with
   | nil => exact absurd h' (Zdc _ _)
   | cons x xs => rw [h'] at ih; simp [Zll, ih]
  ·cases h' : Zal c r with
   | nil => exact absurd h' (Zdc _ _)
   | cons x xs =>
    rw [h'] at ih
    cases xs with
    | nil => simp [Zll] at ih ⊢; exact ih
    | cons y ys => simp only [Zll] at ih ⊢; rw [<- ih]; rfl
def Zex (s : Bytes) : Bool := !decide (s = []) && !decide (s = [46]) && !decide (s = [46, 46]) && !decide ((0 : UInt8) ∈ s) && !decide ((47 : UInt8) ∈ s)
def Zno (p : Bytes) : Bool := decide (p.length <= 128) && decide ((Zal 47 p).length <= 16) && (Zal 47 p).all Zex
theorem Zdr (c : UInt8) {s x : Bytes} (h : x ∈ Zal c s) : x.length <= s.length := by
 have := Ztq 1 h
 rw [Zhp] at this; omega
theorem Zm6 {s : Bytes} (h : Zex s = true) : (47 : UInt8) ∉ s := by
 simp only [Zex, Xag, Xbm, decide_eq_false_iff_not] at h
 exact h.2
structure EnvT (e : Ev) : Prop where
 split : ∀ (s : Bytes) (c : UInt8), s.length < 4294967281 -> e 56 [.str s, .str [c]] = some (strs (Zal c s))
 contains : ∀ (s : Bytes) (c : UInt8), s.length < 4294967281 -> e 76 [.str s, .str [c]] = some (.bool (decide (c ∈ s)))
 join : ∀ (l : List Bytes) (s : Bytes), l.length <= 1000000000 -> (Zgj s l).length <= 140737488355328 -> e 78 [strs l, .str s] = some (.str (Zgj s l))
variable {e : Ev}
theorem v.split (he : EnvT e) (s : Bytes) (c : UInt8) (hs : s.length <= 4000000000) : vl e 56 0 [.str s, .str [c]] = some (strs (Zal c s)) := Znn (by kernel_rfl) (he.split s c (by omega))
theorem v.contains (he : EnvT e) (s : Bytes) (c : UInt8) (hs : s.length <= 4000000000) : vl e 76 0 [.str s, .str [c]] = some (.bool (decide (c ∈ s))) := Znn (by kernel_rfl) (he.contains s c (by omega))
theorem v.join (he : EnvT e) (l : List Bytes) (s : Bytes) (hl : l.length <= 1000000000) (hj : (Zgj s l).length <= 140737488355328) : vl e 78 0 [strs l, .str s] = some (.str (Zgj s l)) := Znn (by kernel_rfl) (he.join l s hl hj)
theorem v.part (he : EnvT e) (s : Bytes) (hs : s.length <= 4000000000) : vl e 59 0 [.str s] = some (.bool (Zex s)) := by
 rw [w.zq24]; unfold y.zq24 Zex
 by_cases h1 : s = []
 ·simp only [yy, if_pos h1]; simp [h1]
 by_cases h2 : s = [46]
 ·simp only [yy, if_neg h1, if_pos h2]; simp [h2]
 by_cases h3 : s = [46, 46]
 ·simp only [yy, if_neg h1, if_neg h2, if_pos h3]; simp [h3]
 by_cases h4 : (0 : UInt8) ∈ s
 ·simp only [yy, if_neg h1, if_neg h2, if_neg h3, v.contains he s 0 hs, if_pos h4]; simp [h4]
 ·simp only [yy, if_neg h1, if_neg h2, if_neg h3, v.contains he s 0 hs, if_neg h4, v.contains he s 47 hs]; simp [h1, h2, h3, h4]
theorem v.gIdx (he : EnvT e) (l : List Bytes) (hl : l.length <= 1000000) (hb : ∀ x ∈ l, x.length <= 4000000000) : ∀ (n i : Nat), i + n = l.length -> ∃ z : Int, vl e 75 8 [strs l, .fn 58 [], I l.length, I i] = some (I z) /\ (0 <= z <-> (l.drop i).all Zex = false) := by
 intro n
 induction n with
 | zero =>
  intro i hi
  refine ⟨-1, ?_, by rw [Xav (by omega)]; simp⟩
  rw [w.zq69_8]; unfold y.zq69_8
  simp only [yy, if_neg (show ¬((i : Int) < (l.length : Int)) by omega)]
 | succ n ih =>
  intro i hi
  have hlt : i < l.length := by omega
  have hp : Zej (vl e) (.fn 58 []) [.str l[i]] = some (.bool (!Zex l[i])) := by
   show vl e 58 0 ([.str l[i]] ++ []) = _
   rw [Xau, w.zq19]; unfold y.zq19
   simp only [yy, v.part he l[i] (hb _ (Xba hlt))]
  have hd := Xa0 hlt
  rw [w.zq69_8]; unfold y.zq69_8
  cases hg : Zex l[i] with
  | false =>
   rw [hg] at hp
   refine ⟨i, ?_, by rw [hd, Xcc, hg]; simp⟩
   simp only [yy, if_pos (show (i : Int) < (l.length : Int) by omega), Zkm hlt, Zft, cv, hp]
  | true =>
   rw [hg] at hp
   obtain ⟨z, h1, h2⟩ := ih (i + 1) (by omega)
   refine ⟨z, ?_, by rw [hd, Xcc, hg, Xe8]; exact h2⟩
   simp only [yy, if_pos (show (i : Int) < (l.length : Int) by omega), Zkm hlt, Zft, cv, hp, Zas hlt (by omega)]
   exact h1
theorem v.Good (he : EnvT e) (p : Bytes) (hp : p.length <= 1000000) : vl e 37 0 [.str p] = some (.bool (Zno p)) := by
 rw [w.zq18]; unfold y.zq18 Zno
 by_cases h1 : p.length <= 128
 ·have hl := Zdu 47 p
  by_cases h2 : (Zal 47 p).length <= 16
  ·obtain ⟨z, q1, q2⟩ := v.gIdx he (Zal 47 p) (by omega) (fun x hx => by have := Zdr 47 hx; omega) _ 0 (Xan _)
   have hc : vl e 57 0 [strs (Zal 47 p), .fn 58 []] = some (.bool (decide ((0 : Int) <= z))) := by
    have h3 : vl e 75 0 [strs (Zal 47 p), .fn 58 []] = some (I z) := by
     rw [w.zq69]; unfold y.zq69
     simp only [yy, Zd0]
     exact q1
    rw [w.zq67]; unfold y.zq67
    simp only [yy, h3]
   simp only [yy, if_neg (show ¬((128 : Int) < (p.length : Int)) by omega), v.split he p 47 (by omega), if_pos (show ((Zal 47 p).length : Int) <= 16 by omega), hc]
   rw [Xa7] at q2
   cases ha : (Zal 47 p).all Zex with
   | false => simp [h1, h2, q2.2 ha]
   | true =>
    have : ¬ 0 <= z := fun h => by rw [q2.1 h] at ha; cases ha
    simp [h1, h2, this]
  ·simp only [yy, if_neg (show ¬((128 : Int) < (p.length : Int)) by omega), v.split he p 47 (by omega), if_neg (show ¬((Zal 47 p).length : Int) <= 16 by omega)]
   simp [h2]
 ·simp only [yy, if_pos (show (128 : Int) < (p.length : Int) by omega)]
  simp [h1]
end Go.Proofs.YtpmgdngjbdkdfaaGreatDoor
namespace Go.Proofs.YtpmgdngjbdkdfaaGreatDoor
open Go.Abs
set_option maxRecDepth 10000
variable {e : Ev}
theorem v.rParts (p : Bytes) (hp : p.length <= 1000000000) : vl e 50 0 [.str p] = some (strs (Zal 47 p)) := by
 have hLim : Lim = 4294967296 := rfl
 have key : ∀ (n i f : Nat) (acc : List Bytes), p.length + 1 = n + i -> f <= i -> acc.length <= i ->
   (i <= p.length -> vl e 50 12 [.str p, strs acc, I f, I i] = some (strs (acc ++ addH ((p.take i).drop f) (Zal 47 (p.drop i))))) /\ (i = p.length + 1 -> vl e 50 12 [.str p, strs acc, I f, I i] = some (strs acc)) := by
  intro n
  induction n with
  | zero =>
   intro i f acc hn hf ha
   refine ⟨fun h => by omega, fun h => ?_⟩
   rw [w.zq54_12]; unfold y.zq54_12
   simp only [yy, if_neg (show ¬((i : Int) <= (p.length : Int)) by omega)]
  | succ n ih =>
   intro i f acc hn hf ha
   refine ⟨fun hil => ?_, fun h => by omega⟩
   have e1 : IntKind.i64.wrap ((i : Int) + 1) = ((i + 1 : Nat) : Int) := w64 _ (by omega)
   rw [w.zq54_12]; unfold y.zq54_12
   by_cases he : i = p.length
   ·have hih := (ih (i + 1) (i + 1) (acc ++ [(p.take i).drop f]) (by omega) (Xaj _) (by simp; omega)).2 (by omega)
    simp only [yy, if_pos (show (i : Int) <= (p.length : Int) by omega), if_pos (show (i : Int) = (p.length : Int) by omega), Zp0 hf hil, Zge, Zi4 (show acc.length + 1 <= Lim by omega), e1, hih]
    rw [Xav (show p.length <= i by omega)]
    simp [Zal, addH]
   ·have hlt : i < p.length := by omega
    by_cases hc : p[i] = 47
    ·have hih := (ih (i + 1) (i + 1) (acc ++ [(p.take i).drop f]) (by omega) (Xaj _) (by simp; omega)).1 (by omega)
     have hc' : ((p[i].toNat : Nat) : Int) = 47 := by rw [hc]; rfl
     simp only [yy, if_pos (show (i : Int) <= (p.length : Int) by omega), if_neg (show ¬((i : Int) = (p.length : Int)) by omega), Ziv (Xad hlt), byteV, if_pos hc', Zp0 hf hil, Zge, Zi4 (show acc.length + 1 <= Lim by omega), e1]
     refine hih.trans ?_
     rw [Xa0 hlt, hc, Zmu, Xai]
     congr 2
     rw [show (p.take (i + 1)).drop (i + 1) = [] from Xav (by simp; omega), Zpj (Zdc _ _)]; rfl
    ·have hih := (ih (i + 1) f acc (by omega) (by omega) (by omega)).1 (by omega)
     have hne : ¬((p[i].toNat : Int) = 47) := fun h => hc (Xew.1 (by rw [show (47 : UInt8).toNat = 47 from rfl]; omega))
     simp only [yy, if_pos (show (i : Int) <= (p.length : Int) by omega), if_neg (show ¬((i : Int) = (p.length : Int)) by omega), Ziv (Xad hlt), byteV, if_neg hne, e1]
     refine hih.trans ?_
     rw [Xa0 hlt, Zmn hc, Zwb hlt hf]
 rw [w.zq54]; unfold y.zq54
 refine ((key (p.length + 1) 0 0 [] (by omega) (Xaj _) (Xaj _)).1 (Xc8 _)).trans ?_
 simp [Zpj (Zdc _ _)]
theorem Zoa {a b : UInt8} : ((a.toNat : Nat) : Int) = ((b.toNat : Nat) : Int) <-> a = b := ⟨fun h => Xew.1 (by omega), fun h => by rw [h]⟩
theorem v.rPart8 (s : Bytes) (hs : s.length <= 1000000000) : ∀ (n i : Nat), i + n = s.length -> vl e 51 8 [.str s, I i] = some (.bool (decide ((0 : UInt8) ∉ s.drop i) && decide ((47 : UInt8) ∉ s.drop i) && (!decide (s = []) && !decide (s = [46]) && !decide (s = [46, 46])))) := by
 intro n
 induction n with
 | zero =>
  intro i hi
  rw [w.zq53_8, Xav (show s.length <= i by omega)]; unfold y.zq53_8
  by_cases h1 : s = []
  ·simp only [yy, if_neg (show ¬((i : Int) < (s.length : Int)) by omega), if_pos h1]; simp [h1]
  by_cases h2 : s = [46]
  ·simp only [yy, if_neg (show ¬((i : Int) < (s.length : Int)) by omega), if_neg h1, if_pos h2]; simp [h2]
  simp only [yy, if_neg (show ¬((i : Int) < (s.length : Int)) by omega), if_neg h1, if_neg h2]; simp [h1, h2]
 | succ n ih =>
  intro i hi
  have hlt : i < s.length := by omega
  have hd := Xa0 hlt
  rw [w.zq53_8]; unfold y.zq53_8
  by_cases h0 : s[i] = 0
  ·have h0' : ((s[i].toNat : Nat) : Int) = 0 := by rw [h0]; rfl
   simp only [yy, if_pos (show (i : Int) < (s.length : Int) by omega), Ziv (Xad hlt), byteV, if_pos h0']
   have : (0 : UInt8) ∈ s.drop i := by rw [hd, h0]; exact Xex
   rw [decide_eq_false (fun h => h this)]; rfl
  ·have h0' : ¬((s[i].toNat : Nat) : Int) = 0 := fun h => h0 (Zoa.1 (by rw [h]; rfl))
   by_cases h1 : s[i] = 47
   ·have h1' : ((s[i].toNat : Nat) : Int) = 47 := by rw [h1]; rfl
    simp only [yy, if_pos (show (i : Int) < (s.length : Int) by omega), Ziv (Xad hlt), byteV, if_neg h0', if_pos h1']
    have : (47 : UInt8) ∈ s.drop i := by rw [hd, h1]; exact Xex
    rw [decide_eq_false (p := ¬(47 : UInt8) ∈ s.drop i) (fun h => h this), Xfi]; rfl
   ·have h1' : ¬((s[i].toNat : Nat) : Int) = 47 := fun h => h1 (Zoa.1 (by rw [h]; rfl))
    simp only [yy, if_pos (show (i : Int) < (s.length : Int) by omega), Ziv (Xad hlt), byteV, if_neg h0', if_neg h1', Zas hlt (by omega)]
    have m0 : (0 : UInt8) ∈ s.drop i <-> (0 : UInt8) ∈ s.drop (i + 1) := by rw [hd, Xay]; exact ⟨fun h => h.resolve_left (Ne.symm h0), .inr⟩
    have m1 : (47 : UInt8) ∈ s.drop i <-> (47 : UInt8) ∈ s.drop (i + 1) := by rw [hd, Xay]; exact ⟨fun h => h.resolve_left (Ne.symm h1), .inr⟩
    rw [ih (i + 1) (by omega)]
    simp only [m0, m1]
theorem v.rPart (s : Bytes) (hs : s.length <= 1000000000) : vl e 51 0 [.str s] = some (.bool (Zex s)) := by
 rw [w.zq53]; unfold y.zq53
 refine (v.rPart8 s hs s.length 0 (Xan _)).trans ?_
 rw [Xa7]
 unfold Zex
 congr 2
 cases decide (s = []) <;> cases decide (s = [46]) <;> cases decide (s = [46, 46]) <;> by_cases h4 : (0 : UInt8) ∈ s <;> by_cases h5 : (47 : UInt8) ∈ s <;> simp [h4, h5]
theorem v.rGood10 (p : Bytes) (l : List Bytes) (hl : l.length <= 1000000000) (hb : ∀ x ∈ l, x.length <= 1000000000) : ∀ (n i : Nat), i + n = l.length -> vl e 29 10 [.str p, strs l, strs l, I l.length, I i] = some (.bool ((l.drop i).all Zex && (decide (p.length <= 128) && decide (l.length <= 16)))) := by
 intro n
 induction n with
 | zero =>
  intro i hi
  rw [w.zq51_10, Xav (show l.length <= i by omega)]; unfold y.zq51_10
  by_cases h : p.length <= 128
  ·simp only [yy, if_neg (show ¬((i : Int) < (l.length : Int)) by omega), if_pos (show (p.length : Int) <= 128 by omega)]
   rw [show decide ((l.length : Int) <= 16) = decide (l.length <= 16) from decide_eq_decide.2 (by omega)]
   simp [h]
  ·simp only [yy, if_neg (show ¬((i : Int) < (l.length : Int)) by omega), if_neg (show ¬(p.length : Int) <= 128 by omega)]
   simp [h]
 | succ n ih =>
  intro i hi
  have hlt : i < l.length := by omega
  have hd := Xa0 hlt
  have hp := v.rPart (e := e) l[i] (hb _ (Xba hlt))
  rw [w.zq51_10]; unfold y.zq51_10
  cases hg : Zex l[i] with
  | false =>
   rw [hg] at hp
   simp only [yy, if_pos (show (i : Int) < (l.length : Int) by omega), Zkm hlt, Zft, hp]
   rw [hd, Xcc, hg, Xfh, Xfh]
  | true =>
   rw [hg] at hp
   simp only [yy, if_pos (show (i : Int) < (l.length : Int) by omega), Zkm hlt, Zft, hp, Zas hlt (by omega)]
   rw [ih (i + 1) (by omega), hd, Xcc, hg, Xe8]
theorem v.rGood (p : Bytes) (hp : p.length <= 1000000) : vl e 29 0 [.str p] = some (.bool (Zno p)) := by
 have hl := Zdu 47 p
 rw [w.zq51]; unfold y.zq51
 simp only [yy, v.rParts p (by omega), Zd0]
 refine (v.rGood10 p (Zal 47 p) (by omega) (fun x hx => by have := Zdr 47 hx; omega) _ 0 (Xan _)).trans ?_
 rw [Xa7]
 unfold Zno
 rw [Xer]
theorem Z36 {l : List Fi} : evp (.len false) [Zfg l] = some (I l.length) := by rw [Zfg, Zqc, Xb4]
theorem Z3c {l : List Fi} {i : Nat} (h : i < l.length) : l.getD i ([], []) = l[i] := by simp [List.getD, h]
section
variable (l : List Fi) (hl : l.length <= 1000000) (hb : ∀ f ∈ l, f.1.length <= 1000000 /\ f.2.length <= 1000000000)
include hl hb
end
theorem Zso : ∀ l : List Fi, (l.map fv).flatMap V.cells = fl l
 | [] => rfl
 | f :: r => by rw [Xam, Xbd, Zso r]; rfl
theorem v.CloneF (l : List Fi) (hl : l.length <= 1000000) : vl e 10528 1 [Zfg l] = some (.tup [I l.length, aggF l]) := by
 rw [w.zq64_h0]; unfold y.zq64_h0
 have h1 : evp (.rapp 2) [.agg [], .int .i64 0, Zfg l] = some (aggF l) := by
  show Zqj 2 (.agg []) (I 0) (Zfg l) = _
  have hf : fits 2 (l.map fv) = true := by simp [fits, fv, V.cells, V.sc]
  simp only [Zqj, Zbv, Xah, Zit, hf, if_true, true_or]
  rw [if_pos ⟨by omega, by omega, by simp, by simp [Lim]; omega⟩, Zso]
  simp [V.cells]
 have h2 : evp (.rlen 2) [.int .i64 0, Zfg l] = some (I l.length) := by
  show Znq 2 (I 0) (Zfg l) = _
  simp [Znq, Zbv]
 simp only [yy, h1, h2]
 cases l with
 | nil =>
  have : vamb (V.sl false 2 []) (some (V.tup [.int .i64 0, .agg []])) (some (V.tup [.int .i64 0, .agg []])) = some (V.tup [.int .i64 0, .agg []]) := by
   unfold vamb
   exact if_pos rfl
  exact this
 | cons x r => rfl
end Go.Proofs.YtpmgdngjbdkdfaaGreatDoor
namespace Go.Proofs.YtpmgdngjbdkdfaaGreatDoor
open Go.Abs
set_option maxRecDepth 10000
abbrev W32 := BitVec 32
def bv (x : W32) : V := .int .u32 (x.toNat : Int)
theorem Zo3 (n : Int) : IntKind.u32.wrap n = n % 4294967296 := by simp [IntKind.wrap, IntKind.signed, IntKind.bits]
theorem Z3k (n : Int) : IntKind.u8.wrap n = n % 256 := by simp [IntKind.wrap, IntKind.signed, IntKind.bits]
theorem Zdi (n : Int) : IntKind.u64.wrap n = n % 18446744073709551616 := by simp [IntKind.wrap, IntKind.signed, IntKind.bits]
theorem Zkx (x : W32) : IntKind.u32.wrap (x.toNat : Int) = (x.toNat : Int) := by rw [Zo3]; have := x.isLt; omega
theorem Zn8 (x : W32) : BitVec.ofInt IntKind.u32.bits (x.toNat : Int) = x := by
 show BitVec.ofInt 32 (x.toNat : Int) = x
 rw [BitVec.ofInt_natCast, BitVec.ofNat_toNat, BitVec.setWidth_eq]
theorem b_add (x y : W32) : evp (.bin .add .no) [bv x, bv y] = some (bv (x + y)) := by
 show some (V.int .u32 (IntKind.u32.wrap ((x.toNat : Int) + (y.toNat : Int)))) = _
 rw [Zo3]
 unfold bv
 rw [BitVec.toNat_add]
 congr 2
theorem b_and (x y : W32) : evp (.bin .and .no) [bv x, bv y] = some (bv (x &&& y)) := by
 show some (V.int .u32 (IntKind.u32.wrap ((BitVec.ofInt IntKind.u32.bits (x.toNat : Int) &&& BitVec.ofInt IntKind.u32.bits (y.toNat : Int)).toNat : Nat))) = _
 rw [Zn8, Zn8]; exact congrArg (fun n => some (V.int .u32 n)) (Zkx (x &&& y))
theorem b_or (x y : W32) : evp (.bin .or .no) [bv x, bv y] = some (bv (x ||| y)) := by
 show some (V.int .u32 (IntKind.u32.wrap ((BitVec.ofInt IntKind.u32.bits (x.toNat : Int) ||| BitVec.ofInt IntKind.u32.bits (y.toNat : Int)).toNat : Nat))) = _
 rw [Zn8, Zn8]; exact congrArg (fun n => some (V.int .u32 n)) (Zkx (x ||| y))
theorem b_xor (x y : W32) : evp (.bin .xor .no) [bv x, bv y] = some (bv (x ^^^ y)) := by
 show some (V.int .u32 (IntKind.u32.wrap ((BitVec.ofInt IntKind.u32.bits (x.toNat : Int) ^^^ BitVec.ofInt IntKind.u32.bits (y.toNat : Int)).toNat : Nat))) = _
 rw [Zn8, Zn8]; exact congrArg (fun n => some (V.int .u32 n)) (Zkx (x ^^^ y))
theorem Z3z (x : W32) : evp (.un .xor) [bv x] = some (bv (~~~x)) := by
 show some (V.int .u32 (IntKind.u32.wrap ((BitVec.ofInt 32 4294967295 ^^^ BitVec.ofInt 32 (x.toNat : Int)).toNat : Nat))) = _
 rw [show BitVec.ofInt 32 (x.toNat : Int) = x from Zn8 x, show BitVec.ofInt 32 4294967295 = BitVec.allOnes 32 by decide, BitVec.allOnes_xor]; exact congrArg (fun n => some (V.int .u32 n)) (Zkx (~~~x))
theorem Zlo (x : W32) (k : Nat) (kd : IntKind) (hk : k <= 32) : evp (.bin .shl .no) [bv x, .int kd (k : Int)] = some (bv (x <<< k)) := by
 show (if (k : Int) < 0 then none else some (V.int .u32 (IntKind.u32.wrap ((x.toNat : Int) * 2 ^ (min (k : Int).toNat IntKind.u32.bits))))) = _
 rw [if_neg (by omega), Zo3]
 unfold bv
 rw [BitVec.toNat_shiftLeft, Xc4]
 have : min (k : Int).toNat IntKind.u32.bits = k := by show min _ 32 = k; omega
 rw [this]
 congr 2
theorem Zmk (x : W32) (k : Nat) (kd : IntKind) (hk : k <= 32) : evp (.bin .shr .no) [bv x, .int kd (k : Int)] = some (bv (x >>> k)) := by
 show (if (k : Int) < 0 then none else some (V.int .u32 ((x.toNat : Int).fdiv (2 ^ (min (k : Int).toNat IntKind.u32.bits))))) = _
 have : min (k : Int).toNat IntKind.u32.bits = k := by show min _ 32 = k; omega
 rw [if_neg (by omega), this]
 unfold bv
 rw [BitVec.toNat_ushiftRight, Xe2]
 congr 2
 rw [Xdo _ (Int.le_of_lt (Int.pow_pos (by decide)))]
 simp
def bw (b : UInt8) : W32 := BitVec.ofNat 32 b.toNat
theorem Zx4 (b : UInt8) : evp (.i2i .u32) [byteV b] = some (bv (bw b)) := by
 show some (V.int .u32 (IntKind.u32.wrap (b.toNat : Int))) = _
 rw [Zo3]
 unfold bv bw
 rw [BitVec.toNat_ofNat]
 congr 2
def wb (x : W32) : UInt8 := UInt8.ofNat x.toNat
theorem Zo1 (x : W32) : evp (.i2i .u8) [bv x] = some (byteV (wb x)) := by
 show some (V.int .u8 (IntKind.u8.wrap (x.toNat : Int))) = _
 rw [Z3k]
 unfold byteV wb
 congr 2
def Zcs (x : W32) (k : Nat) : W32 := (x >>> k) ||| (x <<< (32 - k))
variable {e : Ev}
theorem v.turn (x : W32) (k : Nat) (hk : k <= 32) : vl e 101 0 [bv x, .int .u64 (k : Int)] = some (bv (Zcs x k)) := by
 have e1 : IntKind.u64.wrap (32 - (k : Int)) = ((32 - k : Nat) : Int) := by rw [Zdi]; omega
 rw [w.zq50]; unfold y.zq50
 simp only [yy, Zmk x k .u64 hk, e1, Zlo x (32 - k) .u64 (by omega), b_or]; rfl
theorem v.rot (x : W32) (k : Nat) (hk : k <= 32) (h1 : 1 <= k) (hw : evp (.bin .and .no) [.int .u64 (IntKind.u64.wrap (-(k : Int))), .int .u64 31] = some (.int .u64 ((32 - k : Nat) : Int))) : vl e 108 0 [bv x, .int .i64 (-(k : Int))] = some (bv (Zcs x k)) := by
 have e0 : evp (.i2i .u64) [.int .i64 (-(k : Int))] = some (.int .u64 (IntKind.u64.wrap (-(k : Int)))) := rfl
 have e1 : IntKind.u64.wrap (32 - ((32 - k : Nat) : Int)) = (k : Int) := by rw [Zdi]; omega
 rw [w.zq9]; unfold y.zq9
 simp only [yy, e0, hw, Zlo x (32 - k) .u64 (by omega), e1, Zmk x k .u64 hk, b_or]
 unfold Zcs
 rw [BitVec.or_comm]
def Zde (x : W32) (i j k : Nat) : W32 := (Zcs x i ^^^ Zcs x j) ^^^ Zcs x k
theorem v.three (x : W32) (i j k : Nat) (hi : i <= 32) (hj : j <= 32) (hk : k <= 32) : vl e 102 0 [bv x, .int .u64 (i : Int), .int .u64 (j : Int), .int .u64 (k : Int)] = some (bv (Zde x i j k)) := by
 rw [w.zq49]; unfold y.zq49
 simp only [yy, v.turn x i hi, v.turn x j hj, v.turn x k hk, b_xor]; rfl
abbrev wl (l : List W32) : V := .agg (l.map bv)
abbrev bl (l : Bytes) : V := .agg (l.map byteV)
theorem Zek {m : Nat} {k : IntKind} {i : Int} (h0 : 0 <= i) (h : i < m) : evp (.chk m) [.int k i] = some (.int k i) := by
 show vChk m (.int k i) = _
 exact if_pos ⟨h0, h⟩
theorem Zqn {l : List W32} {k : IntKind} {i : Nat} (h : i < l.length) : evp (.ldd none 0 1) [wl l, .int k (i : Int)] = some (bv l[i]) := by
 show (l.map bv)[0 + (i : Int).toNat * 1]? = _
 rw [Xan, Xb9, Xbq, Xbe, Xad h]; rfl
theorem Zuj {l : List W32} {k : IntKind} {i : Nat} {x : W32} (h : i < l.length) : evp (.std 1 0 1) [wl l, .int k (i : Int), bv x] = some (wl (l.set i x)) := by
 show vSet 1 (0 + (i : Int).toNat * 1) (wl l) (bv x) = _
 have hc : (wl l).cells = l.map bv := rfl
 have hb : (bv x).cells = [bv x] := rfl
 unfold vSet
 rw [Xan, Xb9, Xbq, hc, hb, if_pos ⟨rfl, rfl, by simp; omega⟩, wl, List.map_set, Xci, if_pos (by simpa using h)]
 simp [Zaq]
theorem Zhl {l : Bytes} {k : IntKind} {i : Nat} {x : UInt8} (h : i < l.length) : evp (.std 1 0 1) [bl l, .int k (i : Int), byteV x] = some (bl (l.set i x)) := by
 show vSet 1 (0 + (i : Int).toNat * 1) (bl l) (byteV x) = _
 have hc : (bl l).cells = l.map byteV := rfl
 have hb : (byteV x).cells = [byteV x] := rfl
 unfold vSet
 rw [Xan, Xb9, Xbq, hc, hb, if_pos ⟨rfl, rfl, by simp; omega⟩, bl, List.map_set, Xci, if_pos (by simpa using h)]
 simp [Zaq]
end Go.Proofs.YtpmgdngjbdkdfaaGreatDoor
namespace Go.Proofs.YtpmgdngjbdkdfaaGreatDoor
open Go.Abs
set_option maxRecDepth 10000
variable {e : Ev}
def Zcj (b : Bytes) (i : Nat) : W32 := (((bw (b.getD i 0) <<< 24) ||| (bw (b.getD (i + 1) 0) <<< 16)) ||| (bw (b.getD (i + 2) 0) <<< 8)) ||| bw (b.getD (i + 3) 0)
def Zg6 (b : Bytes) : Nat -> Nat -> List W32 -> List W32
 | 0, _, ws => ws
 | n + 1, i, ws => Zg6 b n (i + 1) (ws.set i (Zcj b (4 * i)))
def sig0 (x : W32) : W32 := (Zcs x 7 ^^^ Zcs x 18) ^^^ (x >>> 3)
def sig1 (x : W32) : W32 := (Zcs x 17 ^^^ Zcs x 19) ^^^ (x >>> 10)
def schW : Nat -> Nat -> List W32 -> List W32
 | 0, _, ws => ws
 | n + 1, i, ws => schW n (i + 1) (ws.set i (((ws.getD (i - 16) 0 + sig0 (ws.getD (i - 15) 0)) + ws.getD (i - 7) 0) + sig1 (ws.getD (i - 2) 0)))
def rndW (K ws : List W32) : Nat -> Nat -> W32 -> W32 -> W32 -> W32 -> W32 -> W32 -> W32 -> W32 -> List W32
 | 0, _, a, b, c, d, e, f, g, h => [a, b, c, d, e, f, g, h]
 | n + 1, i, a, b, c, d, e, f, g, h =>
  let p := (((h + Zde e 6 11 25) + ((e &&& f) ^^^ (~~~e &&& g))) + K.getD i 0) + ws.getD i 0
  let q := Zde a 2 13 22 + (((a &&& b) ^^^ (a &&& c)) ^^^ (b &&& c))
  rndW K ws n (i + 1) (p + q) a b c (d + p) e f g
def addW (x : List W32) : Nat -> Nat -> List W32 -> List W32
 | 0, _, st => st
 | n + 1, i, st => addW x n (i + 1) (st.set i (st.getD i 0 + x.getD i 0))
def allW (b : Bytes) : List W32 := schW 48 16 (Zg6 b 16 0 (List.replicate 64 0))
def Zcl (K : List W32) (st : List W32) (b : Bytes) : List W32 :=
 addW (rndW K (allW b) 64 0 (st.getD 0 0) (st.getD 1 0) (st.getD 2 0) (st.getD 3 0) (st.getD 4 0) (st.getD 5 0) (st.getD 6 0) (st.getD 7 0)) 8 0 st
theorem Zdx (b : Bytes) : ∀ (n i : Nat) (ws : List W32), (Zg6 b n i ws).length = ws.length
 | 0, _, _ => rfl
 | n + 1, i, ws => by rw [Zg6, Zdx b n]; simp
theorem Zpc : ∀ (n i : Nat) (ws : List W32), (schW n i ws).length = ws.length
 | 0, _, _ => rfl
 | n + 1, i, ws => by rw [schW, Zpc n]; simp
theorem Zkz (b : Bytes) : (allW b).length = 64 := by rw [allW, Zpc, Zdx]; simp
theorem Zkj (x : List W32) : ∀ (n i : Nat) (st : List W32), (addW x n i st).length = st.length
 | 0, _, _ => rfl
 | n + 1, i, st => by rw [addW, Zkj x n]; simp
theorem Zb7 {α : Type} {l : List α} {d : α} {i : Nat} (h : i < l.length) : l.getD i d = l[i] := by simp [List.getD, h]
theorem v_eb {b : Bytes} {i : Nat} (h : i < b.length) : evp (.elem 1) [.sl false 1 (b.map byteV), .int .i64 (i : Int)] = some (byteV (b.getD i 0)) := Zfu (by simp [List.getD, h])
theorem Z1u {c : UInt8} : evp (.ld none 0) [byteV c] = some (byteV c) := rfl
theorem v.word (b : Bytes) (h : 4 <= b.length) : vl e 107 0 [.sl false 1 (b.map byteV)] = some (bv (Zcj b 0)) := by
 have h0 : evp (.elem 1) [.sl false 1 (b.map byteV), .int .i64 0] = some (byteV (b.getD 0 0)) := v_eb (i := 0) (by omega)
 have h1 : evp (.elem 1) [.sl false 1 (b.map byteV), .int .i64 1] = some (byteV (b.getD 1 0)) := v_eb (i := 1) (by omega)
 have h2 : evp (.elem 1) [.sl false 1 (b.map byteV), .int .i64 2] = some (byteV (b.getD 2 0)) := v_eb (i := 2) (by omega)
 have h3 : evp (.elem 1) [.sl false 1 (b.map byteV), .int .i64 3] = some (byteV (b.getD 3 0)) := v_eb (i := 3) (by omega)
 have s24 : ∀ x : W32, evp (.bin .shl .no) [bv x, .int .u64 24] = some (bv (x <<< 24)) := fun x => Zlo x 24 .u64 (by decide)
 have s16 : ∀ x : W32, evp (.bin .shl .no) [bv x, .int .u64 16] = some (bv (x <<< 16)) := fun x => Zlo x 16 .u64 (by decide)
 have s8 : ∀ x : W32, evp (.bin .shl .no) [bv x, .int .u64 8] = some (bv (x <<< 8)) := fun x => Zlo x 8 .u64 (by decide)
 rw [w.zq63]; unfold y.zq63
 simp only [yy, h0, h1, h2, h3, Z1u, Zx4, s24, s16, s8, b_or]; rfl
theorem Zjh (b : Bytes) (i : Nat) : Zcj (b.drop i) 0 = Zcj b i := by
 unfold Zcj
 simp [List.getD, Xcb]
theorem Zvs (c : UInt8) : (bw c).toNat < 256 := by
 unfold bw
 rw [BitVec.toNat_ofNat]
 have := c.toNat_lt
 omega
theorem Zs2 {x y : W32} (k : Nat) (hx : x.toNat % 2 ^ k = 0) (hy : y.toNat < 2 ^ k) : x + y = x ||| y := by
 refine BitVec.add_eq_or_of_and_eq_zero x y ?_
 apply BitVec.eq_of_toNat_eq
 rw [BitVec.toNat_and]
 obtain ⟨q, hq⟩ : ∃ q, x.toNat = 2 ^ k * q := ⟨x.toNat / 2 ^ k, by have := Xfe x.toNat (2 ^ k); omega⟩
 show x.toNat &&& y.toNat = 0
 rw [hq]
 apply Nat.eq_of_testBit_eq
 intro j
 rw [Nat.testBit_and, Nat.zero_testBit, Nat.testBit_two_pow_mul]
 by_cases hj : k <= j
 ·rw [Nat.testBit_lt_two_pow (Xbr hy (Nat.pow_le_pow_right (by decide) hj)), Xfi]
 ·rw [decide_eq_false hj]; rfl
theorem Zok (a b c d : UInt8) : (((bw a <<< 24) + (bw b <<< 16)) + (bw c <<< 8)) + bw d = (((bw a <<< 24) ||| (bw b <<< 16)) ||| (bw c <<< 8)) ||| bw d := by
 have ha := Zvs a; have hb := Zvs b; have hc := Zvs c; have hd := Zvs d
 have e24 : (bw a <<< 24).toNat = (bw a).toNat * 16777216 := by rw [BitVec.toNat_shiftLeft, Xc4]; exact Xdv (by omega)
 have e16 : (bw b <<< 16).toNat = (bw b).toNat * 65536 := by rw [BitVec.toNat_shiftLeft, Xc4]; exact Xdv (by omega)
 have e8 : (bw c <<< 8).toNat = (bw c).toNat * 256 := by rw [BitVec.toNat_shiftLeft, Xc4]; exact Xdv (by omega)
 have h1 : (bw a <<< 24) + (bw b <<< 16) = (bw a <<< 24) ||| (bw b <<< 16) := Zs2 24 (by rw [e24]; omega) (by rw [e16]; omega)
 have t1 : ((bw a <<< 24) + (bw b <<< 16)).toNat = (bw a).toNat * 16777216 + (bw b).toNat * 65536 := by rw [BitVec.toNat_add, e24, e16]; omega
 have h2 : ((bw a <<< 24) + (bw b <<< 16)) + (bw c <<< 8) = ((bw a <<< 24) + (bw b <<< 16)) ||| (bw c <<< 8) := Zs2 16 (by rw [t1]; omega) (by rw [e8]; omega)
 have t2 : (((bw a <<< 24) + (bw b <<< 16)) + (bw c <<< 8)).toNat = (bw a).toNat * 16777216 + (bw b).toNat * 65536 + (bw c).toNat * 256 := by rw [BitVec.toNat_add, t1, e8]; omega
 have h3 : (((bw a <<< 24) + (bw b <<< 16)) + (bw c <<< 8)) + bw d = (((bw a <<< 24) + (bw b <<< 16)) + (bw c <<< 8)) ||| bw d := Zs2 8 (by rw [t2]; omega) (by omega)
 rw [h3, h2, h1]
theorem Z0s {b : Bytes} (hb : b.length = 64) {i : Nat} (hi : i < 64) : evp (.snapd 0 64) [bl b, .int .i64 (i : Int)] = some (.sl false 1 ((b.drop i).map byteV)) := by
 refine (if_pos (show 0 <= (i : Int) /\ (i : Int) < (64 : Nat) /\ 0 + 64 <= (bl b).cells.length from ⟨by omega, by omega, by show _ <= (b.map byteV).length; simp; omega⟩)).trans ?_
 show some (V.sl false 1 (((b.map byteV).drop (0 + (i : Int).toNat)).take (64 - (i : Int).toNat))) = _
 rw [Xan, Xbq, Xe7, Xao (by simp; omega)]
theorem Z75 {x : W32} : evp .flr [bv x] = some (bv x) := rfl
theorem mul4 {i : Nat} (h : i < 64) : IntKind.i64.wrap (4 * (i : Int)) = ((4 * i : Nat) : Int) := by rw [w64 _ (by omega)]; omega
theorem v.load (st : V) (b : Bytes) (hb : b.length = 64) : ∀ (n i : Nat) (ws : List W32), i + n = 16 -> ws.length = 64 ->
  vl e 11456 8 [I i, st, bl b, wl ws] = vl e 11456 25 [I 16, st, bl b, wl (Zg6 b n i ws)]
 | 0, i, ws, hi, hw => by
  rw [w.zq29_h0_8]; unfold y.zq29_h0_8
  simp only [yy, if_neg (show ¬((i : Int) < 16) by omega)]; rfl
 | n + 1, i, ws, hi, hw => by
  have hd := v.word (e := e) (b.drop (4 * i)) (by simp; omega)
  rw [Zjh] at hd
  rw [w.zq29_h0_8]; unfold y.zq29_h0_8
  simp only [yy, if_pos (show (i : Int) < 16 by omega), Zk8, mul4 (show i < 64 by omega), Zek (m := 64) (k := .i64) (i := ((4 * i : Nat) : Int)) (by omega) (by omega), Z0s hb (show 4 * i < 64 by omega), hd, Z75, Zek (m := 64) (k := .i64) (i := (i : Int)) (by omega) (by omega), Zuj (show i < ws.length by omega), Zas (show i < 64 by omega) (by decide)]
  exact v.load st b hb n (i + 1) _ (by omega) (by simpa using hw)
theorem v.nload (st K z : V) (b : Bytes) (hb : b.length = 64) : ∀ (n i : Nat) (ws : List W32), i + n = 16 -> ws.length = 64 ->
  vl e 84 10 [.sl false 1 (b.map byteV), I i, st, K, z, wl ws] = vl e 84 25 [I 16, st, K, z, wl (Zg6 b n i ws)]
 | 0, i, ws, hi, hw => by
  rw [w.zq45_10]; unfold y.zq45_10
  simp only [yy, if_neg (show ¬((i : Int) < 16) by omega)]; rfl
 | n + 1, i, ws, hi, hw => by
  have s24 : ∀ x : W32, evp (.bin .shl .no) [bv x, .int .u64 24] = some (bv (x <<< 24)) := fun x => Zlo x 24 .u64 (by decide)
  have s16 : ∀ x : W32, evp (.bin .shl .no) [bv x, .int .u64 16] = some (bv (x <<< 16)) := fun x => Zlo x 16 .u64 (by decide)
  have s8 : ∀ x : W32, evp (.bin .shl .no) [bv x, .int .u64 8] = some (bv (x <<< 8)) := fun x => Zlo x 8 .u64 (by decide)
  have e1 : IntKind.i64.wrap (((4 * i : Nat) : Int) + 1) = ((4 * i + 1 : Nat) : Int) := by rw [w64 _ (by omega)]; omega
  have e2 : IntKind.i64.wrap (((4 * i : Nat) : Int) + 2) = ((4 * i + 2 : Nat) : Int) := by rw [w64 _ (by omega)]; omega
  have e3 : IntKind.i64.wrap (((4 * i : Nat) : Int) + 3) = ((4 * i + 3 : Nat) : Int) := by rw [w64 _ (by omega)]; omega
  rw [w.zq45_10]; unfold y.zq45_10
  simp only [yy, if_pos (show (i : Int) < 16 by omega), Zk8, mul4 (show i < 64 by omega), e1, e2, e3, v_eb (show 4 * i < b.length by omega), v_eb (show 4 * i + 1 < b.length by omega), v_eb (show 4 * i + 2 < b.length by omega), v_eb (show 4 * i + 3 < b.length by omega), Z1u, Zx4, s24, s16, s8, b_add, Zok,
   Zek (m := 64) (k := .i64) (i := (i : Int)) (by omega) (by omega), Zuj (show i < ws.length by omega), Zas (show i < 64 by omega) (by decide)]
  exact v.nload st K z b hb n (i + 1) _ (by omega) (by simpa using hw)
theorem Zls {l : List W32} {i j : Nat} {x : Int} (hj : IntKind.i64.wrap x = (j : Int)) (h : j < 64) (hl : l.length = 64) : evp (.chk 64) [.int .i64 (IntKind.i64.wrap x)] = some (.int .i64 (j : Int)) /\ evp (.ldd none 0 1) [wl l, .int .i64 (j : Int)] = some (bv (l.getD j 0)) := by
 rw [hj]
 exact ⟨Zek (by omega) (by omega), by rw [Zqn (by omega), Zb7 (by omega)]⟩
theorem Zgu {i k : Nat} (h : k <= i) (hi : i < 1000) : IntKind.i64.wrap ((i : Int) - (k : Int)) = ((i - k : Nat) : Int) := by rw [w64 _ (by omega)]; omega
theorem v.sched (a0 a1 a2 a3 a4 a5 a6 a7 : W32) (b : V) : ∀ (n i : Nat) (ws : List W32), i + n = 64 -> 16 <= i -> ws.length = 64 ->
  vl e 11456 25 [I i, wl [a0, a1, a2, a3, a4, a5, a6, a7], b, wl ws] = vl e 11456 48 [bv a0, bv a1, bv a2, bv a3, bv a4, bv a5, bv a6, bv a7, wl (schW n i ws), I 0, wl [a0, a1, a2, a3, a4, a5, a6, a7], b]
 | 0, i, ws, hi, _, hw => by
  have l : ∀ k x, ([a0, a1, a2, a3, a4, a5, a6, a7].map bv)[k]? = some x -> evp (.ld none k) [wl [a0, a1, a2, a3, a4, a5, a6, a7]] = some x := fun k x h => h
  rw [w.zq29_h0_25]; unfold y.zq29_h0_25
  simp only [yy, if_neg (show ¬((i : Int) < 64) by omega), l 0 _ rfl, l 1 _ rfl, l 2 _ rfl, l 3 _ rfl, l 4 _ rfl, l 5 _ rfl, l 6 _ rfl, l 7 _ rfl]; rfl
 | n + 1, i, ws, hi, h16, hw => by
  obtain ⟨c15, l15⟩ := Zls (l := ws) (i := i) (j := i - 15) (x := (i : Int) - 15) (Zgu (k := 15) (by omega) (by omega)) (by omega) hw
  obtain ⟨c2, l2⟩ := Zls (l := ws) (i := i) (j := i - 2) (x := (i : Int) - 2) (Zgu (k := 2) (by omega) (by omega)) (by omega) hw
  obtain ⟨c16, l16⟩ := Zls (l := ws) (i := i) (j := i - 16) (x := (i : Int) - 16) (Zgu (k := 16) (by omega) (by omega)) (by omega) hw
  obtain ⟨c7, l7⟩ := Zls (l := ws) (i := i) (j := i - 7) (x := (i : Int) - 7) (Zgu (k := 7) (by omega) (by omega)) (by omega) hw
  have r7 : ∀ x : W32, vl e 108 0 [bv x, .int .i64 (-7)] = some (bv (Zcs x 7)) := fun x => v.rot x 7 (by decide) (by decide) rfl
  have r18 : ∀ x : W32, vl e 108 0 [bv x, .int .i64 (-18)] = some (bv (Zcs x 18)) := fun x => v.rot x 18 (by decide) (by decide) rfl
  have r17 : ∀ x : W32, vl e 108 0 [bv x, .int .i64 (-17)] = some (bv (Zcs x 17)) := fun x => v.rot x 17 (by decide) (by decide) rfl
  have r19 : ∀ x : W32, vl e 108 0 [bv x, .int .i64 (-19)] = some (bv (Zcs x 19)) := fun x => v.rot x 19 (by decide) (by decide) rfl
  have s3 : ∀ x : W32, evp (.bin .shr .no) [bv x, .int .u64 3] = some (bv (x >>> 3)) := fun x => Zmk x 3 .u64 (by decide)
  have s10 : ∀ x : W32, evp (.bin .shr .no) [bv x, .int .u64 10] = some (bv (x >>> 10)) := fun x => Zmk x 10 .u64 (by decide)
  rw [w.zq29_h0_25]; unfold y.zq29_h0_25
  simp only [yy, if_pos (show (i : Int) < 64 by omega), c15, l15, c2, l2, c16, l16, c7, l7, r7, r18, r17, r19, s3, s10, b_xor, b_add, Zek (m := 64) (k := .i64) (i := (i : Int)) (by omega) (by omega), Zuj (show i < ws.length by omega), Zas (show i < 64 by omega) (by decide)]
  exact v.sched a0 a1 a2 a3 a4 a5 a6 a7 b n (i + 1) _ (by omega) (by omega) (by simpa using hw)
theorem v.nsched (a0 a1 a2 a3 a4 a5 a6 a7 : W32) (K z : V) : ∀ (n i : Nat) (ws : List W32), i + n = 64 -> 16 <= i -> ws.length = 64 ->
  vl e 84 25 [I i, wl [a0, a1, a2, a3, a4, a5, a6, a7], K, z, wl ws] = vl e 84 48 [bv a0, bv a1, bv a2, bv a3, bv a4, bv a5, bv a6, bv a7, I 0, wl [a0, a1, a2, a3, a4, a5, a6, a7], K, z, wl (schW n i ws)]
 | 0, i, ws, hi, _, hw => by
  have l : ∀ k x, ([a0, a1, a2, a3, a4, a5, a6, a7].map bv)[k]? = some x -> evp (.ld none k) [wl [a0, a1, a2, a3, a4, a5, a6, a7]] = some x := fun k x h => h
  rw [w.zq45_25]; unfold y.zq45_25
  simp only [yy, if_neg (show ¬((i : Int) < 64) by omega), l 0 _ rfl, l 1 _ rfl, l 2 _ rfl, l 3 _ rfl, l 4 _ rfl, l 5 _ rfl, l 6 _ rfl, l 7 _ rfl]; rfl
 | n + 1, i, ws, hi, h16, hw => by
  obtain ⟨c15, l15⟩ := Zls (l := ws) (i := i) (j := i - 15) (x := (i : Int) - 15) (Zgu (k := 15) (by omega) (by omega)) (by omega) hw
  obtain ⟨c2, l2⟩ := Zls (l := ws) (i := i) (j := i - 2) (x := (i : Int) - 2) (Zgu (k := 2) (by omega) (by omega)) (by omega) hw
  obtain ⟨c16, l16⟩ := Zls (l := ws) (i := i) (j := i - 16) (x := (i : Int) - 16) (Zgu (k := 16) (by omega) (by omega)) (by omega) hw
  obtain ⟨c7, l7⟩ := Zls (l := ws) (i := i) (j := i - 7) (x := (i : Int) - 7) (Zgu (k := 7) (by omega) (by omega)) (by omega) hw
  have r7 : ∀ x : W32, vl e 101 0 [bv x, .int .u64 7] = some (bv (Zcs x 7)) := fun x => v.turn x 7 (by decide)
  have r18 : ∀ x : W32, vl e 101 0 [bv x, .int .u64 18] = some (bv (Zcs x 18)) := fun x => v.turn x 18 (by decide)
  have r17 : ∀ x : W32, vl e 101 0 [bv x, .int .u64 17] = some (bv (Zcs x 17)) := fun x => v.turn x 17 (by decide)
  have r19 : ∀ x : W32, vl e 101 0 [bv x, .int .u64 19] = some (bv (Zcs x 19)) := fun x => v.turn x 19 (by decide)
  have s3 : ∀ x : W32, evp (.bin .shr .no) [bv x, .int .u64 3] = some (bv (x >>> 3)) := fun x => Zmk x 3 .u64 (by decide)
  have s10 : ∀ x : W32, evp (.bin .shr .no) [bv x, .int .u64 10] = some (bv (x >>> 10)) := fun x => Zmk x 10 .u64 (by decide)
  rw [w.zq45_25]; unfold y.zq45_25
  simp only [yy, if_pos (show (i : Int) < 64 by omega), c15, l15, c2, l2, c16, l16, c7, l7, r7, r18, r17, r19, s3, s10, b_xor, b_add, Zek (m := 64) (k := .i64) (i := (i : Int)) (by omega) (by omega), Zuj (show i < ws.length by omega), Zas (show i < 64 by omega) (by decide)]
  exact v.nsched a0 a1 a2 a3 a4 a5 a6 a7 K z n (i + 1) _ (by omega) (by omega) (by simpa using hw)
end Go.Proofs.YtpmgdngjbdkdfaaGreatDoor
namespace Go.Proofs.YtpmgdngjbdkdfaaGreatDoor
open Go.Abs
set_option maxRecDepth 10000
variable {e : Ev}
def KT : List W32 := [1116352408, 1899447441, 3049323471, 3921009573, 961987163, 1508970993, 2453635748, 2870763221, 3624381080, 310598401, 607225278, 1426881987, 1925078388, 2162078206, 2614888103, 3248222580, 3835390401, 4022224774, 264347078, 604807628, 770255983, 1249150122, 1555081692, 1996064986, 2554220882, 2821834349, 2952996808, 3210313671, 3336571891, 3584528711, 113926993, 338241895, 666307205, 773529912, 1294757372, 1396182291, 1695183700, 1986661051, 2177026350, 2456956037, 2730485921, 2820302411, 3259730800, 3345764771, 3516065817, 3600352804, 4094571909, 275423344, 430227734, 506948616, 659060556, 883997877, 958139571, 1322822218, 1537002063, 1747873779, 1955562222, 2024104815, 2227730452, 2361852424, 2428436474, 2756734187, 3204031479, 3329325298]
theorem Z7x : tb0 = KT.map bv := rfl
theorem Zju : KT.length = 64 := rfl
theorem Z8h {k : IntKind} {i : Nat} (h : i < 64) : evp (.ldd none 0 1) [.agg tb0, .int k (i : Int)] = some (bv (KT.getD i 0)) := by
 rw [Z7x, Zb7 (by rw [Zju]; exact h)]; exact Zqn (by rw [Zju]; exact h)
theorem Zsh {m : Nat} {l : List W32} {i : Nat} (h : i < l.length) (hm : i < m) : evp (.idxa m 1 none) [wl l, .int .i64 (i : Int)] = some (bv (l.getD i 0)) := by
 show (if 0 <= (i : Int) /\ (i : Int) < (m : Int) then (l.map bv)[(i : Int).toNat * 1]? else none) = _
 rw [if_pos ⟨by omega, by omega⟩, Xb9, Xbq, Xbe, Xad h, Zb7 h]; rfl
theorem v.rounds (st b : V) (ws : List W32) (hw : ws.length = 64) : ∀ (n i : Nat) (a b1 c d e1 f g h : W32), i + n = 64 ->
  vl e 11456 48 [bv a, bv b1, bv c, bv d, bv e1, bv f, bv g, bv h, wl ws, I i, st, b] = vl e 11456 72 [wl (rndW KT ws n i a b1 c d e1 f g h), I 0, st, b]
 | 0, i, a, b1, c, d, e1, f, g, h, hi => by
  have hc : evp (.cat [none, none, none, none, none, none, none, none]) [bv a, bv b1, bv c, bv d, bv e1, bv f, bv g, bv h] = some (wl [a, b1, c, d, e1, f, g, h]) := rfl
  rw [w.zq29_h0_48]; unfold y.zq29_h0_48
  simp only [yy, if_neg (show ¬((i : Int) < 64) by omega), hc]; rfl
 | n + 1, i, a, b1, c, d, e1, f, g, h, hi => by
  have r (k : Nat) (hk : k <= 32) (h1 : 1 <= k) (hq : evp (.bin .and .no) [.int .u64 (IntKind.u64.wrap (-(k : Int))), .int .u64 31] = some (.int .u64 ((32 - k : Nat) : Int))) (x : W32) := v.rot (e := e) x k hk h1 hq
  have r6 : ∀ x : W32, vl e 108 0 [bv x, .int .i64 (-6)] = some (bv (Zcs x 6)) := r 6 (by decide) (by decide) rfl
  have r11 : ∀ x : W32, vl e 108 0 [bv x, .int .i64 (-11)] = some (bv (Zcs x 11)) := r 11 (by decide) (by decide) rfl
  have r25 : ∀ x : W32, vl e 108 0 [bv x, .int .i64 (-25)] = some (bv (Zcs x 25)) := r 25 (by decide) (by decide) rfl
  have r2 : ∀ x : W32, vl e 108 0 [bv x, .int .i64 (-2)] = some (bv (Zcs x 2)) := r 2 (by decide) (by decide) rfl
  have r13 : ∀ x : W32, vl e 108 0 [bv x, .int .i64 (-13)] = some (bv (Zcs x 13)) := r 13 (by decide) (by decide) rfl
  have r22 : ∀ x : W32, vl e 108 0 [bv x, .int .i64 (-22)] = some (bv (Zcs x 22)) := r 22 (by decide) (by decide) rfl
  rw [w.zq29_h0_48]; unfold y.zq29_h0_48
  simp only [yy, if_pos (show (i : Int) < 64 by omega), Zsh (m := 64) (l := ws) (i := i) (by omega) (by omega), r6, r11, r25, b_xor, b_add, b_and, Z3z, Zek (m := 64) (k := .i64) (i := (i : Int)) (by omega) (by omega)]
  refine Zub (Z8h (show i < 64 by omega)) ?_
  simp only [yy, b_add, r2, r13, r22, b_xor, b_and, Zas (show i < 64 by omega) (by decide)]
  exact v.rounds st b ws hw n (i + 1) _ _ _ _ _ _ _ _ (by omega)
theorem v.nrounds (st z : V) (ws : List W32) (hw : ws.length = 64) (a0 a1 a2 a3 a4 a5 a6 a7 : W32) : ∀ (n i : Nat) (a b1 c d e1 f g h : W32), i + n = 64 ->
  vl e 84 48 [bv a, bv b1, bv c, bv d, bv e1, bv f, bv g, bv h, I i, wl [a0, a1, a2, a3, a4, a5, a6, a7], wl KT, z, wl ws] = some (wl (addW (rndW KT ws n i a b1 c d e1 f g h) 8 0 [a0, a1, a2, a3, a4, a5, a6, a7]))
 | 0, i, a, b1, c, d, e1, f, g, h, hi => by
  have l : ∀ k x, ([a0, a1, a2, a3, a4, a5, a6, a7].map bv)[k]? = some x -> evp (.ld none k) [wl [a0, a1, a2, a3, a4, a5, a6, a7]] = some x := fun k x h => h
  have hc : ∀ x0 x1 x2 x3 x4 x5 x6 x7 : W32, evp (.cat [none, none, none, none, none, none, none, none]) [bv x0, bv x1, bv x2, bv x3, bv x4, bv x5, bv x6, bv x7] = some (wl [x0, x1, x2, x3, x4, x5, x6, x7]) := fun _ _ _ _ _ _ _ _ => rfl
  rw [w.zq45_48]; unfold y.zq45_48
  simp only [yy, if_neg (show ¬((i : Int) < 64) by omega), l 0 _ rfl, l 1 _ rfl, l 2 _ rfl, l 3 _ rfl, l 4 _ rfl, l 5 _ rfl, l 6 _ rfl, l 7 _ rfl, b_add, hc]; rfl
 | n + 1, i, a, b1, c, d, e1, f, g, h, hi => by
  have t6 : ∀ x : W32, vl e 102 0 [bv x, .int .u64 6, .int .u64 11, .int .u64 25] = some (bv (Zde x 6 11 25)) := fun x => v.three x 6 11 25 (by decide) (by decide) (by decide)
  have t2 : ∀ x : W32, vl e 102 0 [bv x, .int .u64 2, .int .u64 13, .int .u64 22] = some (bv (Zde x 2 13 22)) := fun x => v.three x 2 13 22 (by decide) (by decide) (by decide)
  have lk : evp (.ldd none 0 1) [wl KT, .int .i64 (i : Int)] = some (bv (KT.getD i 0)) := by rw [Zqn (by rw [Zju]; omega), Zb7 (by rw [Zju]; omega)]
  have lw : evp (.ldd none 0 1) [wl ws, .int .i64 (i : Int)] = some (bv (ws.getD i 0)) := by rw [Zqn (by omega), Zb7 (by omega)]
  rw [w.zq45_48]; unfold y.zq45_48
  simp only [yy, if_pos (show (i : Int) < 64 by omega), t6, t2, b_xor, b_add, b_and, Z3z, Zek (m := 64) (k := .i64) (i := (i : Int)) (by omega) (by omega), lk, lw, Zas (show i < 64 by omega) (by decide)]
  exact v.nrounds st z ws hw a0 a1 a2 a3 a4 a5 a6 a7 n (i + 1) _ _ _ _ _ _ _ _ (by omega)
theorem v.addR (b : V) (x : List W32) (hx : x.length = 8) : ∀ (n i : Nat) (st : List W32), i + n = 8 -> st.length = 8 ->
  vl e 11456 72 [wl x, I i, wl st, b] = some (.tup [wl (addW x n i st), b])
 | 0, i, st, hi, hs => by
  rw [w.zq29_h0_72]; unfold y.zq29_h0_72
  simp only [yy, if_neg (show ¬((i : Int) < 8) by omega)]; rfl
 | n + 1, i, st, hi, hs => by
  have lw : evp (.ldd none 0 1) [wl st, .int .i64 (i : Int)] = some (bv (st.getD i 0)) := by rw [Zqn (by omega), Zb7 (by omega)]
  rw [w.zq29_h0_72]; unfold y.zq29_h0_72
  simp only [yy, if_pos (show (i : Int) < 8 by omega), Zsh (m := 8) (l := x) (i := i) (by omega) (by omega), Zek (m := 8) (k := .i64) (i := (i : Int)) (by omega) (by omega), lw, b_add, Zuj (show i < st.length by omega), Zas (show i < 8 by omega) (by decide)]
  exact v.addR b x hx n (i + 1) _ (by omega) (by simpa using hs)
theorem Zjz (K ws : List W32) : ∀ (n i : Nat) (a b c d e f g h : W32), (rndW K ws n i a b c d e f g h).length = 8
 | 0, _, _, _, _, _, _, _, _, _ => rfl
 | n + 1, i, a, b, c, d, e, f, g, h => Zjz K ws n (i + 1) _ _ _ _ _ _ _ _
theorem Zqs {l : List W32} (h : l.length = 8) : ∃ a b c d e f g h, l = [a, b, c, d, e, f, g, h] := by
 match l, h with
 | [a, b, c, d, e, f, g, h], _ => exact ⟨a, b, c, d, e, f, g, h, rfl⟩
theorem v.block (st : List W32) (hs : st.length = 8) (b : Bytes) (hb : b.length = 64) : vl e 11456 1 [wl st, bl b] = some (.tup [wl (Zcl KT st b), bl b]) := by
 obtain ⟨a0, a1, a2, a3, a4, a5, a6, a7, rfl⟩ := Zqs hs
 rw [w.zq29_h0]; unfold y.zq29_h0
 have hz : V.agg (repl 64 (.int .u32 0)) = wl (List.replicate 64 0) := rfl
 rw [hz]
 have h1 := v.load (e := e) (wl [a0, a1, a2, a3, a4, a5, a6, a7]) b hb 16 0 (List.replicate 64 0) (by decide) (by simp)
 have h2 := v.sched (e := e) a0 a1 a2 a3 a4 a5 a6 a7 (bl b) 48 16 (Zg6 b 16 0 (List.replicate 64 0)) (by decide) (by decide) (by rw [Zdx]; simp)
 have h3 := v.rounds (e := e) (wl [a0, a1, a2, a3, a4, a5, a6, a7]) (bl b) (allW b) (Zkz b) 64 0 a0 a1 a2 a3 a4 a5 a6 a7 (by decide)
 have h4 := v.addR (e := e) (bl b) (rndW KT (allW b) 64 0 a0 a1 a2 a3 a4 a5 a6 a7) (Zjz ..) 8 0 [a0, a1, a2, a3, a4, a5, a6, a7] (by decide) rfl
 exact h1.trans (h2.trans (h3.trans h4))
theorem v.Next (st : List W32) (hs : st.length = 8) (b : Bytes) (hb : b.length = 64) : vl e 84 0 [wl st, .sl false 1 (b.map byteV), wl KT] = some (wl (Zcl KT st b)) := by
 obtain ⟨a0, a1, a2, a3, a4, a5, a6, a7, rfl⟩ := Zqs hs
 rw [w.zq45]; unfold y.zq45
 have hz : V.agg (repl 64 (.int .u32 0)) = wl (List.replicate 64 0) := rfl
 have hz8 : V.agg [.int .u32 0, .int .u32 0, .int .u32 0, .int .u32 0, .int .u32 0, .int .u32 0, .int .u32 0, .int .u32 0] = wl (List.replicate 8 0) := rfl
 have hsc : ∀ l : List W32, evp .scs [wl l] = some (wl l) := fun l => if_pos (by
  rw [Xal]; intro c hc
  obtain ⟨x, _, rfl⟩ := Xa3.1 (show c ∈ l.map bv from hc); rfl)
 rw [hz]
 simp only [yy, hsc]
 have h1 := v.nload (e := e) (wl [a0, a1, a2, a3, a4, a5, a6, a7]) (wl KT) (wl (List.replicate 8 0)) b hb 16 0 (List.replicate 64 0) (by decide) (by simp)
 have h2 := v.nsched (e := e) a0 a1 a2 a3 a4 a5 a6 a7 (wl KT) (wl (List.replicate 8 0)) 48 16 (Zg6 b 16 0 (List.replicate 64 0)) (by decide) (by decide) (by rw [Zdx]; simp)
 have h3 := v.nrounds (e := e) (wl [a0, a1, a2, a3, a4, a5, a6, a7]) (wl (List.replicate 8 0)) (allW b) (Zkz b) a0 a1 a2 a3 a4 a5 a6 a7 64 0 a0 a1 a2 a3 a4 a5 a6 a7 (by decide)
 exact h1.trans (h2.trans h3)
theorem v.Numbers : vl e 83 0 [] = some (wl KT) := by
 rw [w.zq46]; rfl
end Go.Proofs.YtpmgdngjbdkdfaaGreatDoor
namespace Go.Proofs.YtpmgdngjbdkdfaaGreatDoor
open Go.Abs
set_option maxRecDepth 10000
variable {e : Ev}
theorem Zoe (b : Bytes) : encB b = b.map byteV := rfl
theorem fill {α : Type} {F Z : List α} {i : Nat} (hi : i < F.length) (hl : F.length = Z.length) : (F.take i ++ Z.drop i).set i F[i] = F.take (i + 1) ++ Z.drop (i + 1) := by
 have hz : Z.drop i = Z[i]'(by omega) :: Z.drop (i + 1) := Xa0 (by omega)
 have ht : F.take (i + 1) = F.take i ++ [F[i]] := by simp
 have hlt : (F.take i).length = i := by simp; omega
 rw [ht, hz, Xc7 _ _ (by omega), hlt, Xfb, List.set_cons_zero, Xai]; rfl
theorem Zgc {α : Type} {F Z : List α} {i : Nat} (hi : i <= F.length) (hl : F.length = Z.length) : (F.take i ++ Z.drop i).length = F.length := by simp; omega
def outB (st : List W32) : Bytes := (List.range 32).map fun i => wb ((st.getD (i / 4) 0) >>> (24 - 8 * (i % 4)))
theorem Zd6 (st : List W32) : (outB st).length = 32 := by simp [outB]
theorem Zg8 (st : List W32) {i : Nat} (h : i < (outB st).length) : (outB st)[i] = wb ((st.getD (i / 4) 0) >>> (24 - 8 * (i % 4))) := by simp [outB]
theorem Zbn {o : Bytes} (h : o.length = 32) : evp (.cat [some 32]) [bl o] = some (bl o) := by
 show (catV [some 32] [bl o]).map V.agg = _
 have hc : (bl o).cells.length = 32 /\ (bl o).cells.all V.sc = true := ⟨by show (o.map byteV).length = 32; simpa using h, by
  rw [Xal]; intro c hc
  obtain ⟨x, _, rfl⟩ := Xa3.1 (show c ∈ o.map byteV from hc); rfl⟩
 show ((if (bl o).cells.length = 32 /\ (bl o).cells.all V.sc = true then (catV [] []).map ((bl o).cells ++ ·) else none)).map V.agg = _
 rw [if_pos hc]
 show some (V.agg ((bl o).cells ++ [])) = _
 rw [Xau]; rfl
theorem v.out (z : V) (st : List W32) (hs : st.length = 8) : ∀ (n i : Nat), i + n = 32 ->
  vl e 70 64 [I i, z, wl st, bl ((outB st).take i ++ (List.replicate 32 0).drop i)] = some (bl (outB st))
 | 0, i, hi => by
  have hl := Zd6 st
  rw [Xao (by omega), Xav (by simp; omega), Xau]
  rw [w.zq61_64]; unfold y.zq61_64
  simp only [yy, if_neg (show ¬((i : Int) < 32) by omega), Zbn hl]
 | n + 1, i, hi => by
  have hl := Zd6 st
  have hq : evp (.bin .quo .no) [.int .i64 (i : Int), .int .i64 4] = some (.int .i64 ((i / 4 : Nat) : Int)) := Zv0 (k := 4) (by decide) (by omega)
  have hr : evp (.bin .rem .no) [.int .i64 (i : Int), .int .i64 4] = some (.int .i64 ((i % 4 : Nat) : Int)) := Zqo (k := 4) (by decide)
  have e1 : IntKind.i64.wrap (8 * ((i % 4 : Nat) : Int)) = ((8 * (i % 4) : Nat) : Int) := by rw [w64 _ (by omega)]; omega
  have e2 : IntKind.i64.wrap (24 - ((8 * (i % 4) : Nat) : Int)) = ((24 - 8 * (i % 4) : Nat) : Int) := by rw [w64 _ (by omega)]; omega
  have lw : evp (.ldd none 0 1) [wl st, .int .i64 ((i / 4 : Nat) : Int)] = some (bv (st.getD (i / 4) 0)) := by rw [Zqn (by omega), Zb7 (by omega)]
  have hset : ((outB st).take i ++ (List.replicate 32 0).drop i).set i (wb ((st.getD (i / 4) 0) >>> (24 - 8 * (i % 4)))) = (outB st).take (i + 1) ++ (List.replicate 32 0).drop (i + 1) := by
   rw [<- Zg8 st (by omega)]; exact fill (by omega) (by simpa using hl)
  have hst := Zhl (k := .i64) (l := (outB st).take i ++ (List.replicate 32 0).drop i) (i := i) (x := wb ((st.getD (i / 4) 0) >>> (24 - 8 * (i % 4)))) (by rw [Zgc (by omega) (by simpa using hl)]; omega)
  rw [hset] at hst
  rw [w.zq61_64]; unfold y.zq61_64
  simp only [yy, if_pos (show (i : Int) < 32 by omega), hq, Zek (m := 8) (k := .i64) (i := ((i / 4 : Nat) : Int)) (by omega) (by omega), lw, hr, Zk8, e1, e2, Zmk (st.getD (i / 4) 0) (24 - 8 * (i % 4)) .i64 (by omega), Zo1, Zek (m := 32) (k := .i64) (i := (i : Int)) (by omega) (by omega), hst, Zas (show i < 64 by omega) (by decide)]
  exact v.out z st hs n (i + 1) (by omega)
theorem v.nout45 (st : List W32) (hs : st.length = 8) (i : Nat) (hi : i < 8) : ∀ (n j : Nat), j + n = 4 ->
  vl e 62 45 [I i, bv (st.getD i 0), I j, wl st, I i, V.agg (repl 32 (.int .u8 0)), bl ((outB st).take (4 * i + j) ++ (List.replicate 32 0).drop (4 * i + j))] =
   vl e 62 31 [wl st, I ((i + 1 : Nat) : Int), V.agg (repl 32 (.int .u8 0)), bl ((outB st).take (4 * (i + 1)) ++ (List.replicate 32 0).drop (4 * (i + 1)))]
 | 0, j, hj => by
  rw [w.zq47_45]; unfold y.zq47_45
  have : 4 * i + j = 4 * (i + 1) := by omega
  rw [this]
  simp only [yy, if_neg (show ¬((j : Int) < 4) by omega), Zas (show i < 64 by omega) (by decide)]
 | n + 1, j, hj => by
  have hl := Zd6 st
  have e0 : IntKind.i64.wrap (4 * (i : Int)) = ((4 * i : Nat) : Int) := mul4 (by omega)
  have e1 : IntKind.i64.wrap (((4 * i : Nat) : Int) + (j : Int)) = ((4 * i + j : Nat) : Int) := by rw [w64 _ (by omega)]; omega
  have e2 : IntKind.i64.wrap (8 * (j : Int)) = ((8 * j : Nat) : Int) := by rw [w64 _ (by omega)]; omega
  have e3 : IntKind.i64.wrap (24 - ((8 * j : Nat) : Int)) = ((24 - 8 * j : Nat) : Int) := by rw [w64 _ (by omega)]; omega
  have e4 : evp (.i2i .u64) [.int .i64 ((24 - 8 * j : Nat) : Int)] = some (.int .u64 ((24 - 8 * j : Nat) : Int)) := by
   show some (V.int .u64 (IntKind.u64.wrap ((24 - 8 * j : Nat) : Int))) = _
   rw [Zdi, Xcv (by omega) (by omega)]
  have hd : (4 * i + j) / 4 = i /\ (4 * i + j) % 4 = j := by omega
  have hset : ((outB st).take (4 * i + j) ++ (List.replicate 32 0).drop (4 * i + j)).set (4 * i + j) (wb ((st.getD i 0) >>> (24 - 8 * j))) = (outB st).take (4 * i + (j + 1)) ++ (List.replicate 32 0).drop (4 * i + (j + 1)) := by
   have := Zg8 st (i := 4 * i + j) (by omega)
   rw [hd.1, hd.2] at this
   rw [<- this]; exact fill (by omega) (by simpa using hl)
  have hst := Zhl (k := .i64) (l := (outB st).take (4 * i + j) ++ (List.replicate 32 0).drop (4 * i + j)) (i := 4 * i + j) (x := wb ((st.getD i 0) >>> (24 - 8 * j))) (by rw [Zgc (by omega) (by simpa using hl)]; omega)
  rw [hset] at hst
  rw [w.zq47_45]; unfold y.zq47_45
  simp only [yy, if_pos (show (j : Int) < 4 by omega), Zk8, e0, e1, e2, e3, e4, Zmk (st.getD i 0) (24 - 8 * j) .u64 (by omega), Zo1, Zek (m := 32) (k := .i64) (i := ((4 * i + j : Nat) : Int)) (by omega) (by omega), hst, Zas (show j < 64 by omega) (by decide)]
  exact v.nout45 st hs i hi n (j + 1) (by omega)
theorem v.nout (st : List W32) (hs : st.length = 8) : ∀ (n i : Nat), i + n = 8 ->
  vl e 62 31 [wl st, I i, V.agg (repl 32 (.int .u8 0)), bl ((outB st).take (4 * i) ++ (List.replicate 32 0).drop (4 * i))] = some (bl (outB st))
 | 0, i, hi => by
  have hl := Zd6 st
  rw [Xao (by omega), Xav (by simp; omega), Xau]
  rw [w.zq47_31]; unfold y.zq47_31
  simp only [yy, if_neg (show ¬((i : Int) < 8) by omega), Zbn hl]
 | n + 1, i, hi => by
  rw [w.zq47_31]; unfold y.zq47_31
  simp only [yy, if_pos (show (i : Int) < 8 by omega), Zsh (m := 8) (l := st) (i := i) (by omega) (by omega)]
  exact (v.nout45 st hs i (by omega) 4 0 (by omega)).trans (v.nout st hs n (i + 1) (by omega))
def lenB (n : Nat) : Bytes := (List.range 8).map fun i => UInt8.ofNat (8 * n / 2 ^ (56 - 8 * i))
theorem Zfy (n : Nat) : (lenB n).length = 8 := by simp [lenB]
theorem Zwq (n : Nat) {i : Nat} (h : i < (lenB n).length) : (lenB n)[i] = UInt8.ofNat (8 * n / 2 ^ (56 - 8 * i)) := by simp [lenB]
theorem Zda (n : Nat) : V.int .u8 (IntKind.u8.wrap (n : Int)) = byteV (UInt8.ofNat n) := by
 rw [Z3k]; unfold byteV
 congr 1
theorem v.lens (s : Bytes) (hs : s.length <= 1000000000000) (o st : V) (base z : Bytes) (hb : base.length = 56) (hz : z.length = 8) : ∀ (n i : Nat), i + n = 8 ->
  vl e 70 43 [.str s, I i, o, st, bl (base ++ ((lenB s.length).take i ++ z.drop i))] = vl e 70 43 [.str s, I 8, o, st, bl (base ++ lenB s.length)]
 | 0, i, hi => by
  have hl := Zfy s.length
  obtain rfl : i = 8 := by omega
  rw [Xao (by omega), Xav (by omega), Xau]; rfl
 | n + 1, i, hi => by
  have hl := Zfy s.length
  have e0 : IntKind.i64.wrap (56 + (i : Int)) = ((56 + i : Nat) : Int) := by rw [w64 _ (by omega)]; omega
  have e1 : IntKind.i64.wrap (8 * (i : Int)) = ((8 * i : Nat) : Int) := by rw [w64 _ (by omega)]; omega
  have e2 : IntKind.i64.wrap (56 - ((8 * i : Nat) : Int)) = ((56 - 8 * i : Nat) : Int) := by rw [w64 _ (by omega)]; omega
  have e3 : evp (.i2i .u64) [.int .i64 (s.length : Int)] = some (.int .u64 (s.length : Int)) := by
   show some (V.int .u64 (IntKind.u64.wrap (s.length : Int))) = _
   rw [Zdi, Xcv (by omega) (by omega)]
  have e4 : evp (.bin .shl .no) [.int .u64 (s.length : Int), .int .u64 3] = some (.int .u64 ((8 * s.length : Nat) : Int)) := by
   show some (V.int .u64 (IntKind.u64.wrap ((s.length : Int) * 2 ^ 3))) = _
   rw [Zdi, Xcv (by omega) (by omega)]
   congr 2; omega
  have e5 : evp (.bin .shr .no) [.int .u64 ((8 * s.length : Nat) : Int), .int .i64 ((56 - 8 * i : Nat) : Int)] = some (.int .u64 ((8 * s.length / 2 ^ (56 - 8 * i) : Nat) : Int)) := by
   show (if ((56 - 8 * i : Nat) : Int) < 0 then none else some (V.int .u64 (((8 * s.length : Nat) : Int).fdiv (2 ^ (min ((56 - 8 * i : Nat) : Int).toNat IntKind.u64.bits))))) = _
   have : min ((56 - 8 * i : Nat) : Int).toNat IntKind.u64.bits = 56 - 8 * i := by show min _ 64 = _; omega
   rw [if_neg (by omega), this, Xdo _ (Int.le_of_lt (Int.pow_pos (by decide)))]
   simp
  have e6 : evp (.i2i .u8) [.int .u64 ((8 * s.length / 2 ^ (56 - 8 * i) : Nat) : Int)] = some (byteV (UInt8.ofNat (8 * s.length / 2 ^ (56 - 8 * i)))) := congrArg some (Zda _)
  have hset : (base ++ ((lenB s.length).take i ++ z.drop i)).set (56 + i) (UInt8.ofNat (8 * s.length / 2 ^ (56 - 8 * i))) = base ++ ((lenB s.length).take (i + 1) ++ z.drop (i + 1)) := by
   rw [Xc7 _ _ (by omega), show 56 + i - base.length = i by omega, <- Zwq s.length (by omega), fill (by omega) (by omega)]
  have hst := Zhl (k := .i64) (l := base ++ ((lenB s.length).take i ++ z.drop i)) (i := 56 + i) (x := UInt8.ofNat (8 * s.length / 2 ^ (56 - 8 * i))) (by rw [Xaq, Zgc (by omega) (by omega)]; omega)
  rw [hset] at hst
  rw [w.zq61_43]; unfold y.zq61_43
  simp only [yy, if_pos (show (i : Int) < 8 by omega), e0, e3, e4, Zk8, e1, e2, e5, e6, Zek (m := 64) (k := .i64) (i := ((56 + i : Nat) : Int)) (by omega) (by omega), hst, Zas (show i < 64 by omega) (by decide)]
  exact v.lens s hs o st base z hb hz n (i + 1) (by omega)
theorem v.endOf (s : Bytes) (hs : s.length <= 1000000000000) (o : V) (st : List W32) (h8 : st.length = 8) (base z : Bytes) (hb : base.length = 56) (hz : z.length = 8) :
  vl e 70 39 [.str s, o, wl st, bl (base ++ z)] = some (bl (outB (Zcl KT st (base ++ lenB s.length)))) := by
 have h1 := v.lens (e := e) s hs o (wl st) base z hb hz 8 0 (by omega)
 rw [Xb7, Xa7, Xbh] at h1
 have hl := Zfy s.length
 have hblk := v.block (e := e) st h8 (base ++ lenB s.length) (by simp; omega)
 have h2 := v.out (e := e) o (Zcl KT st (base ++ lenB s.length)) (by unfold Zcl; rw [Zkj]; exact h8) 32 0 (by omega)
 rw [Xb7, Xa7, Xbh] at h2
 rw [w.zq61_39]; unfold y.zq61_39
 refine h1.trans ?_
 rw [w.zq61_43]; unfold y.zq61_43
 simp only [yy, if_neg (show ¬((8 : Int) < 8) by omega), hblk]
 exact h2
end Go.Proofs.YtpmgdngjbdkdfaaGreatDoor
namespace Go.Proofs.YtpmgdngjbdkdfaaGreatDoor
open Go.Abs
set_option maxRecDepth 10000
variable {e : Ev}
def padN (k : Nat) : Nat := (119 - k % 64) % 64
def padB (n : Nat) (r : Bytes) : Bytes := r ++ (128 :: (List.replicate (padN r.length) 0 ++ lenB n))
def Zfl (K : List W32) : Nat -> Bytes -> List W32 -> List W32
 | 0, _, st => st
 | m + 1, b, st => Zfl K m (b.drop 64) (Zcl K st (b.take 64))
theorem Zkl (n : Nat) (r : Bytes) : (padB n r).length = r.length + 9 + padN r.length := by simp [padB, Zfy]; omega
theorem Zhw (k : Nat) : (k + 9 + padN k) % 64 = 0 /\ padN k < 64 := by unfold padN; omega
theorem Zdb (K st : List W32) (b : Bytes) : (Zcl K st b).length = st.length := by unfold Zcl; rw [Zkj]
theorem Ziq (K : List W32) : ∀ (m : Nat) (b : Bytes) (st : List W32), (Zfl K m b st).length = st.length
 | 0, _, _ => rfl
 | m + 1, b, st => by rw [Zfl, Ziq K m, Zdb]
def Zg3 (n : Nat) (r : Bytes) (st : List W32) : List W32 := Zfl KT ((r.length + 9 + padN r.length) / 64) (padB n r) st
theorem Zr1 {n : Nat} {r : Bytes} (h : 64 <= r.length) (st : List W32) : Zg3 n r st = Zg3 n (r.drop 64) (Zcl KT st (r.take 64)) := by
 have hp : padN (r.length - 64) = padN r.length := by unfold padN; omega
 have hm : (r.length + 9 + padN r.length) / 64 = (r.length - 64 + 9 + padN r.length) / 64 + 1 := by omega
 unfold Zg3
 rw [Xb5, hp, hm, Zfl]
 have h1 : (padB n r).take 64 = r.take 64 := by unfold padB; rw [Xbv h]
 have h2 : (padB n r).drop 64 = padB n (r.drop 64) := by unfold padB; rw [Xbf h, Xb5, hp]
 rw [h1, h2]
theorem Zjj {n : Nat} {r : Bytes} (h : r.length < 56) (st : List W32) : Zg3 n r st = Zcl KT st ((r ++ (128 :: List.replicate (55 - r.length) 0)) ++ lenB n) := by
 have hp : padN r.length = 55 - r.length := by unfold padN; omega
 have hm : (r.length + 9 + padN r.length) / 64 = 1 := by omega
 have hl := Zkl n r
 unfold Zg3
 rw [hm, Zfl, Zfl, Xao (by omega)]
 unfold padB
 rw [hp]; simp
theorem Zr3 {n : Nat} {r : Bytes} (h : 56 <= r.length) (h2 : r.length < 64) (st : List W32) : Zg3 n r st = Zcl KT (Zcl KT st (r ++ (128 :: List.replicate (63 - r.length) 0))) (List.replicate 56 0 ++ lenB n) := by
 have hp : padN r.length = (63 - r.length) + 56 := by unfold padN; omega
 have hm : (r.length + 9 + padN r.length) / 64 = 2 := by omega
 have e1 : padB n r = (r ++ (128 :: List.replicate (63 - r.length) 0)) ++ (List.replicate 56 0 ++ lenB n) := by
  unfold padB
  rw [hp, <- Xdc]; simp
 have l1 : (r ++ (128 :: List.replicate (63 - r.length) 0)).length = 64 := by simp; omega
 have l2 : (List.replicate 56 (0 : UInt8) ++ lenB n).length = 64 := by simp [Zfy]
 unfold Zg3
 rw [hm, Zfl, Zfl, Zfl, e1, <- l1, List.take_left, Xct, l1, Xao (by omega)]
theorem Zta {b : Bytes} (hb : b.length = 64) (r : Bytes) : evp (.cpya 0 64) [bl b, .str r] = some (bl (r.take 64 ++ b.drop (r.take 64).length)) := by
 refine (if_pos (show 0 + 64 <= (bl b).cells.length by show _ <= (b.map byteV).length; simp; omega)).trans ?_
 show some (V.agg (Zaq (b.map byteV) 0 ((encB r).take 64))) = _
 unfold Zaq
 rw [Zoe, Xb7, Xbh, Xan, <- Xd3, Xb4, <- Xe7, <- Xb1]
theorem Zw3 {r : Bytes} : ∃ x, evp (.cpyn 64) [.str r] = some x := ⟨_, rfl⟩
theorem Zvy {b : Bytes} (hb : b.length = 64) : evp (.clra (.int .u8 0) 0 64) [bl b] = some (bl (List.replicate 64 0)) := by
 refine (if_pos (show 0 + 64 <= (bl b).cells.length by show _ <= (b.map byteV).length; simp; omega)).trans ?_
 show some (V.agg (Zaq (b.map byteV) 0 (List.replicate 64 (.int .u8 0)))) = _
 unfold Zaq
 rw [Xb7, Xbh, Xav (by simp; omega), Xau]; rfl
theorem v.sha12 (s : Bytes) (hs : s.length <= 1000000000000) : ∀ (m : Nat) (r : Bytes) (st : List W32) (b : Bytes), r.length <= m -> st.length = 8 -> b.length = 64 ->
  vl e 70 12 [.str s, .str r, V.agg (repl 32 (.int .u8 0)), wl st, bl b] = some (bl (outB (Zg3 s.length r st))) := by
 intro m
 induction m with
 | zero =>
  intro r st b hr h8 hb
  obtain rfl : r = [] := Xcp (by omega)
  obtain ⟨x, hx⟩ := Zw3 (r := [])
  have hend := v.endOf (e := e) s hs (V.agg (repl 32 (.int .u8 0))) st h8 (128 :: List.replicate 55 0) (List.replicate 8 0) (by simp) (by simp)
  rw [Zjj (by decide)]
  have hst := Zhl (k := .i64) (l := List.replicate 64 0) (i := 0) (x := 128) (by simp)
  have hcp := Zta (b := List.replicate 64 0) (by simp) []
  rw [w.zq61_12]; unfold y.zq61_12
  have e128 : V.int .u8 128 = byteV 128 := rfl
  simp only [yy, Xbb, Int.natCast_zero, if_neg (show ¬((64 : Int) <= 0) by omega), Zvy hb, hcp, hx, Zek (m := 64) (k := .i64) (i := 0) (by omega) (by omega), e128]
  refine Zub hst ?_
  rw [if_neg (show ¬((56 : Int) <= 0) by omega)]
  exact hend
 | succ m ih =>
  intro r st b hr h8 hb
  obtain ⟨x, hx⟩ := Zw3 (r := r)
  by_cases h64 : 64 <= r.length
  ·have hl64 : (r.take 64).length = 64 := by simp; omega
   have hcp := Zta hb r
   rw [hl64, Xav (by omega), Xau] at hcp
   have hblk := v.block (e := e) st h8 (r.take 64) hl64
   have hsl : evp (.sls true false) [.str r, .int .i64 64] = some (.str (r.drop 64)) := Zk9 (l := 64) (by omega)
   rw [Zr1 h64]
   rw [w.zq61_12]; unfold y.zq61_12
   simp only [yy, if_pos (show (64 : Int) <= (r.length : Int) by omega), hcp, hx, hblk, hsl]
   exact ih (r.drop 64) _ _ (by simp; omega) (by rw [Zdb]; exact h8) hl64
  ·have htk : r.take 64 = r := Xao (by omega)
   have hcp := Zta (b := List.replicate 64 0) (by simp) r
   rw [htk, List.drop_replicate] at hcp
   have hst := Zhl (k := .i64) (l := r ++ List.replicate (64 - r.length) 0) (i := r.length) (x := 128) (by simp; omega)
   have hset : (r ++ List.replicate (64 - r.length) 0).set r.length 128 = r ++ (128 :: List.replicate (63 - r.length) 0) := by
    rw [Xc7 _ _ (Xaj _), Xfb, show 64 - r.length = (63 - r.length) + 1 by omega, Xcw, List.set_cons_zero]
   rw [hset] at hst
   have e128 : V.int .u8 128 = byteV 128 := rfl
   rw [w.zq61_12]; unfold y.zq61_12
   by_cases h56 : 56 <= r.length
   ·have l1 : (r ++ (128 :: List.replicate (63 - r.length) 0)).length = 64 := by simp; omega
    have hblk := v.block (e := e) st h8 (r ++ (128 :: List.replicate (63 - r.length) 0)) l1
    have hend := v.endOf (e := e) s hs (V.agg (repl 32 (.int .u8 0))) (Zcl KT st (r ++ (128 :: List.replicate (63 - r.length) 0))) (by rw [Zdb]; exact h8) (List.replicate 56 0) (List.replicate 8 0) (by simp) (by simp)
    rw [Xdc] at hend
    rw [Zr3 h56 (by omega)]
    simp only [yy, if_neg (show ¬((64 : Int) <= (r.length : Int)) by omega), Zvy hb, hcp, hx, Zek (m := 64) (k := .i64) (i := (r.length : Int)) (by omega) (by omega), e128, hst, if_pos (show (56 : Int) <= (r.length : Int) by omega), hblk, Zvy l1]
    exact hend
   ·have hend := v.endOf (e := e) s hs (V.agg (repl 32 (.int .u8 0))) st h8 (r ++ (128 :: List.replicate (55 - r.length) 0)) (List.replicate 8 0) (by simp; omega) (by simp)
    have e1 : (r ++ (128 :: List.replicate (55 - r.length) 0)) ++ List.replicate 8 0 = r ++ (128 :: List.replicate (63 - r.length) 0) := by
     rw [show 63 - r.length = (55 - r.length) + 8 by omega, <- Xdc]; simp
    rw [e1] at hend
    rw [Zjj (by omega)]
    simp only [yy, if_neg (show ¬((64 : Int) <= (r.length : Int)) by omega), Zvy hb, hcp, hx, Zek (m := 64) (k := .i64) (i := (r.length : Int)) (by omega) (by omega), e128, hst, if_neg (show ¬((56 : Int) <= (r.length : Int)) by omega)]
    exact hend
def H0 : List W32 := [1779033703, 3144134277, 1013904242, 2773480762, 1359893119, 2600822924, 528734635, 1541459225]
def Zpn (s : Bytes) : Bytes := outB (Zg3 s.length s H0)
theorem Zgm (s : Bytes) : (Zpn s).length = 32 := Zd6 _
theorem v.shaOf (s : Bytes) (hs : s.length <= 1000000000000) : vl e 70 0 [.str s] = some (bl (Zpn s)) := by
 rw [w.zq61]; unfold y.zq61
 exact v.sha12 s hs s.length s H0 (List.replicate 64 0) (Xaj _) rfl (by simp)
theorem Zwz {l : Bytes} {x : UInt8} (h : l.length + 1 <= Lim) : evp (.app 1) [bsl l, .sl false 1 [byteV x]] = some (bsl (l ++ [x])) := by
 rw [bsl, Zk2 (by simpa using h)]; simp
theorem Zon {l m : Bytes} (h : l.length + m.length <= Lim) : evp (.app 1) [bsl l, bsl m] = some (bsl (l ++ m)) := by
 rw [bsl, bsl, Zk2 (by simpa using h)]; simp
theorem Zl6 {x : UInt8} : evp (.bsl 1) [byteV x] = some (.sl false 1 [byteV x]) := rfl
theorem v.pad8 (b : Bytes) (hb : b.length <= 1000000000) : ∀ (n : Nat) (l : Bytes), n = padN (l.length - 1) -> 1 <= l.length -> l.length + n <= 2000000000 ->
  vl e 82 8 [bsl b, bsl l] = vl e 82 25 [bsl (l ++ List.replicate n 0), I b.length, .sl false 1 [], I 0]
 | n, l, hn, h1, h2 => by
  have hLim : Lim = 4294967296 := rfl
  have hr : evp (.bin .rem .no) [.int .i64 (l.length : Int), .int .i64 64] = some (.int .i64 ((l.length % 64 : Nat) : Int)) := Zqo (k := 64) (by decide)
  have e0 : V.int .u8 0 = byteV 0 := rfl
  rw [w.zq48_8]; unfold y.zq48_8
  cases n with
  | zero =>
   have : l.length % 64 = 56 := by unfold padN at hn; omega
   simp only [yy, hr, if_pos (show ((l.length % 64 : Nat) : Int) = 56 by omega)]
   rw [List.replicate_zero, Xau]
  | succ n =>
   have hn' : n = padN ((l ++ [0]).length - 1) := by simp; unfold padN at hn ⊢; omega
   have : l.length % 64 ≠ 56 := by unfold padN at hn; omega
   simp only [yy, hr, if_neg (show ¬(((l.length % 64 : Nat) : Int) = 56) by omega), e0, Zl6, Zwz (show l.length + 1 <= Lim by omega)]
   have h3 := v.pad8 b hb n (l ++ [0]) hn' (by simp) (by simp; omega)
   refine h3.trans ?_
   rw [Xai, Xcn, <- Xcw]
def Zut : Nat -> Nat -> Bytes -> Bytes
 | 0, _, t => t
 | k + 1, m, t => Zut k (m / 256) (UInt8.ofNat (m % 256) :: t)
theorem Zbk {x y : Nat} (h : x % 256 = y % 256) : UInt8.ofNat x = UInt8.ofNat y := by
 apply Xew.1
 simp only [Xey]
 exact h
theorem Zy7 (n : Nat) : Zut 7 (n / 32) [UInt8.ofNat (n % 32 * 8)] = lenB n := by
 show [_, _, _, _, _, _, _, _] = [_, _, _, _, _, _, _, _]
 simp only [Xee, Nat.reduceMul, Nat.reduceSub, Nat.reducePow]
 congr 1
 ·exact Zbk (by omega)
 congr 1
 ·exact Zbk (by omega)
 congr 1
 ·exact Zbk (by omega)
 congr 1
 ·exact Zbk (by omega)
 congr 1
 ·exact Zbk (by omega)
 congr 1
 ·exact Zbk (by omega)
 congr 1
 ·exact Zbk (by omega)
 congr 1
 ·exact Zbk (by omega)
theorem v.pad25 (out : Bytes) (ho : out.length <= 2000000000) : ∀ (k i m : Nat) (t : Bytes), i + k = 8 -> 1 <= i -> m <= 1000000000 -> t.length = i ->
  vl e 82 25 [bsl out, I m, bsl t, I i] = some (bsl (out ++ Zut k m t))
 | 0, i, m, t, hi, h1, hm, ht => by
  have hLim : Lim = 4294967296 := rfl
  rw [w.zq48_25]; unfold y.zq48_25
  simp only [yy, if_neg (show ¬((i : Int) < 8) by omega), Zon (show out.length + t.length <= Lim by omega)]; rfl
 | k + 1, i, m, t, hi, h1, hm, ht => by
  have hLim : Lim = 4294967296 := rfl
  have hr : evp (.bin .rem .no) [.int .i64 (m : Int), .int .i64 256] = some (.int .i64 ((m % 256 : Nat) : Int)) := Zqo (k := 256) (by decide)
  have hq : evp (.bin .quo .no) [.int .i64 (m : Int), .int .i64 256] = some (.int .i64 ((m / 256 : Nat) : Int)) := Zv0 (k := 256) (by decide) (by omega)
  have hn : evp (.i2i .u8) [.int .i64 ((m % 256 : Nat) : Int)] = some (byteV (UInt8.ofNat (m % 256))) := congrArg some (Zda _)
  have ha : evp (.app 1) [.sl false 1 [byteV (UInt8.ofNat (m % 256))], bsl t] = some (bsl (UInt8.ofNat (m % 256) :: t)) := Zon (l := [UInt8.ofNat (m % 256)]) (by simp; omega)
  rw [w.zq48_25]; unfold y.zq48_25
  simp only [yy, if_pos (show (i : Int) < 8 by omega), if_neg (show ¬((i : Int) = 0) by omega), hr, hn, Zl6, ha, hq, Zas (show i < 64 by omega) (by decide)]
  exact v.pad25 out ho k (i + 1) (m / 256) _ (by omega) (by omega) (by omega) (by simp; omega)
theorem v.Padded (b : Bytes) (hb : b.length <= 1000000000) : vl e 82 0 [bsl b] = some (bsl (padB b.length b)) := by
 have hLim : Lim = 4294967296 := rfl
 have hpn := (Zhw b.length).2
 have e128 : V.int .u8 128 = byteV 128 := rfl
 have h0 : evp (.bsl 1) [] = some (bsl []) := rfl
 have h8 := v.pad8 (e := e) b hb (padN b.length) (b ++ [128]) (by simp) (by simp) (by simp; omega)
 have hr : evp (.bin .rem .no) [.int .i64 (b.length : Int), .int .i64 32] = some (.int .i64 ((b.length % 32 : Nat) : Int)) := Zqo (k := 32) (by decide)
 have hq : evp (.bin .quo .no) [.int .i64 (b.length : Int), .int .i64 32] = some (.int .i64 ((b.length / 32 : Nat) : Int)) := Zv0 (k := 32) (by decide) (by omega)
 have hm : IntKind.i64.wrap (((b.length % 32 : Nat) : Int) * 8) = ((b.length % 32 * 8 : Nat) : Int) := by rw [w64 _ (by omega)]; omega
 have hn : evp (.i2i .u8) [.int .i64 ((b.length % 32 * 8 : Nat) : Int)] = some (byteV (UInt8.ofNat (b.length % 32 * 8))) := congrArg some (Zda _)
 have ha : evp (.app 1) [.sl false 1 [byteV (UInt8.ofNat (b.length % 32 * 8))], .sl false 1 []] = some (bsl [UInt8.ofNat (b.length % 32 * 8)]) := Zon (l := [UInt8.ofNat (b.length % 32 * 8)]) (m := []) (by simp; omega)
 have h25 := v.pad25 (e := e) (b ++ [128] ++ List.replicate (padN b.length) 0) (by simp; omega) 7 1 (b.length / 32) [UInt8.ofNat (b.length % 32 * 8)] (by omega) (by omega) (by omega) rfl
 rw [Zy7] at h25
 rw [w.zq48]; unfold y.zq48
 simp only [yy, h0, Zon (l := []) (m := b) (by simp; omega), e128, Zl6]
 rw [Xbh, Zwz (by omega)]
 simp only [yy]
 refine h8.trans ?_
 rw [w.zq48_25]; unfold y.zq48_25
 simp only [yy, if_pos (show (0 : Int) < 8 by omega), if_true, hr, Zk8, hm, hn, Zl6, ha, hq]
 refine h25.trans ?_
 unfold padB; simp
theorem Z5t {l : Bytes} {i j : Nat} (h1 : i <= j) (h2 : j <= l.length) : evp (.slc 1 true true false) [bsl l, .int .i64 (i : Int), .int .i64 (j : Int)] = some (bsl ((l.take j).drop i)) := by
 simp only [evp, Zu6, vSlc, vOpt]
 simp [cut3]
 exact ⟨h2, h1⟩
theorem Zx1 {l : List W32} (n : Nat) (h : l.length = n) : evp (.cat [some n]) [wl l] = some (wl l) := by
 show ((if (wl l).cells.length = n /\ (wl l).cells.all V.sc = true then (catV [] []).map ((wl l).cells ++ ·) else none)).map V.agg = _
 rw [if_pos ⟨by show (l.map bv).length = n; simpa using h, by
  rw [Xal]; intro c hc
  obtain ⟨x, _, rfl⟩ := Xa3.1 (show c ∈ l.map bv from hc); rfl⟩]
 show some (V.agg ((wl l).cells ++ [])) = _
 rw [Xau]; rfl
theorem v.nOf14 (all : Bytes) (ha : all.length <= 2000000000) : ∀ (n j : Nat) (st : List W32), all.length = 64 * (j + n) -> st.length = 8 ->
  vl e 62 14 [bsl all, I ((64 * j : Nat) : Int), V.agg (repl 32 (.int .u8 0)), wl st, wl KT] = some (bl (outB (Zfl KT n (all.drop (64 * j)) st)))
 | 0, j, st, hj, h8 => by
  rw [w.zq47_14]; unfold y.zq47_14
  simp only [yy, if_neg (show ¬(((64 * j : Nat) : Int) < (all.length : Int)) by omega)]
  have h := v.nout (e := e) st h8 8 0 (by omega)
  rw [Xfg, Xb7, Xa7, Xbh] at h
  exact h
 | n + 1, j, st, hj, h8 => by
  have e1 : IntKind.i64.wrap (((64 * j : Nat) : Int) + 64) = ((64 * (j + 1) : Nat) : Int) := by rw [w64 _ (by omega)]; omega
  have hsl := Z5t (l := all) (i := 64 * j) (j := 64 * (j + 1)) (by omega) (by omega)
  have hcl : (all.take (64 * (j + 1))).drop (64 * j) = (all.drop (64 * j)).take 64 := by rw [List.drop_take, show 64 * (j + 1) - 64 * j = 64 by omega]
  rw [hcl] at hsl
  have hN := v.Next (e := e) st h8 ((all.drop (64 * j)).take 64) (by simp; omega)
  rw [w.zq47_14]; unfold y.zq47_14
  simp only [yy, if_pos (show ((64 * j : Nat) : Int) < (all.length : Int) by omega), e1, hsl, hN, Zx1 8 (show (Zcl KT st ((all.drop (64 * j)).take 64)).length = 8 by rw [Zdb]; exact h8)]
  have h := v.nOf14 all ha n (j + 1) (Zcl KT st ((all.drop (64 * j)).take 64)) (by omega) (by rw [Zdb]; exact h8)
  rw [Zfl, Xcs, show 64 * j + 64 = 64 * (j + 1) by omega]
  exact h
theorem v.refOf (b : Bytes) (hb : b.length <= 1000000000) : vl e 62 0 [bsl b] = some (bl (Zpn b)) := by
 have hpn := Zhw b.length
 have hl := Zkl b.length b
 have hc : evp (.cat [none, none, none, none, none, none, none, none]) [.int .u32 1779033703, .int .u32 3144134277, .int .u32 1013904242, .int .u32 2773480762, .int .u32 1359893119, .int .u32 2600822924, .int .u32 528734635, .int .u32 1541459225] = some (wl H0) := rfl
 have h := v.nOf14 (e := e) (padB b.length b) (by omega) ((b.length + 9 + padN b.length) / 64) 0 H0 (by omega) rfl
 rw [w.zq47]; unfold y.zq47
 simp only [yy, hc, v.Padded b hb, v.Numbers, Zx1 64 Zju]
 exact h
end Go.Proofs.YtpmgdngjbdkdfaaGreatDoor
namespace Go.Proofs.YtpmgdngjbdkdfaaGreatDoor
open Go.Abs
set_option maxRecDepth 10000
variable {e : Ev}
def numB (n : Nat) : Bytes := (List.range 8).map fun i => UInt8.ofNat (n / 2 ^ (56 - 8 * i))
theorem Za4 (n : Nat) : (numB n).length = 8 := by simp [numB]
theorem Zp6 (n : Nat) {i : Nat} (h : i < (numB n).length) : (numB n)[i] = UInt8.ofNat (n / 2 ^ (56 - 8 * i)) := by simp [numB]
theorem Z1b {l : Bytes} {k : Nat} (h : l.length = k) : evp (.b2so 0 k) [bl l] = some (.str l) := by
 show (if 0 + k <= (l.map byteV).length then (Zbq (((l.map byteV).drop 0).take k)).map V.str else none) = _
 rw [Xa7, Xao (by simp; omega), Zdk]
 exact if_pos (by simp; omega)
theorem v.num10 (n : Nat) (hn : n <= 1000000000000) : ∀ (m i : Nat), i + m = 8 -> vl e 86 10 [I n, I i, bl ((numB n).take i ++ (List.replicate 8 0).drop i)] = some (.str (numB n))
 | 0, i, hi => by
  have hl := Za4 n
  rw [Xao (by omega), Xav (by simp; omega), Xau]
  have hb : evp (.b2so 0 8) [bl (numB n)] = some (.str (numB n)) := Z1b (by omega)
  rw [w.zq3_10]; unfold y.zq3_10
  simp only [yy, if_neg (show ¬((i : Int) < 8) by omega), hb]
 | m + 1, i, hi => by
  have hl := Za4 n
  have e1 : IntKind.i64.wrap (8 * (i : Int)) = ((8 * i : Nat) : Int) := by rw [w64 _ (by omega)]; omega
  have e2 : IntKind.i64.wrap (56 - ((8 * i : Nat) : Int)) = ((56 - 8 * i : Nat) : Int) := by rw [w64 _ (by omega)]; omega
  have e3 : evp (.i2i .u64) [.int .i64 (n : Int)] = some (.int .u64 (n : Int)) := by
   show some (V.int .u64 (IntKind.u64.wrap (n : Int))) = _
   rw [Zdi, Xcv (by omega) (by omega)]
  have e5 : evp (.bin .shr .no) [.int .u64 (n : Int), .int .i64 ((56 - 8 * i : Nat) : Int)] = some (.int .u64 ((n / 2 ^ (56 - 8 * i) : Nat) : Int)) := by
   show (if ((56 - 8 * i : Nat) : Int) < 0 then none else some (V.int .u64 ((n : Int).fdiv (2 ^ (min ((56 - 8 * i : Nat) : Int).toNat IntKind.u64.bits))))) = _
   have : min ((56 - 8 * i : Nat) : Int).toNat IntKind.u64.bits = 56 - 8 * i := by show min _ 64 = _; omega
   rw [if_neg (by omega), this, Xdo _ (Int.le_of_lt (Int.pow_pos (by decide)))]
   simp
  have e6 : evp (.i2i .u8) [.int .u64 ((n / 2 ^ (56 - 8 * i) : Nat) : Int)] = some (byteV (UInt8.ofNat (n / 2 ^ (56 - 8 * i)))) := congrArg some (Zda _)
  have hset : ((numB n).take i ++ (List.replicate 8 0).drop i).set i (UInt8.ofNat (n / 2 ^ (56 - 8 * i))) = (numB n).take (i + 1) ++ (List.replicate 8 0).drop (i + 1) := by
   rw [<- Zp6 n (by omega)]; exact fill (by omega) (by simpa using hl)
  have hst := Zhl (k := .i64) (l := (numB n).take i ++ (List.replicate 8 0).drop i) (i := i) (x := UInt8.ofNat (n / 2 ^ (56 - 8 * i))) (by rw [Zgc (by omega) (by simpa using hl)]; omega)
  rw [hset] at hst
  rw [w.zq3_10]; unfold y.zq3_10
  simp only [yy, if_pos (show (i : Int) < 8 by omega), e3, Zk8, e1, e2, e5, e6, Zek (m := 8) (k := .i64) (i := (i : Int)) (by omega) (by omega), hst, Zas (show i < 64 by omega) (by decide)]
  exact v.num10 n hn m (i + 1) (by omega)
theorem v.codeNum (n : Nat) (hn : n <= 1000000000000) : vl e 86 0 [I n] = some (.str (numB n)) := by
 have h := v.num10 (e := e) n hn 8 0 (by omega)
 rw [Xb7, Xa7, Xbh] at h
 rw [w.zq3]; exact h
theorem Z58 (n : Nat) : Zut 8 n [] = numB n := by
 show [_, _, _, _, _, _, _, _] = [_, _, _, _, _, _, _, _]
 simp only [Xee, Nat.reduceMul, Nat.reduceSub, Nat.reducePow]
 congr 1
 ·exact Zbk (by omega)
 congr 1
 ·exact Zbk (by omega)
 congr 1
 ·exact Zbk (by omega)
 congr 1
 ·exact Zbk (by omega)
 congr 1
 ·exact Zbk (by omega)
 congr 1
 ·exact Zbk (by omega)
 congr 1
 ·exact Zbk (by omega)
 congr 1
 ·exact Zbk (by omega)
theorem v.num12 : ∀ (k i m : Nat) (t : Bytes), i + k = 8 -> t.length = i -> m <= 1000000000000 -> vl e 65 12 [.int .u64 (m : Int), .str t, I i] = some (.str (Zut k m t))
 | 0, i, m, t, hi, ht, hm => by
  rw [w.zq42_12]; unfold y.zq42_12
  simp only [yy, if_neg (show ¬((i : Int) < 8) by omega)]; rfl
 | k + 1, i, m, t, hi, ht, hm => by
  have hr : evp (.bin .rem .no) [.int .u64 (m : Int), .int .u64 256] = some (.int .u64 ((m % 256 : Nat) : Int)) := by
   show some (V.int .u64 ((m : Int).tmod (256 : Nat))) = _
   rw [<- Int.ofNat_tmod]
  have hq : evp (.bin .quo .no) [.int .u64 (m : Int), .int .u64 256] = some (.int .u64 ((m / 256 : Nat) : Int)) := by
   show some (V.int .u64 (IntKind.u64.wrap ((m : Int).tdiv (256 : Nat)))) = _
   rw [<- Int.ofNat_tdiv, Zdi]
   have := Xev m 256
   generalize m / 256 = q at *
   rw [Xcv (by omega) (by omega)]
  have hn : evp (.i2i .u8) [.int .u64 ((m % 256 : Nat) : Int)] = some (byteV (UInt8.ofNat (m % 256))) := congrArg some (Zda _)
  have hb : evp .b2s [.sl false 1 [byteV (UInt8.ofNat (m % 256))]] = some (.str [UInt8.ofNat (m % 256)]) := Z1r (l := [UInt8.ofNat (m % 256)])
  have := Xev m 256
  rw [w.zq42_12]; unfold y.zq42_12
  simp only [yy, if_pos (show (i : Int) < 8 by omega), hr, hn, Zl6, hb, Zjt (show ([UInt8.ofNat (m % 256)] : Bytes).length + t.length <= 4611686018427387904 by simp; omega), hq, Zas (show i < 64 by omega) (by decide)]
  exact v.num12 k (i + 1) (m / 256) _ (by omega) (by simp; omega) (by omega)
theorem v.refNum (n : Nat) (hn : n <= 1000000000000) : vl e 65 0 [I n] = some (.str (numB n)) := by
 have e3 : evp (.i2i .u64) [.int .i64 (n : Int)] = some (.int .u64 (n : Int)) := by
  show some (V.int .u64 (IntKind.u64.wrap (n : Int))) = _
  rw [Zdi, Xcv (by omega) (by omega)]
 rw [w.zq42]; unfold y.zq42
 simp only [yy, e3]
 exact (v.num12 8 0 n [] (by omega) rfl hn).trans (by rw [Z58])
def Zaw (l : List Bytes) : Bytes := (l.map fun p => numB p.length ++ p).flatten
def Zbh (l : List Bytes) : Bytes := numB l.length ++ Zaw l
def sumL (l : List Bytes) : Nat := (l.map fun p => 8 + p.length).sum
theorem Zbc (x : Bytes) (r : List Bytes) : sumL (x :: r) = 8 + x.length + sumL r := rfl
theorem Za7 (x : Bytes) (r : List Bytes) : Zaw (x :: r) = numB x.length ++ x ++ Zaw r := rfl
theorem Ze9 : ∀ l : List Bytes, (Zaw l).length = sumL l
 | [] => rfl
 | x :: r => by
  have := Ze9 r
  simp only [Zaw, sumL, Xam, Xcf, Xaq, Xe6, Za4] at this ⊢; omega
theorem Zch (m : List Bytes) : 8 * m.length <= sumL m := by
 induction m with
 | nil => simp [sumL]
 | cons x r ih => simp only [sumL, Xam, Xe6, Xa1] at ih ⊢; omega
theorem Zts {l : Bytes} {s : Bytes} (h : l.length + s.length <= Lim) : evp (.app 1) [bsl l, .str s] = some (bsl (l ++ s)) := by
 show Zwf 1 (bsl l) (.str s) = _
 show (if (l.map byteV).length + (encB s).length <= Lim /\ 1 = 1 then some (V.sl false 1 (l.map byteV ++ encB s)) else none) = _
 rw [if_pos ⟨by simpa [encB] using h, rfl⟩, Zoe, <- Xb1]
theorem v.join31 (l : List Bytes) (hl : sumL l <= 1000000000) : ∀ (n i : Nat) (out : Bytes), i + n = l.length -> out.length + sumL (l.drop i) <= 2000000000 ->
  vl e 64 31 [bsl out, strs l, I l.length, I i] = some (.str (out ++ Zaw (l.drop i)))
 | 0, i, out, hi, ho => by
  rw [w.zq2_31, Xav (by omega)]; unfold y.zq2_31
  simp only [yy, if_neg (show ¬((i : Int) < (l.length : Int)) by omega), Z1r]
  simp [Zaw]
 | n + 1, i, out, hi, ho => by
  have hLim : Lim = 4294967296 := rfl
  have hlt : i < l.length := by omega
  rw [Xa0 hlt] at ho ⊢
  rw [Zbc] at ho
  rw [Za7]
  have hn := Za4 l[i].length
  have hlen := Zch l
  rw [w.zq2_31]; unfold y.zq2_31
  simp only [yy, if_pos (show (i : Int) < (l.length : Int) by omega), Zkm hlt, Zft, v.codeNum l[i].length (by omega), Zts (show out.length + (numB l[i].length).length <= Lim by omega), Zts (show (out ++ numB l[i].length).length + l[i].length <= Lim by simp; omega), Zas hlt (by omega)]
  refine (v.join31 l hl n (i + 1) _ (by omega) (by simp only [Xaq]; omega)).trans ?_
  rw [Xai, Xai, Xai]
theorem Ze7 : ∀ {l : List Bytes} {x : Bytes}, x ∈ l -> 8 + x.length <= sumL l
 | y :: r, x, h => by
  rcases Xay.1 h with rfl | h
  ·simp [sumL]
  ·have := Ze7 h; simp only [sumL, Xam, Xe6] at this ⊢; omega
theorem v.join10 (l : List Bytes) (hl : sumL l <= 1000000000) : ∀ (n i m : Nat), i + n = l.length -> m + sumL (l.drop i) <= 2000000000 ->
  vl e 64 10 [strs l, I m, strs l, I l.length, I i] = some (.str (Zbh l))
 | 0, i, m, hi, hm => by
  have hLim : Lim = 4294967296 := rfl
  have h8 := Zch l
  have hn := Za4 l.length
  have hk : evp (.mks 1) [.int .i64 0, .int .i64 (m : Int)] = some (bsl []) := by
   show (if (0 : Int) = 0 /\ 0 <= (m : Int) /\ (m : Int) <= Lim then some (⟨.sl false 1 [], true, none⟩ : Res) else none).map (·.v) = _
   rw [if_pos ⟨rfl, by omega, by omega⟩]; rfl
  rw [w.zq2_10]; unfold y.zq2_10
  simp only [yy, if_neg (show ¬((i : Int) < (l.length : Int)) by omega), hk, v.codeNum l.length (by omega), Zts (l := []) (s := numB l.length) (by simp; omega)]
  refine (v.join31 l hl l.length 0 _ (by omega) (by rw [Xa7]; simp; omega)).trans ?_
  simp [Zbh]
 | n + 1, i, m, hi, hm => by
  have hlt : i < l.length := by omega
  rw [Xa0 hlt] at hm
  rw [Zbc] at hm
  have h8 := Zch l
  have e1 : IntKind.i64.wrap (8 + (l[i].length : Int)) = ((8 + l[i].length : Nat) : Int) := by rw [w64 _ (by omega)]; omega
  have e2 : IntKind.i64.wrap ((m : Int) + ((8 + l[i].length : Nat) : Int)) = ((m + (8 + l[i].length) : Nat) : Int) := by rw [w64 _ (by omega)]; omega
  rw [w.zq2_10]; unfold y.zq2_10
  simp only [yy, if_pos (show (i : Int) < (l.length : Int) by omega), Zkm hlt, Zft, e1, e2, Zas hlt (by omega)]
  exact v.join10 l hl n (i + 1) _ (by omega) (by omega)
theorem v.codeJoin (l : List Bytes) (hl : sumL l <= 1000000000) : vl e 64 0 [strs l] = some (.str (Zbh l)) := by
 rw [w.zq2]; unfold y.zq2
 simp only [yy]
 exact v.join10 l hl l.length 0 8 (by omega) (by rw [Xa7]; omega)
theorem v.rjoin10 (l : List Bytes) (hl : sumL l <= 1000000000) : ∀ (n i : Nat) (out : Bytes), i + n = l.length -> out.length + sumL (l.drop i) <= 2000000000 ->
  vl e 43 10 [.str out, strs l, I l.length, I i] = some (.str (out ++ Zaw (l.drop i)))
 | 0, i, out, hi, ho => by
  rw [w.zq41_10, Xav (by omega)]; unfold y.zq41_10
  simp only [yy, if_neg (show ¬((i : Int) < (l.length : Int)) by omega)]
  simp [Zaw]
 | n + 1, i, out, hi, ho => by
  have hlt : i < l.length := by omega
  rw [Xa0 hlt] at ho ⊢
  rw [Zbc] at ho
  rw [Za7]
  have hn := Za4 l[i].length
  have h8 := Zch l
  rw [w.zq41_10]; unfold y.zq41_10
  simp only [yy, if_pos (show (i : Int) < (l.length : Int) by omega), Zkm hlt, Zft, v.refNum l[i].length (by omega), Zjt (show out.length + (numB l[i].length).length <= 4611686018427387904 by omega), Zjt (show (out ++ numB l[i].length).length + l[i].length <= 4611686018427387904 by simp; omega), Zas hlt (by omega)]
  refine (v.rjoin10 l hl n (i + 1) _ (by omega) (by simp only [Xaq]; omega)).trans ?_
  rw [Xai, Xai, Xai]
theorem v.refJoin (l : List Bytes) (hl : sumL l <= 1000000000) : vl e 43 0 [strs l] = some (.str (Zbh l)) := by
 have h8 := Zch l
 have hn := Za4 l.length
 rw [w.zq41]; unfold y.zq41
 simp only [yy, v.refNum l.length (by omega)]
 refine (v.rjoin10 l hl l.length 0 _ (by omega) (by rw [Xa7]; omega)).trans ?_
 simp [Zbh]
theorem Zcf (l : List Bytes) : (Zbh l).length = 8 + sumL l := by simp [Zbh, Za4, Ze9]
def Zao (p s : Bytes) : Bytes := Zpn (Zbh [p, s])
theorem Zay (p s : Bytes) : (Zao p s).length = 32 := Zgm _
theorem Zfs {x y : Bytes} : evp (.bsl 1) [.str x, .str y] = some (strs [x, y]) := rfl
theorem Zzs {x y : Bytes} : evp (.app 1) [.sl false 1 [.str x], .sl false 1 [.str y]] = some (strs [x, y]) := by
 have := Zi4 (l := [x]) (x := y) (show 1 + 1 <= Lim by decide)
 exact this
theorem v.shaSum (p s : Bytes) (hp : p.length <= 100) (hs : s.length <= 100000000) : vl e 46 0 [.str p, .sl false 1 [.str s]] = some (bl (Zao p s)) := by
 have hl : sumL [p, s] = 16 + p.length + s.length := by simp [sumL]; omega
 have hj := Zcf [p, s]
 rw [w.zq62]; unfold y.zq62
 simp only [yy, Zge, Zzs, v.codeJoin [p, s] (by omega), v.shaOf (Zbh [p, s]) (by omega), Zbn (Zgm (Zbh [p, s]))]
 rfl
theorem v.refSum (p s : Bytes) (hp : p.length <= 100) (hs : s.length <= 100000000) : vl e 40 0 [.str p, .str s] = some (bl (Zao p s)) := by
 have hl : sumL [p, s] = 16 + p.length + s.length := by simp [sumL]; omega
 have hj := Zcf [p, s]
 have h2 : evp .s2b [.str (Zbh [p, s])] = some (bsl (Zbh [p, s])) := rfl
 rw [w.zq57]; unfold y.zq57
 simp only [yy, Zfs, v.refJoin [p, s] (by omega), h2, v.refOf (Zbh [p, s]) (by omega), Zbn (Zgm (Zbh [p, s]))]
 rfl
theorem Zj6 : ∀ {n : Nat} {x y : Bytes}, x.length = n -> y.length = n -> Zar (List.replicate n (some .u8, true)) (x.map byteV) (y.map byteV) = some (decide (x = y))
 | 0, [], [], _, _ => rfl
 | n + 1, a :: x, b :: y, hx, hy => by
  have ih := Zj6 (n := n) (x := x) (y := y) (by simpa using hx) (by simpa using hy)
  show (kdEq (some .u8, true) (byteV a) (byteV b)).bind (fun c => (Zar (List.replicate n (some .u8, true)) (x.map byteV) (y.map byteV)).map (c && ·)) = _
  rw [ih]
  show some (decide ((a.toNat : Int) = (b.toNat : Int)) && decide (x = y)) = _
  have : ((a.toNat : Int) = (b.toNat : Int)) <-> a = b := ⟨fun h => Xew.1 (by omega), fun h => by rw [h]⟩
  by_cases h1 : a = b
  ·subst h1; simp
  ·rw [decide_eq_false (fun h => h1 (this.1 h))]; simp [h1]
theorem Zs8 {x y : Bytes} (hx : x.length = 32) (hy : y.length = 32) : evp (.bin .eql (.flat [(some .u8, true), (some .u8, true), (some .u8, true), (some .u8, true), (some .u8, true), (some .u8, true), (some .u8, true), (some .u8, true), (some .u8, true), (some .u8, true), (some .u8, true), (some .u8, true), (some .u8, true), (some .u8, true), (some .u8, true), (some .u8, true), (some .u8, true), (some .u8, true), (some .u8, true), (some .u8, true), (some .u8, true), (some .u8, true), (some .u8, true), (some .u8, true), (some .u8, true), (some .u8, true), (some .u8, true), (some .u8, true), (some .u8, true), (some .u8, true), (some .u8, true), (some .u8, true)])) [bl x, bl y] = some (.bool (decide (x = y))) := by
 show (Zar (List.replicate 32 (some .u8, true)) (x.map byteV) (y.map byteV)).map V.bool = _
 rw [Zj6 hx hy]; rfl
end Go.Proofs.YtpmgdngjbdkdfaaGreatDoor
namespace Go.Proofs.YtpmgdngjbdkdfaaGreatDoor
open Go.Abs
set_option maxRecDepth 10000
variable {e : Ev}
abbrev MB := List (Bytes × Bytes)
def mkP (p : Bytes × Bytes) : V × V := (bl p.1, .str p.2)
abbrev mv (M : MB) : V := mpV (M.map mkP)
abbrev qK : KK := (true, repl 32 (some .u8, true))
def putM : MB -> Bytes -> Bytes -> MB
 | [], k, x => [(k, x)]
 | p :: r, k, x => if k = p.1 then (k, x) :: r else p :: putM r k x
def getM : MB -> Bytes -> Option Bytes
 | [], _ => none
 | p :: r, k => if k = p.1 then some p.2 else getM r k
def keyL (M : MB) : Prop := ∀ p ∈ M, p.1.length = 32
theorem Znp (l : List (V × V)) : unMp (mpV l) = some l := by
 show unM (l.map fun p => .tup [p.1, p.2]) = some l
 induction l with
 | nil => rfl
 | cons p r ih => simp only [Xam, unM, ih]; rfl
theorem Zg9 {x z : Bytes} (hx : x.length = 32) (hz : z.length = 32) : Zdm qK (bl x) (bl z) = some (decide (x = z)) := Zj6 (n := 32) hx hz
theorem Zum {k x : Bytes} (hk : k.length = 32) : ∀ {M : MB}, keyL M -> mPut qK (bl k) (.str x) (M.map mkP) = some ((putM M k x).map mkP)
 | [], _ => rfl
 | p :: r, h => by
  have ih := Zum (x := x) hk (M := r) fun q hq => h q (by simp [hq])
  simp only [Xam, mPut, putM, mkP] at ih ⊢
  rw [Zg9 hk (h p (by simp)), Xah]
  by_cases he : k = p.1
  ·rw [if_pos (decide_eq_true he), if_pos he]; rfl
  ·rw [if_neg (by simpa using he), if_neg he, ih]; rfl
theorem Zp1 {k : Bytes} (hk : k.length = 32) : ∀ {M : MB}, keyL M -> Zem qK (bl k) (M.map mkP) = some ((getM M k).map V.str)
 | [], _ => rfl
 | p :: r, h => by
  have ih := Zp1 hk (M := r) fun q hq => h q (by simp [hq])
  simp only [Xam, Zem, getM, mkP] at ih ⊢
  rw [Zg9 hk (h p (by simp)), Xah]
  by_cases he : k = p.1
  ·rw [if_pos (decide_eq_true he), if_pos he]; rfl
  ·rw [if_neg (by simpa using he), if_neg he, ih]
theorem Z35 {M : MB} {k x : Bytes} (hM : keyL M) (hk : k.length = 32) : evp (.mup qK) [mv M, bl k, .str x] = some (mv (putM M k x)) := by
 show Zvo qK (mv M) (bl k) (.str x) = _
 simp only [Zvo, Znp, Xah]
 rw [Zg9 hk hk, if_pos (by simp), Zum hk hM]; rfl
theorem Z4e {M : MB} {k : Bytes} (hM : keyL M) (hk : k.length = 32) : evp (.mlk qK (.str []) true) [mv M, bl k] = some (.tup [.str ((getM M k).getD []), .bool (getM M k).isSome]) := by
 show Zwe qK (.str []) true (mv M) (bl k) = _
 simp only [Zwe, Znp, Xah]
 rw [Zg9 hk hk, if_pos (by simp), Zp1 hk hM]
 cases getM M k <;> rfl
theorem Z7c {M : MB} : evp .mln [mv M] = some (I M.length) := by
 show Zwh (mv M) = _
 simp only [Zwh, Znp, Xar, Xb4]
abbrev z32 : V := .agg (repl 32 (.int .u8 0))
def Zb2 : Bytes := [98, 108, 111, 98]
def treeK : Bytes := [116, 114, 101, 101]
theorem v.PutBlob (d : Bytes) (hd : d.length <= 32768) (M1 : MB) (hM : keyL M1) (m2 m3 : V) : vl e 10224 1 [.str d, mv M1, m2, m3] = some (.tup [bl (Zao Zb2 d), I 0, mv (putM M1 (Zao Zb2 d) d), m2, m3]) := by
 have h1 : vl e 22 0 [.str d] = some (bl (Zao Zb2 d)) := by
  rw [w.zq10]; unfold y.zq10
  have := v.shaSum (e := e) Zb2 d (by decide) (by omega)
  simp only [yy, Zge]
  rw [show V.str [98, 108, 111, 98] = .str Zb2 from rfl, this]
  simp only [Xah, Zbn (Zay _ _)]
 rw [w.zq33_h0]; unfold y.zq33_h0
 simp only [yy, if_neg (show ¬(32768 : Int) < (d.length : Int) by omega), h1, Zbn (Zay _ _), Z35 hM (Zay _ _)]
structure En where
 nm : Bytes
 tr : Bool
 id : Bytes
def ev (x : En) : V := .agg (.str x.nm :: .bool x.tr :: x.id.map byteV)
abbrev entV (l : List En) : V := .sl false 34 (l.map ev)
theorem Zet {l : List En} {i : Nat} (h : i < l.length) : evp (.elem 34) [entV l, I i] = some (ev l[i]) := Zfu (by simp [h])
theorem Zg0 {l : List En} : evp (.len false) [entV l] = some (I l.length) := by rw [entV, Zqc, Xb4]
theorem Zj4 (x : En) : (ev x).cells = .str x.nm :: .bool x.tr :: x.id.map byteV := rfl
theorem Zji {x : En} (h : x.id.length = 32) : (ev x).cells.length = 34 := by rw [Zj4]; simp [h]
theorem Z2g (x : En) : (ev x).cells.all V.sc = true := by
 rw [Zj4, Xcc, Xcc, Xal.2]
 ·rfl
 ·intro c hc; obtain ⟨b, _, rfl⟩ := Xa3.1 hc; rfl
theorem Zjy {x : En} (h : x.id.length = 32) : evp (.ld (some 34) 0) [ev x] = some (ev x) := by
 show Zaf (some 34) (ev x).cells 0 = _
 simp only [Zaf]
 rw [if_pos (by rw [Zji h]; omega), Xa7, Xao (by rw [Zji h]; omega)]; rfl
theorem Zga {x : En} (h : x.id.length = 32) : evp (.cat [some 34]) [ev x] = some (ev x) := by
 show (catV [some 34] [ev x]).map V.agg = _
 simp only [catV]
 rw [if_pos ⟨Zji h, Z2g x⟩]
 simp only [Xar, Xau]; rfl
theorem Zgb {x : En} : evp (.ld none 0) [ev x] = some (.str x.nm) := rfl
theorem Ziy {x : En} : evp (.ld none 1) [ev x] = some (.bool x.tr) := rfl
theorem Zvn {x : En} (h : x.id.length = 32) : evp (.b2so 2 32) [ev x] = some (.str x.id) := by
 show Zvw 2 32 (ev x) = _
 unfold Zvw
 rw [if_pos (by rw [Zji h]; omega), Zj4]
 show (Zbq ((x.id.map byteV).take 32)).map V.str = _
 rw [Xao (by simp [h]), Zdk]; rfl
structure EnOK (l : List En) : Prop where
 nm : ∀ x ∈ l, Zex x.nm = true /\ x.nm.length <= 128
 id : ∀ x ∈ l, x.id.length = 32
 up : l.Pairwise fun a b => Op.bytesLess a.nm b.nm = true
 len : l.length <= 512
theorem Zlw {s : Bytes} (h : Zex s = true) (hl : s.length <= 128) : Zno s = true := by
 unfold Zno
 rw [Zep (Zm6 h)]
 simp [hl, h]
theorem v.last (s : Bytes) (c : UInt8) (hs : s.length <= 1000000000) (hc : c ∉ s) : vl e 103 0 [.str s, byteV c] = some (I (-1)) := by
 have key : ∀ (n : Nat), n <= s.length -> vl e 116 8 [.str s, byteV c, I ((n : Int) - 1)] = some (I (-1)) := by
  intro n
  induction n with
  | zero =>
   intro _
   rw [w.zq6_8]; unfold y.zq6_8
   simp only [yy, if_neg (show ¬((0 : Int) <= ((0 : Nat) : Int) - 1) by omega)]
  | succ n ih =>
   intro hn
   have hlt : n < s.length := by omega
   have hne : ¬((s[n].toNat : Int) = (c.toNat : Int)) := fun h => hc (by rw [<- Zoa.1 h]; exact Xba hlt)
   have e0 : ((n + 1 : Nat) : Int) - 1 = (n : Int) := by omega
   have := ih (by omega)
   rw [w.zq6_8]; unfold y.zq6_8
   rw [e0]
   have e1 : IntKind.i64.wrap ((n : Int) - 1) = (n : Int) - 1 := w64 _ (by omega)
   simp only [yy, if_pos (show (0 : Int) <= (n : Int) by omega), Ziv (Xad hlt), byteV, if_neg hne, e1]
   exact this
 rw [w.zq79]; unfold y.zq79
 have h1 : vl e 116 0 [.str s, byteV c] = some (I (-1)) := by
  rw [w.zq6]; unfold y.zq6
  have e1 : IntKind.i64.wrap ((s.length : Int) - 1) = (s.length : Int) - 1 := w64 _ (by omega)
  simp only [yy, e1]
  exact key s.length (Xaj _)
 simp only [yy, h1]
theorem v.Dir1 (s : Bytes) (hs : s.length <= 1000000000) (hc : (47 : UInt8) ∉ s) : vl e 85 0 [.str s] = some (.str []) := by
 rw [w.zq17]; unfold y.zq17
 have h1 := v.last (e := e) s 47 hs hc
 have h2 : evp (.mnx true) [.int .i64 (-1), .int .i64 0] = some (.int .i64 0) := rfl
 have h3 : evp (.sls false true) [.str s, .int .i64 0] = some (.str []) := Z34 (h := 0) (Xc8 _)
 rw [show V.int .u8 47 = byteV 47 from rfl]
 simp only [yy, h1, h2, h3]
theorem v.GoodTree8 (he : EnvT e) (l : List En) (h : EnOK l) : ∀ (n i : Nat), i + n = l.length -> vl e 63 8 [entV l, entV l, I l.length, I i] = some (.bool true) := by
 intro n
 induction n with
 | zero =>
  intro i hi
  have hlen := h.len
  rw [w.zq12_8]; unfold y.zq12_8
  simp only [yy, if_neg (show ¬((i : Int) < (l.length : Int)) by omega), Zg0]
  rw [decide_eq_true (show (l.length : Int) <= 512 by omega)]
 | succ n ih =>
  intro i hi
  have hlen := h.len
  have hlt : i < l.length := by omega
  have hid := h.id _ (Xba hlt)
  obtain ⟨hp, hpl⟩ := h.nm _ (Xba hlt)
  have hg := v.Good he l[i].nm (by omega)
  rw [Zlw hp hpl] at hg
  have hd := v.Dir1 (e := e) l[i].nm (by omega) (Zm6 hp)
  have hn : (!decide (([] : Bytes) = [])) = false := rfl
  have := ih (i + 1) (by omega)
  rw [w.zq12_8]; unfold y.zq12_8
  by_cases h0 : 0 < i
  ·have hlt' : i - 1 < l.length := by omega
   have hup : Op.bytesLess l[i - 1].nm l[i].nm = true := Xc9.1 h.up (i - 1) i hlt' hlt (by omega)
   have hge : evp (.bin .geq .no) [.str l[i - 1].nm, .str l[i].nm] = some (.bool false) := by
    show some (V.bool (!Op.bytesLess l[i - 1].nm l[i].nm)) = _
    rw [hup]; rfl
   simp only [yy, if_pos (show (i : Int) < (l.length : Int) by omega), Zet hlt, Zjy hid, Zga hid, Zgb, hg, hd, if_pos (show (0 : Int) < (i : Int) by omega), Zs9 (show 1 <= i by omega) (by omega), Zet hlt', hge, Zas hlt (by omega)]
   simpa using this
  ·simp only [yy, if_pos (show (i : Int) < (l.length : Int) by omega), Zet hlt, Zjy hid, Zga hid, Zgb, hg, hd, if_neg (show ¬(0 : Int) < (i : Int) by omega), Zas hlt (by omega)]
   simpa using this
theorem v.GoodTree (he : EnvT e) (l : List En) (h : EnOK l) : vl e 63 0 [entV l] = some (.bool true) := by
 rw [w.zq12]; unfold y.zq12
 simp only [yy, Zg0]
 exact v.GoodTree8 he l h l.length 0 (Xan _)
def enP (x : En) : List Bytes := [if x.tr then treeK else Zb2, x.nm, x.id]
def Zat (l : List En) : List Bytes := l.flatMap enP
theorem Zbr (l : List En) : (Zat l).length = 3 * l.length := by
 unfold Zat
 induction l with
 | nil => rfl
 | cons x r ih => rw [Xbd, Xaq, ih]; simp only [enP, Xa1, Xbb]; omega
theorem Zh4 (a b : List Bytes) : sumL (a ++ b) = sumL a + sumL b := by simp [sumL]
theorem Zcu {l : List En} (h1 : ∀ x ∈ l, x.nm.length <= 128) (h2 : ∀ x ∈ l, x.id.length = 32) : sumL (Zat l) <= 188 * l.length := by
 unfold Zat
 induction l with
 | nil => exact Xc8 _
 | cons x r ih =>
  have := ih (fun a ha => h1 a (by simp [ha])) (fun a ha => h2 a (by simp [ha]))
  have a1 := h1 x (by simp)
  have a2 := h2 x (by simp)
  rw [Xbd, Zh4, enP, Zbc, Zbc, Zbc, a2]
  have : (if x.tr = true then treeK else Zb2).length = 4 := by cases x.tr <;> rfl
  rw [this]
  simp only [Xa1, show sumL [] = 0 from rfl]
  omega
theorem Zss {a : List Bytes} {x u t : Bytes} (h : a.length + 3 <= Lim) : evp (.app 1) [strs a, .sl false 1 [.str x, .str u, .str t]] = some (strs (a ++ [x, u, t])) := by
 rw [strs, Zk2 (by simpa using h)]; simp
theorem v.PutTree18 (l : List En) (h : EnOK l) : ∀ (n i : Nat) , i + n = l.length -> vl e 41 18 [strs (Zat (l.take i)), entV l, I l.length, I i] = some (.tup [.str (Zbh (Zat l)), I 0]) := by
 intro n
 induction n with
 | zero =>
  intro i hi
  have hlen := h.len
  have hs := Zcu (fun x hx => (h.nm x hx).2) h.id
  have hj := v.codeJoin (e := e) (Zat l) (by omega)
  rw [w.zq13_18]; unfold y.zq13_18
  rw [Xao (show l.length <= i by omega)]
  simp only [yy, if_neg (show ¬((i : Int) < (l.length : Int)) by omega), hj]
 | succ n ih =>
  intro i hi
  have hlen := h.len
  have hlt : i < l.length := by omega
  have hid := h.id _ (Xba hlt)
  have hal : (Zat (l.take i)).length + 3 <= Lim := by rw [Zbr, Xbs]; unfold Lim; omega
  have hto : Zat (l.take (i + 1)) = Zat (l.take i) ++ enP l[i] := by
   rw [Xec hlt, Zat, List.flatMap_append]; simp [Zat]
  have := ih (i + 1) (by omega)
  rw [hto] at this
  have hb3 : ∀ a b c : Bytes, evp (.bsl 1) [.str a, .str b, .str c] = some (.sl false 1 [.str a, .str b, .str c]) := fun _ _ _ => rfl
  rw [w.zq13_18]; unfold y.zq13_18
  cases ht : l[i].tr with
  | false =>
   rw [enP, ht] at this
   simp only [yy, if_pos (show (i : Int) < (l.length : Int) by omega), Zet hlt, Zjy hid, Zga hid, Ziy, ht, Zgb, Zvn hid, hb3, Zss hal, Zas hlt (by omega)]
   exact this
  | true =>
   rw [enP, ht] at this
   simp only [yy, if_pos (show (i : Int) < (l.length : Int) by omega), Zet hlt, Zjy hid, Zga hid, Ziy, ht, Zgb, Zvn hid, hb3, Zss hal, Zas hlt (by omega)]
   exact this
def Zah (l : List En) : Bytes := Zbh (Zat l)
theorem v.PutTree (he : EnvT e) (l : List En) (h : EnOK l) (m1 m3 : V) (M2 : MB) (hM : keyL M2) : vl e 10256 1 [entV l, m1, mv M2, m3] = some (.tup [bl (Zao treeK (Zah l)), I 0, m1, mv (putM M2 (Zao treeK (Zah l)) (Zah l)), m3]) := by
 have hlen := h.len
 have hs := Zcu (fun x hx => (h.nm x hx).2) h.id
 have h1 : vl e 41 0 [entV l] = some (.tup [.str (Zah l), I 0]) := by
  rw [w.zq13]; unfold y.zq13
  have := v.PutTree18 (e := e) l h l.length 0 (Xan _)
  simp only [yy, v.GoodTree he l h, Zg0]
  exact this
 have h2 : vl e 42 0 [.str (Zah l)] = some (bl (Zao treeK (Zah l))) := by
  rw [w.zq14]; unfold y.zq14
  have := v.shaSum (e := e) treeK (Zah l) (by decide) (by unfold Zah; rw [Zcf]; omega)
  simp only [yy, Zge]
  rw [show V.str [116, 114, 101, 101] = .str treeK from rfl, this]
  simp only [Xah, Zbn (Zay _ _)]
 rw [w.zq34_h0]; unfold y.zq34_h0
 simp only [yy, h1, h2, Zbn (Zay _ _), Z35 hM (Zay _ _)]
 simp
end Go.Proofs.YtpmgdngjbdkdfaaGreatDoor
namespace Go.Proofs.YtpmgdngjbdkdfaaGreatDoor
open Go.Abs
set_option maxRecDepth 10000
variable {e : Ev}
abbrev aggS (l : List Bytes) : V := .agg (l.map .str)
theorem Zwy {l : List Bytes} {i : Nat} (h : i < l.length) : evp (.ldd none 0 1) [aggS l, I i] = some (.str l[i]) := by
 show (l.map V.str)[0 + (i : Int).toNat * 1]? = _
 simp [h]
theorem Z1d {l : List Bytes} {i : Nat} {x : Bytes} (h : i < l.length) : evp (.std 1 0 1) [aggS l, I i, .str x] = some (aggS (l.set i x)) := by
 show vSet 1 (0 + (i : Int).toNat * 1) (aggS l) (.str x) = _
 unfold vSet
 rw [if_pos (by simp [V.cells, V.sc]; omega)]
 simp only [V.cells, Xan, Xbq, Xb9, Zaq, Xcm]
 rw [Xci, if_pos h]
 simp
theorem Z0m {l : List Bytes} {i : Nat} (h : i < l.length) : evp (.clrx (.str [])) [aggS l, I l.length, I i] = some (aggS (l.take i ++ List.replicate (l.length - i) [])) := by
 show (if 0 <= (i : Int) /\ (i : Int) < (l.length : Int) /\ (l.length : Int).toNat <= (aggS l).cells.length then some (V.agg (Zaq (aggS l).cells (i : Int).toNat (List.replicate ((l.length : Int).toNat - (i : Int).toNat) (V.str [])))) else none) = _
 rw [if_pos ⟨by omega, by omega, by simp [V.cells]⟩]
 simp only [V.cells, Xbq, Zaq, List.length_replicate]
 rw [Xav (by simp; omega)]
 simp
theorem Zpt {l : List Bytes} {i : Nat} (h : i <= l.length) : evp .snapx [aggS l, I i] = some (strs (l.take i)) := by
 show (if 0 <= (i : Int) /\ (i : Int).toNat <= (aggS l).cells.length then some (V.sl false 1 ((aggS l).cells.take (i : Int).toNat)) else none) = _
 rw [if_pos ⟨by omega, by simp [V.cells]; omega⟩]
 simp [V.cells]
theorem v.CloneS (l : List Bytes) (hl : l.length <= 1000000) : vl e 11280 1 [strs l] = some (.tup [I l.length, aggS l]) := by
 rw [w.zq65_h0]; unfold y.zq65_h0
 have h1 : evp (.rapp 1) [.agg [], I (0 : Nat), strs l] = some (aggS l) := by
  show Zqj 1 (.agg []) (I (0 : Nat)) (strs l) = _
  have hf : fits 1 (l.map V.str) = true := by simp [fits, V.cells, V.sc]
  simp only [Zqj, Zbv, Xah, Zit, hf, if_true, true_or]
  rw [if_pos ⟨by omega, by omega, by simp, by simp [Lim]; omega⟩]
  have hfl : ∀ l : List Bytes, (l.map V.str).flatMap V.cells = l.map V.str := fun l => by
   induction l with
   | nil => rfl
   | cons x r ih => simp only [Xam, Xbd, ih]; rfl
  simp only [V.cells, Xbq, Xfc, Xb7, Xbh, hfl]
 have h2 : evp (.rlen 1) [I (0 : Nat), strs l] = some (I l.length) := by
  show Znq 1 (I (0 : Nat)) (strs l) = _
  simp [Znq, Zbv]
 have h1' : evp (.rapp 1) [.agg [], .int .i64 0, strs l] = some (aggS l) := h1
 have h2' : evp (.rlen 1) [.int .i64 0, strs l] = some (I l.length) := h2
 simp only [yy, h1', h2']
 cases l with
 | nil =>
  have : vamb (V.sl false 1 []) (some (V.tup [.int .i64 0, .agg []])) (some (V.tup [.int .i64 0, .agg []])) = some (V.tup [.int .i64 0, .agg []]) := by
   unfold vamb
   exact if_pos rfl
  exact this
 | cons x r => rfl
end Go.Proofs.YtpmgdngjbdkdfaaGreatDoor
namespace Go.Proofs.YtpmgdngjbdkdfaaGreatDoor
open Go.Abs
set_option maxRecDepth 10000
variable {e : Ev}
theorem v.isE (x : Bytes) : Zej (vl e) (.fn 81 []) [.str x] = some (.bool (decide (x = []))) := by
 show vl e 81 0 ([.str x] ++ []) = _
 rw [Xau, w.zq21]; unfold y.zq21
 simp only [yy, ]
theorem v.Join2 (he : EnvT e) (d n : Bytes) (hn : n ≠ []) (hd : d.length <= 1000000) (hn2 : n.length <= 1000000) : vl e 61 0 [strs [d, n]] = some (.str (if d = [] then n else d ++ 47 :: n)) := by
 have hcl := v.CloneS (e := e) [d, n] (by simp)
 simp only [Xa1, Xbb, Xan] at hcl
 have c0 : evp .chkd [I (2 : Nat), I (0 : Nat)] = some (I (0 : Nat)) := Zkq (by omega)
 have c1 : evp .chkd [I (2 : Nat), I (1 : Nat)] = some (I (1 : Nat)) := Zkq (by omega)
 have l0 : evp (.ldd none 0 1) [aggS [d, n], I (0 : Nat)] = some (.str d) := Zwy (l := [d, n]) (i := 0) (by simp)
 have l1 : evp (.ldd none 0 1) [aggS [d, n], I (1 : Nat)] = some (.str n) := Zwy (l := [d, n]) (i := 1) (by simp)
 rw [w.zq20]; unfold y.zq20
 by_cases h : d = []
 ·subst h
  rw [if_pos rfl]
  -- the first is found
  have hi : vl e 11200 1 [I (2 : Nat), .fn 81 [], aggS [[], n]] = some (.tup [I (0 : Nat), aggS [[], n]]) := by
   rw [w.zq69_h0]; unfold y.zq69_h0
   rw [w.zq69_h0_8]; unfold y.zq69_h0_8
   have hp := v.isE (e := e) []
   simp only [yy, if_pos (show (0 : Int) < ((2 : Nat) : Int) by omega)]
   rw [show (V.int .i64 0) = I (0 : Nat) from rfl, c0, Xah, l0, Xah, cv, hp]
   rfl
  have hdel : vl e 11264 1 [I (2 : Nat), .fn 81 [], aggS [[], n]] = some (.tup [I (1 : Nat), aggS [n, []]]) := by
   rw [w.zq68_h0]; unfold y.zq68_h0
   simp only [yy, hi, if_neg (show ¬((0 : Nat) : Int) = -1 by omega), Zas (show 0 < 1 by omega) (by omega)]
   have hp := v.isE (e := e) n
   rw [decide_eq_false hn] at hp
   have hst : evp (.std 1 0 1) [aggS [[], n], I (0 : Nat), .str n] = some (aggS [n, n]) := Z1d (l := [[], n]) (i := 0) (by simp)
   have hcx : evp (.clrx (.str [])) [aggS [n, n], I (2 : Nat), I (1 : Nat)] = some (aggS [n, []]) := Z0m (l := [n, n]) (i := 1) (by simp)
   have hck : evp .chkl [I (2 : Nat), I (1 : Nat)] = some (I (1 : Nat)) := Zz9 (by omega)
   rw [w.zq68_h0_18]; unfold y.zq68_h0_18
   simp only [yy, if_pos (show ((1 : Nat) : Int) < ((2 : Nat) : Int) by omega), c1, l1, cv, hp, c0, hst, Zas (show 0 < 1 by omega) (by omega), Zas (show 1 < 2 by omega) (by omega)]
   rw [w.zq68_h0_18]; unfold y.zq68_h0_18
   simp only [yy, if_neg (show ¬((2 : Nat) : Int) < ((2 : Nat) : Int) by omega), c1, hcx, hck]
  have hsn : evp .snapx [aggS [n, []], I (1 : Nat)] = some (strs [n]) := Zpt (l := [n, []]) (i := 1) (by simp)
  have hj := v.join he [n] [47] (by simp) (by simp [Zgj]; omega)
  have hfl : evp .flr [.str n] = some (.str n) := rfl
  simp only [yy, hcl, hdel, hsn, hj]
  simp only [Zgj, hfl, Xah]
 ·rw [if_neg h]
  have hi : vl e 11200 1 [I (2 : Nat), .fn 81 [], aggS [d, n]] = some (.tup [I (-1), aggS [d, n]]) := by
   have hp := v.isE (e := e) d
   have hq := v.isE (e := e) n
   rw [decide_eq_false h] at hp
   rw [decide_eq_false hn] at hq
   rw [w.zq69_h0]; unfold y.zq69_h0
   rw [w.zq69_h0_8]; unfold y.zq69_h0_8
   rw [show (V.int .i64 0) = I (0 : Nat) from rfl]
   simp only [yy, if_pos (show ((0 : Nat) : Int) < ((2 : Nat) : Int) by omega), c0, l0, cv, hp, Zas (show 0 < 1 by omega) (by omega)]
   rw [w.zq69_h0_8]; unfold y.zq69_h0_8
   simp only [yy, if_pos (show ((0 + 1 : Nat) : Int) < ((2 : Nat) : Int) by omega), c1, l1, cv, hq, Zas (show 1 < 2 by omega) (by omega)]
   rw [w.zq69_h0_8]; unfold y.zq69_h0_8
   simp only [yy, if_neg (show ¬((0 + 1 + 1 : Nat) : Int) < ((2 : Nat) : Int) by omega)]
  have hdel : vl e 11264 1 [I (2 : Nat), .fn 81 [], aggS [d, n]] = some (.tup [I (2 : Nat), aggS [d, n]]) := by
   rw [w.zq68_h0]; unfold y.zq68_h0
   simp only [yy, hi]
   simp
  have hsn : evp .snapx [aggS [d, n], I (2 : Nat)] = some (strs [d, n]) := Zpt (l := [d, n]) (i := 2) (by simp)
  have hj := v.join he [d, n] [47] (by simp) (by simp [Zgj]; omega)
  have hfl : ∀ x : Bytes, evp .flr [.str x] = some (.str x) := fun _ => rfl
  simp only [yy, hcl, hdel, hsn, hj]
  simp only [hfl, Xah]
  simp [Zgj]
end Go.Proofs.YtpmgdngjbdkdfaaGreatDoor
namespace Go.Proofs.YtpmgdngjbdkdfaaGreatDoor
open Go.Abs
set_option maxRecDepth 10000
variable {e : Ev}
def pS (S : List Fi) (i : Nat) : List Bytes := Zal 47 (S.getD i ([], [])).1
structure SoOK (S : List Fi) : Prop where
 good : ∀ f ∈ S, Zno f.1 = true
 data : ∀ f ∈ S, f.2.length <= 32768
 len : S.length <= 512
 up : ∀ i j, i < j -> j < S.length -> cmpL (pS S i) (pS S j) < 0
 free : ∀ i j, i < S.length -> j < S.length -> i ≠ j -> ∀ R, pS S i ≠ pS S j ++ R
inductive Tr (S : List Fi) : List Bytes -> Nat -> Nat -> List En -> Bytes -> MB -> MB -> Prop
 | done {D : List Bytes} {a : Nat} {ls : List En} (hok : EnOK ls) : Tr S D a a ls (Zao treeK (Zah ls)) [] [(Zao treeK (Zah ls), Zah ls)]
 | blob {D : List Bytes} {a b : Nat} {ls : List En} {x id : Bytes} {p1 p2 : MB} (hab : a < b) (hx : pS S a = D ++ [x]) (h : Tr S D (a + 1) b (ls ++ [⟨x, false, Zao Zb2 (S.getD a ([], [])).2⟩]) id p1 p2) :
   Tr S D a b ls id ((Zao Zb2 (S.getD a ([], [])).2, (S.getD a ([], [])).2) :: p1) p2
 | dir {D : List Bytes} {a b k : Nat} {ls : List En} {x id id1 : Bytes} {p1 p2 q1 q2 : MB} (hk : 0 < k) (hkb : a + k <= b) (hrun : ∀ i, a <= i -> i < a + k -> ∃ R, R ≠ [] /\ pS S i = D ++ x :: R) (hstop : a + k < b -> ¬ ∃ R, R ≠ [] /\ pS S (a + k) = D ++ x :: R)
   (h1 : Tr S (D ++ [x]) a (a + k) [] id1 p1 p2) (h2 : Tr S D (a + k) b (ls ++ [⟨x, true, id1⟩]) id q1 q2) : Tr S D a b ls id (p1 ++ q1) (p2 ++ q2)
theorem Zo8 (id : Bytes) : (id.map byteV).all V.sc = true := by
 rw [Xal]; intro c hc; obtain ⟨b, _, rfl⟩ := Xa3.1 hc; rfl
theorem Z0c {id : Bytes} (h : id.length = 32) : (bl id).cells.length = 32 /\ (bl id).cells.all V.sc = true := ⟨by simp [V.cells, h], Zo8 id⟩
theorem Zlj {nm id : Bytes} {t : Bool} (h : id.length = 32) : evp (.cat [none, none, some 32]) [.str nm, .bool t, bl id] = some (ev ⟨nm, t, id⟩) := by
 show (catV [none, none, some 32] [.str nm, .bool t, bl id]).map V.agg = _
 simp only [catV]
 rw [if_pos (show (V.str nm).sc = true from rfl), if_pos (show (V.bool t).sc = true from rfl), if_pos (Z0c h)]
 simp only [Xar, Xau]; rfl
theorem Zxt {nm id : Bytes} (h : id.length = 32) : evp (.cat [none, some 32]) [.str nm, bl id] = some (.agg (.str nm :: id.map byteV)) := by
 show (catV [none, some 32] [.str nm, bl id]).map V.agg = _
 simp only [catV]
 rw [if_pos (show (V.str nm).sc = true from rfl), if_pos (Z0c h)]
 simp only [Xar, Xau]; rfl
theorem Zk1 {x : En} (h : x.id.length = 32) : evp (.bsl 34) [ev x] = some (.sl false 34 [ev x]) := by
 have : fits 34 [ev x] = true := by simp [fits, Zji h]; exact Xal.1 (Z2g x)
 show (if fits 34 [ev x] then some (V.sl false 34 [ev x]) else none) = _
 rw [this]; rfl
theorem Zrp {l : List En} {x : En} (h : l.length + 1 <= Lim) : evp (.app 34) [entV l, .sl false 34 [ev x]] = some (entV (l ++ [x])) := by
 rw [entV, Zk2 (by simpa using h)]; simp
section
variable (he : EnvT e) (S : List Fi) (hS : SoOK S)
include he hS
end
end Go.Proofs.YtpmgdngjbdkdfaaGreatDoor
namespace Go.Proofs.YtpmgdngjbdkdfaaGreatDoor
open Go.Abs
set_option maxRecDepth 10000
variable {e : Ev}
section
variable (he : EnvT e) (S : List Fi) (hl : S.length <= 1000000) (hb : ∀ f ∈ S, f.1.length <= 1000000 /\ f.2.length <= 1000000000) (m1 m2 m3 z : V)
include hl
include he hb
end
end Go.Proofs.YtpmgdngjbdkdfaaGreatDoor
