/-
  Parts of the proof, one behind the other. Own work of this seat; some printed by its programs.
-/
import Derived.Test.YtghjeddphkmciaaDoorM1
import Derived.Test.YtghjeddphkmciaaDoorProg
import Derived.Shelf.Strings.Builder1
import Derived.Shelf.Strings.Builder2
import Derived.Shelf.Strings.OnBuilder
import Derived.Shelf.Small.Wraps
import Derived.Shelf.Strings.BuilderF
import Derived.Shelf.Strings.BuilderK
import Derived.Shelf.Strings.Search1
import Derived.Shelf.Strings.Search2
import Derived.Shelf.Strings.Search3
import Derived.Shelf.Strings.Count
import Derived.Shelf.LaysM
import Derived.Shelf.Strings.Shaped
import Derived.Shelf.Strings.LastIndex
import Derived.Shelf.Strings.Prefix
import Derived.Shelf.Strings.Split
import Derived.Shelf.Strings.SplitShaped
import Derived.Shelf.Unicode.Decode
import Derived.Shelf.Strings.RuneCount
import Derived.Shelf.Strings.Explode
import Derived.Shelf.Unicode.DecodeSlow
import Derived.Shelf.Unicode.DecodeAny
import Derived.Shelf.Strings.FieldsFuncAny
import Derived.Shelf.Strings.FieldsFuncGrows
import Derived.Ground.SlgfProg
import Derived.Shelf.SlicesE.IndexFunc
import Derived.WalkKit
import Derived.Lib.OwnBridge
import Derived.Lib.FieldsP
import Derived.Lib.TrimUEq
import Derived.Test.YtghjeddphkmciaaDoorM3
/-
  Ext, part 2: the world of a call; the words for one seat. Own work of this seat.
-/
namespace Go.Proofs.YtghjeddphkmciaaDoor
open Go.Abs Go.RowKit

noncomputable def cxD (w : World) : Cx := ⟨Tryd.prog, w, fun _ => none⟩
theorem mixed : Tryd.prog.follows .mixedOrders = true := by kernel_rfl
theorem glD (w : World) : GlOK (cxD w) := fun g cs h => by cases h
def HasMax (w : World) : Prop := ∃ m, w.cell? ⟨1, 0, none⟩ = some (.int .i64 m)
structure EnvOK (w : World) : Prop where
  max : HasMax w
end Go.Proofs.YtghjeddphkmciaaDoor
/-
  DERIVED: THE SHELF's CONTRACTS AT THIS DUMP, IN PLAIN WORDS (tools/lay-plain.mjs out of 'TrydShelf.lean', which tools/lay-shelf.mjs wrote): THE SAME DECLARATIONS UNDER THE SAME NAMES: 'import', 'namespace', 'open', 'def', 'theorem' AND NOTHING ELSE: no command of the shelf's: FOR A HAND-IN. Each laying: the table of numbers ('.._ren') and one theorem, a field a fact of the dump's own or the kernel's comparison; each contract: ONE APPLICATION.
-/
namespace Go.Proofs
open Go.Shelf
def Tryd.lays169_ren : Go.Shelf.Ren := ⟨fun | 169 => 85 | n => n, fun | 70 => 108 | 9 => 9 | 0 => 0 | 72 => 110 | 37 => 53 | 127 => 128 | 3 => 3 | 5 => 5 | n => n, fun | n => n⟩
theorem Tryd.lays169 : Go.Proofs.Lays.n169 Tryd.prog Tryd.lays169_ren := {
  mixed := by kernel_rfl
  f169 := Tryd.func85.trans (congrArg some (by kernel_rfl))
  t0 := Tryd.underlying0
  a0 := Tryd.isAgg0
  z0 := Tryd.sizeOf0
  v0 := Tryd.zeroValue0
  t3 := Tryd.underlying3
  a3 := Tryd.isAgg3
  z3 := Tryd.sizeOf3
  v3 := Tryd.zeroValue3
  t9 := Tryd.underlying9
  a9 := Tryd.isAgg9
  z9 := Tryd.sizeOf9
  v9 := Tryd.zeroValue9
  t37 := Tryd.underlying53
  a37 := Tryd.isAgg53
  z37 := Tryd.sizeOf53
  v37 := Tryd.zeroValue53
  t70 := Tryd.underlying108
  a70 := Tryd.isAgg108
  z70 := Tryd.sizeOf108
  v70 := Tryd.zeroValue108
  t72 := Tryd.underlying110
  a72 := Tryd.isAgg110
  z72 := Tryd.sizeOf110
  v72 := Tryd.zeroValue110
  t127 := Tryd.underlying128
  a127 := Tryd.isAgg128
  z127 := Tryd.sizeOf128
  v127 := Tryd.zeroValue128 }
theorem Tryd.Builder_Extra_169 : Builder.Extra Tryd.prog Tryd.lays169_ren := {
  sizeBuilder := by kernel_rfl
  liesBuilder := by kernel_rfl
  t5 := Tryd.underlying5
  a5 := Tryd.isAgg5
  z5 := Tryd.sizeOf5
  v5 := Tryd.zeroValue5
  infoByte := by kernel_rfl
  cellsByte := by kernel_rfl
  sizeByte := by kernel_rfl
  neB5 := by decide }
open Go.RowKit in
/-- (*strings.Builder).String: "String returns the accumulated string.": OF A BUILDER THAT HOLDS AT LEAST ONE BYTE. ✋ THE MODEL FREEZES THOSE BYTES IN THE BUFFER (unsafe.String): a later write INTO them ends the model's run without an answer; a later append BEHIND them goes on. The statement's order of evaluation is drawn: one draw. (LAID: no walk: one application.) -/
theorem Tryd.Builder_String (B b : Nat) (l : List UInt8) (w : World) (h : Lib.IsBuilder 110 5 B b (Lib.byteCells l) w) (h0 : l ≠ []) :
    Calls Tryd.prog 85 #[.pointer (some ⟨b, 0, none⟩)] w fun e w' => e = .returned (.string ⟨l.toArray⟩) ∧ Below B w w' := Any.Builder_String Tryd.lays169 Tryd.Builder_Extra_169 B b l w h h0
open Go.RowKit in
/-- (*strings.Builder).String OF A BUILDER THAT HOLDS NO BYTE: the empty string. (Its buffer is nil, or a row of which it has taken nothing yet; where that row has NO capacity the model lays one new block for unsafe.SliceData's 'some address'.) One draw. (LAID: no walk: one application.) -/
theorem Tryd.Builder_String_empty (B b : Nat) (w : World) (h : Lib.IsBuilder 110 5 B b [] w) (hBw : B ≤ w.heap.size) :
    Calls Tryd.prog 85 #[.pointer (some ⟨b, 0, none⟩)] w fun e w' => e = .returned (.string ⟨#[]⟩) ∧ Below B w w' := Any.Builder_String_empty Tryd.lays169 Tryd.Builder_Extra_169 B b w h hBw
open Go.RowKit in
/-- (*strings.Builder).String: "String returns the accumulated string.": WHATEVER THE BUILDER HOLDS. (LAID: no walk: one application.) -/
theorem Tryd.Builder_String_any (B b : Nat) (l : List UInt8) (w : World) (h : Lib.IsBuilder 110 5 B b (Lib.byteCells l) w) (hBw : B ≤ w.heap.size) :
    Calls Tryd.prog 85 #[.pointer (some ⟨b, 0, none⟩)] w fun e w' => e = .returned (.string ⟨l.toArray⟩) ∧ Below B w w' := Any.Builder_String_any Tryd.lays169 Tryd.Builder_Extra_169 B b l w h hBw
def Tryd.lays241_ren : Go.Shelf.Ren := ⟨fun | 241 => 102 | 277 => 115 | n => n, fun | 70 => 108 | 3 => 3 | 0 => 0 | 72 => 110 | 37 => 53 | 5 => 5 | n => n, fun | n => n⟩
theorem Tryd.lays241 : Go.Proofs.Lays.n241 Tryd.prog Tryd.lays241_ren := {
  mixed := by kernel_rfl
  f241 := Tryd.func102.trans (congrArg some (by kernel_rfl))
  f277 := Tryd.func115.trans (congrArg some (by kernel_rfl))
  t0 := Tryd.underlying0
  a0 := Tryd.isAgg0
  z0 := Tryd.sizeOf0
  v0 := Tryd.zeroValue0
  t3 := Tryd.underlying3
  a3 := Tryd.isAgg3
  z3 := Tryd.sizeOf3
  v3 := Tryd.zeroValue3
  t37 := Tryd.underlying53
  a37 := Tryd.isAgg53
  z37 := Tryd.sizeOf53
  v37 := Tryd.zeroValue53
  t70 := Tryd.underlying108
  a70 := Tryd.isAgg108
  z70 := Tryd.sizeOf108
  v70 := Tryd.zeroValue108
  t72 := Tryd.underlying110
  a72 := Tryd.isAgg110
  z72 := Tryd.sizeOf110
  v72 := Tryd.zeroValue110 }
theorem Tryd.Builder_Extra_241 : Builder.Extra Tryd.prog Tryd.lays241_ren := {
  sizeBuilder := by kernel_rfl
  liesBuilder := by kernel_rfl
  t5 := Tryd.underlying5
  a5 := Tryd.isAgg5
  z5 := Tryd.sizeOf5
  v5 := Tryd.zeroValue5
  infoByte := by kernel_rfl
  cellsByte := by kernel_rfl
  sizeByte := by kernel_rfl
  neB5 := by decide }
open Go.RowKit in
/-- (*strings.Builder).grow (no doc but "grow copies the buffer to a new, larger buffer so that there are at least n bytes of capacity beyond len(b.buf)."): AT A BUILDER WITHOUT A BUFFER: a new row of whatever bytes for its buffer, none of them its own yet. Three draws. (LAID: no walk: one application.) -/
theorem Tryd.Builder_grow_fresh (B b n : Nat) (w : World) (hB : B ≤ b) (hbk : w.heap[b]? = some (.cells #[.pointer (some ⟨b, 0, none⟩), .slice none 0 0] 110 (0, 0))) (hBw : B ≤ w.heap.size) (hn : n ≤ 281474976710656) :
    Calls Tryd.prog 102 #[.pointer (some ⟨b, 0, none⟩), .int .i64 n] w fun e w' => e = .returned (.tuple #[]) ∧ (Lib.BuilderAt 110 5 B b (.pointer (some ⟨b, 0, none⟩)) [] w' ∧ Below B w w') := Any.Builder_grow_fresh Tryd.lays241 Tryd.Builder_Extra_241 B b n w hB hbk hBw hn
def Tryd.lays165_ren : Go.Shelf.Ren := ⟨fun | 165 => 83 | 240 => 101 | 241 => 102 | 276 => 114 | 277 => 115 | n => n, fun | 70 => 108 | 3 => 3 | 0 => 0 | 4 => 4 | 9 => 9 | 20 => 20 | 72 => 110 | 37 => 53 | 164 => 131 | 5 => 5 | n => n, fun | n => n⟩
theorem Tryd.lays165 : Go.Proofs.Lays.n165 Tryd.prog Tryd.lays165_ren := {
  mixed := by kernel_rfl
  f165 := Tryd.func83.trans (congrArg some (by kernel_rfl))
  f240 := Tryd.func101.trans (congrArg some (by kernel_rfl))
  f241 := Tryd.func102.trans (congrArg some (by kernel_rfl))
  f276 := Tryd.func114.trans (congrArg some (by kernel_rfl))
  f277 := Tryd.func115.trans (congrArg some (by kernel_rfl))
  t0 := Tryd.underlying0
  a0 := Tryd.isAgg0
  z0 := Tryd.sizeOf0
  v0 := Tryd.zeroValue0
  t3 := Tryd.underlying3
  a3 := Tryd.isAgg3
  z3 := Tryd.sizeOf3
  v3 := Tryd.zeroValue3
  t4 := Tryd.underlying4
  a4 := Tryd.isAgg4
  z4 := Tryd.sizeOf4
  v4 := Tryd.zeroValue4
  t9 := Tryd.underlying9
  a9 := Tryd.isAgg9
  z9 := Tryd.sizeOf9
  v9 := Tryd.zeroValue9
  t20 := Tryd.underlying20
  a20 := Tryd.isAgg20
  z20 := Tryd.sizeOf20
  v20 := Tryd.zeroValue20
  t37 := Tryd.underlying53
  a37 := Tryd.isAgg53
  z37 := Tryd.sizeOf53
  v37 := Tryd.zeroValue53
  t70 := Tryd.underlying108
  a70 := Tryd.isAgg108
  z70 := Tryd.sizeOf108
  v70 := Tryd.zeroValue108
  t72 := Tryd.underlying110
  a72 := Tryd.isAgg110
  z72 := Tryd.sizeOf110
  v72 := Tryd.zeroValue110
  t164 := Tryd.underlying131
  a164 := Tryd.isAgg131
  z164 := Tryd.sizeOf131
  v164 := Tryd.zeroValue131 }
theorem Tryd.Builder_Extra_165 : Builder.Extra Tryd.prog Tryd.lays165_ren := {
  sizeBuilder := by kernel_rfl
  liesBuilder := by kernel_rfl
  t5 := Tryd.underlying5
  a5 := Tryd.isAgg5
  z5 := Tryd.sizeOf5
  v5 := Tryd.zeroValue5
  infoByte := by kernel_rfl
  cellsByte := by kernel_rfl
  sizeByte := by kernel_rfl
  neB5 := by decide }
open Go.RowKit in
/-- (*strings.Builder).Grow AT A BUILDER THAT HAS NOT BEEN WRITTEN ('var b strings.Builder; b.Grow(n)'): "Grow grows b's capacity, if necessary, to guarantee space for another n bytes.": it holds no byte behind it as before it. (LAID: no walk: one application.) -/
theorem Tryd.Builder_Grow_fresh (B b n : Nat) (w : World) (hB : B ≤ b) (hbk : w.heap[b]? = some (.cells #[.pointer none, .slice none 0 0] 110 (0, 0))) (hBw : B ≤ w.heap.size) (hn : n ≤ 281474976710656) :
    Calls Tryd.prog 83 #[.pointer (some ⟨b, 0, none⟩), .int .i64 n] w fun e w' => e = .returned (.tuple #[]) ∧ (Lib.BuilderAt 110 5 B b (.pointer (some ⟨b, 0, none⟩)) [] w' ∧ Below B w w') := Any.Builder_Grow_fresh Tryd.lays165 Tryd.Builder_Extra_165 B b n w hB hbk hBw hn
def Tryd.lays156_ren : Go.Shelf.Ren := ⟨fun | 156 => 61 | 165 => 83 | 166 => 84 | 169 => 85 | 240 => 101 | 241 => 102 | 276 => 114 | 277 => 115 | n => n, fun | 31 => 31 | 9 => 9 | 3 => 3 | 4 => 4 | 0 => 0 | 20 => 20 | 72 => 110 | 76 => 114 | 70 => 108 | 37 => 53 | 75 => 113 | 127 => 128 | 164 => 131 | 5 => 5 | 80 => 116 | n => n, fun | n => n⟩
theorem Tryd.lays156 : Go.Proofs.Lays.n156 Tryd.prog Tryd.lays156_ren := {
  mixed := by kernel_rfl
  f156 := Tryd.func61.trans (congrArg some (by kernel_rfl))
  f165 := Tryd.func83.trans (congrArg some (by kernel_rfl))
  f166 := Tryd.func84.trans (congrArg some (by kernel_rfl))
  f169 := Tryd.func85.trans (congrArg some (by kernel_rfl))
  f240 := Tryd.func101.trans (congrArg some (by kernel_rfl))
  f241 := Tryd.func102.trans (congrArg some (by kernel_rfl))
  f276 := Tryd.func114.trans (congrArg some (by kernel_rfl))
  f277 := Tryd.func115.trans (congrArg some (by kernel_rfl))
  t0 := Tryd.underlying0
  a0 := Tryd.isAgg0
  z0 := Tryd.sizeOf0
  v0 := Tryd.zeroValue0
  t3 := Tryd.underlying3
  a3 := Tryd.isAgg3
  z3 := Tryd.sizeOf3
  v3 := Tryd.zeroValue3
  t4 := Tryd.underlying4
  a4 := Tryd.isAgg4
  z4 := Tryd.sizeOf4
  v4 := Tryd.zeroValue4
  t9 := Tryd.underlying9
  a9 := Tryd.isAgg9
  z9 := Tryd.sizeOf9
  v9 := Tryd.zeroValue9
  t20 := Tryd.underlying20
  a20 := Tryd.isAgg20
  z20 := Tryd.sizeOf20
  v20 := Tryd.zeroValue20
  t31 := Tryd.underlying31
  a31 := Tryd.isAgg31
  z31 := Tryd.sizeOf31
  v31 := Tryd.zeroValue31
  t37 := Tryd.underlying53
  a37 := Tryd.isAgg53
  z37 := Tryd.sizeOf53
  v37 := Tryd.zeroValue53
  t70 := Tryd.underlying108
  a70 := Tryd.isAgg108
  z70 := Tryd.sizeOf108
  v70 := Tryd.zeroValue108
  t72 := Tryd.underlying110
  a72 := Tryd.isAgg110
  z72 := Tryd.sizeOf110
  v72 := Tryd.zeroValue110
  t75 := Tryd.underlying113
  a75 := Tryd.isAgg113
  z75 := Tryd.sizeOf113
  v75 := Tryd.zeroValue113
  t76 := Tryd.underlying114
  a76 := Tryd.isAgg114
  z76 := Tryd.sizeOf114
  v76 := Tryd.zeroValue114
  t127 := Tryd.underlying128
  a127 := Tryd.isAgg128
  z127 := Tryd.sizeOf128
  v127 := Tryd.zeroValue128
  t164 := Tryd.underlying131
  a164 := Tryd.isAgg131
  z164 := Tryd.sizeOf131
  v164 := Tryd.zeroValue131 }
theorem Tryd.Builder_Extra_156 : Builder.Extra Tryd.prog Tryd.lays156_ren := {
  sizeBuilder := by kernel_rfl
  liesBuilder := by kernel_rfl
  t5 := Tryd.underlying5
  a5 := Tryd.isAgg5
  z5 := Tryd.sizeOf5
  v5 := Tryd.zeroValue5
  infoByte := by kernel_rfl
  cellsByte := by kernel_rfl
  sizeByte := by kernel_rfl
  neB5 := by decide }
open Go.RowKit in
/-- No element: the empty string; the world is as it was. (Whatever the slice's address and capacity: a nil slice too.) (LAID: no walk: one application.) -/
theorem Tryd.strings_Join_none (a : Option Addr) (c : Nat) (sep : ByteArray) (w : World) :
    Calls Tryd.prog 61 #[.slice a 0 c, .string sep] w fun e w' => e = .returned (.string ⟨#[]⟩) ∧ w' = w := Any.strings_Join_none Tryd.lays156 Tryd.Builder_Extra_156 a c sep w
open Go.RowKit in
/-- strings.Join: "Join concatenates the elements of its first argument to create a single string. The separator string sep is placed between elements in the resulting string.": HOWEVER MANY ELEMENTS. Below the heap's end the world is as it was. (LAID: no walk: one application.) -/
theorem Tryd.strings_Join (bk o c : Nat) (xs : List ByteArray) (sep : ByteArray) (w : World) (hcells : ∀ (j : Nat) x, xs[j]? = some x → w.cell? ⟨bk, o + j, none⟩ = some (.string x)) (hbk : bk < w.heap.size) (hN : xs.length ≤ 140737488355328) (hcap : xs.length ≤ c) (hlen : (Lib.join (xs.map (·.data.toList)) sep.data.toList).length ≤ 140737488355328) :
    Calls Tryd.prog 61 #[.slice (some ⟨bk, o, none⟩) xs.length c, .string sep] w fun e w' => e = .returned (.string ⟨(Lib.join (xs.map (·.data.toList)) sep.data.toList).toArray⟩) ∧ Below w.heap.size w w' := Any.strings_Join Tryd.lays156 Tryd.Builder_Extra_156 bk o c xs sep w hcells hbk hN hcap hlen
def Tryd.lays210_ren : Go.Shelf.Ren := ⟨fun | 210 => 103 | 206 => 53 | n => n, fun | 9 => 9 | 4 => 4 | 3 => 3 | n => n, fun | n => n⟩
theorem Tryd.lays210 : Go.Proofs.Lays.n210 Tryd.prog Tryd.lays210_ren := {
  mixed := by kernel_rfl
  f206 := Tryd.func53.trans (congrArg some (by kernel_rfl))
  f210 := Tryd.func103.trans (congrArg some (by kernel_rfl))
  t3 := Tryd.underlying3
  a3 := Tryd.isAgg3
  z3 := Tryd.sizeOf3
  v3 := Tryd.zeroValue3
  t4 := Tryd.underlying4
  a4 := Tryd.isAgg4
  z4 := Tryd.sizeOf4
  v4 := Tryd.zeroValue4
  t9 := Tryd.underlying9
  a9 := Tryd.isAgg9
  z9 := Tryd.sizeOf9
  v9 := Tryd.zeroValue9 }
open Go.RowKit in
/-- internal/stringslite.CutPrefix (what strings.CutPrefix calls). (LAID: no walk: one application.) -/
theorem Tryd.stringslite_CutPrefix (s p : ByteArray) (w : World) :
    Calls Tryd.prog 103 #[.string s, .string p] w fun e w' => e = .returned (.tuple #[.string ⟨(Lib.trimPrefix s.data.toList p.data.toList).toArray⟩, .bool (Lib.hasPrefix s.data.toList p.data.toList)]) ∧ w' = w := Any.stringslite_CutPrefix Tryd.lays210 s p w
def Tryd.lays103_ren : Go.Shelf.Ren := ⟨fun | 103 => 86 | 210 => 103 | 206 => 53 | n => n, fun | 9 => 9 | 4 => 4 | 24 => 58 | 3 => 3 | n => n, fun | n => n⟩
theorem Tryd.lays103 : Go.Proofs.Lays.n103 Tryd.prog Tryd.lays103_ren := {
  mixed := by kernel_rfl
  f103 := Tryd.func86.trans (congrArg some (by kernel_rfl))
  f206 := Tryd.func53.trans (congrArg some (by kernel_rfl))
  f210 := Tryd.func103.trans (congrArg some (by kernel_rfl))
  t3 := Tryd.underlying3
  a3 := Tryd.isAgg3
  z3 := Tryd.sizeOf3
  v3 := Tryd.zeroValue3
  t4 := Tryd.underlying4
  a4 := Tryd.isAgg4
  z4 := Tryd.sizeOf4
  v4 := Tryd.zeroValue4
  t9 := Tryd.underlying9
  a9 := Tryd.isAgg9
  z9 := Tryd.sizeOf9
  v9 := Tryd.zeroValue9
  t24 := Tryd.underlying58
  a24 := Tryd.isAgg58
  z24 := Tryd.sizeOf58
  v24 := Tryd.zeroValue58 }
open Go.RowKit in
/-- strings.CutPrefix: "CutPrefix returns s without the provided leading prefix string and reports whether it found the prefix. If s doesn't start with prefix, CutPrefix returns s, false. If prefix is the empty string, CutPrefix returns s, true.": IT RETURNS '(Lib.trimPrefix s p, Lib.hasPrefix s p)'; the world is as it was. (LAID: no walk: one application.) -/
theorem Tryd.strings_CutPrefix (s p : ByteArray) (w : World) :
    Calls Tryd.prog 86 #[.string s, .string p] w fun e w' => e = .returned (.tuple #[.string ⟨(Lib.trimPrefix s.data.toList p.data.toList).toArray⟩, .bool (Lib.hasPrefix s.data.toList p.data.toList)]) ∧ w' = w := Any.strings_CutPrefix Tryd.lays103 s p w
open Go.RowKit in
/-- (*strings.Builder).String: "String returns the accumulated string.": OF A BUILDER THAT HOLDS AT LEAST ONE BYTE. ✋ THE MODEL FREEZES THOSE BYTES IN THE BUFFER (unsafe.String): a later write INTO them ends the model's run without an answer; a later append BEHIND them goes on. The statement's order of evaluation is drawn: one draw. THE FORM '_f': IT SAYS BESIDES THAT THE BUILDER IS A BUILDER STILL ('Lib.IsBuilderF', the same bytes): SO IT CAN BE WRITTEN ON: 'b.WriteString(b.String()[:k])'. (LAID: no walk: one application.) -/
theorem Tryd.Builder_String_f (B b : Nat) (l : List UInt8) (w : World) (h : Lib.IsBuilderF 110 5 B b (Lib.byteCells l) w) (h0 : l ≠ []) :
    Calls Tryd.prog 85 #[.pointer (some ⟨b, 0, none⟩)] w fun e w' => e = .returned (.string ⟨l.toArray⟩) ∧ (Lib.IsBuilderF 110 5 B b (Lib.byteCells l) w' ∧ Below B w w') := Any.Builder_String_f Tryd.lays169 Tryd.Builder_Extra_169 B b l w h h0
open Go.RowKit in
/-- (*strings.Builder).String OF A BUILDER THAT HOLDS NO BYTE: the empty string; THE FORM '_f': a builder still. (LAID: no walk: one application.) -/
theorem Tryd.Builder_String_empty_f (B b : Nat) (w : World) (h : Lib.IsBuilderF 110 5 B b [] w) (hBw : B ≤ w.heap.size) :
    Calls Tryd.prog 85 #[.pointer (some ⟨b, 0, none⟩)] w fun e w' => e = .returned (.string ⟨#[]⟩) ∧ (Lib.IsBuilderF 110 5 B b [] w' ∧ Below B w w') := Any.Builder_String_empty_f Tryd.lays169 Tryd.Builder_Extra_169 B b w h hBw
open Go.RowKit in
/-- (*strings.Builder).String: "String returns the accumulated string.": WHATEVER THE BUILDER HOLDS; THE FORM '_f': OF A BUILDER THAT MAY HAVE BEEN READ BEFORE; AND IT IS A BUILDER STILL, holding the same bytes: it can be written on. (LAID: no walk: one application.) -/
theorem Tryd.Builder_String_any_f (B b : Nat) (l : List UInt8) (w : World) (h : Lib.IsBuilderF 110 5 B b (Lib.byteCells l) w) (hBw : B ≤ w.heap.size) :
    Calls Tryd.prog 85 #[.pointer (some ⟨b, 0, none⟩)] w fun e w' => e = .returned (.string ⟨l.toArray⟩) ∧ (Lib.IsBuilderF 110 5 B b (Lib.byteCells l) w' ∧ Below B w w') := Any.Builder_String_any_f Tryd.lays169 Tryd.Builder_Extra_169 B b l w h hBw
open Go.RowKit in
/-- (*strings.Builder).String: "String returns the accumulated string.": OF A BUILDER THAT HOLDS AT LEAST ONE BYTE. ✋ THE MODEL FREEZES THOSE BYTES IN THE BUFFER (unsafe.String): a later write INTO them ends the model's run without an answer; a later append BEHIND them goes on. The statement's order of evaluation is drawn: one draw. THE FORM '_k': OVER 'Lib.IsBuilderF' (a builder that 'String()' may have read), AND WITH THE FRAME THAT REACHES ABOVE THE BUILDER: 'Lib.OthersKept': every block that is not b and is no row of uint8's stands as it stood: the iterator of a range among them. (LAID: no walk: one application.) -/
theorem Tryd.Builder_String_k (B b : Nat) (l : List UInt8) (w : World) (h : Lib.IsBuilderF 110 5 B b (Lib.byteCells l) w) (h0 : l ≠ []) :
    Calls Tryd.prog 85 #[.pointer (some ⟨b, 0, none⟩)] w fun e w' => e = .returned (.string ⟨l.toArray⟩) ∧ (Lib.IsBuilderF 110 5 B b (Lib.byteCells l) w' ∧ Below B w w' ∧ Lib.OthersKept 5 (some b) w w') := Any.Builder_String_k Tryd.lays169 Tryd.Builder_Extra_169 B b l w h h0
open Go.RowKit in
/-- (*strings.Builder).String OF A BUILDER THAT HOLDS NO BYTE: the empty string; THE FORM '_k': OVER 'Lib.IsBuilderF' (a builder that 'String()' may have read), AND WITH THE FRAME THAT REACHES ABOVE THE BUILDER: 'Lib.OthersKept': every block that is not b and is no row of uint8's stands as it stood: the iterator of a range among them. (LAID: no walk: one application.) -/
theorem Tryd.Builder_String_empty_k (B b : Nat) (w : World) (h : Lib.IsBuilderF 110 5 B b [] w) (hBw : B ≤ w.heap.size) :
    Calls Tryd.prog 85 #[.pointer (some ⟨b, 0, none⟩)] w fun e w' => e = .returned (.string ⟨#[]⟩) ∧ (Lib.IsBuilderF 110 5 B b [] w' ∧ Below B w w' ∧ Lib.OthersKept 5 (some b) w w') := Any.Builder_String_empty_k Tryd.lays169 Tryd.Builder_Extra_169 B b w h hBw
open Go.RowKit in
/-- (*strings.Builder).String: "String returns the accumulated string.": WHATEVER THE BUILDER HOLDS; THE FORM '_k': OVER 'Lib.IsBuilderF' (a builder that 'String()' may have read), AND WITH THE FRAME THAT REACHES ABOVE THE BUILDER: 'Lib.OthersKept': every block that is not b and is no row of uint8's stands as it stood: the iterator of a range among them. (LAID: no walk: one application.) -/
theorem Tryd.Builder_String_any_k (B b : Nat) (l : List UInt8) (w : World) (h : Lib.IsBuilderF 110 5 B b (Lib.byteCells l) w) (hBw : B ≤ w.heap.size) :
    Calls Tryd.prog 85 #[.pointer (some ⟨b, 0, none⟩)] w fun e w' => e = .returned (.string ⟨l.toArray⟩) ∧ (Lib.IsBuilderF 110 5 B b (Lib.byteCells l) w' ∧ Below B w w' ∧ Lib.OthersKept 5 (some b) w w') := Any.Builder_String_any_k Tryd.lays169 Tryd.Builder_Extra_169 B b l w h hBw
def Tryd.lays217_ren : Go.Shelf.Ren := ⟨fun | 217 => 109 | 266 => 116 | n => n, fun | 9 => 9 | 5 => 5 | 3 => 3 | n => n, fun | n => n⟩
theorem Tryd.lays217 : Go.Proofs.Lays.n217 Tryd.prog Tryd.lays217_ren := {
  mixed := by kernel_rfl
  f217 := Tryd.func109.trans (congrArg some (by kernel_rfl))
  f266 := Tryd.func116.trans (congrArg some (by kernel_rfl))
  t3 := Tryd.underlying3
  a3 := Tryd.isAgg3
  z3 := Tryd.sizeOf3
  v3 := Tryd.zeroValue3
  t5 := Tryd.underlying5
  a5 := Tryd.isAgg5
  z5 := Tryd.sizeOf5
  v5 := Tryd.zeroValue5
  t9 := Tryd.underlying9
  a9 := Tryd.isAgg9
  z9 := Tryd.sizeOf9
  v9 := Tryd.zeroValue9 }
open Go.RowKit Go.Lib in
/-- internal/stringslite.IndexByte (what strings.IndexByte calls): IT RETURNS 'Lib.indexByte s c'; the world is as it was. (LAID: no walk: one application.) -/
theorem Tryd.stringslite_IndexByte (s : ByteArray) (c : Int) (w : World) :
    Calls Tryd.prog 109 #[.string s, .int .u8 c] w fun e w' => e = .returned (.int .i64 (Lib.indexByte s.data.toList c.toNat.toUInt8)) ∧ w' = w := Any.stringslite_IndexByte Tryd.lays217 s c w
def Tryd.lays224_ren : Go.Shelf.Ren := ⟨fun | 224 => 111 | n => n, fun | 3 => 3 | n => n, fun | n => n⟩
theorem Tryd.lays224 : Go.Proofs.Lays.n224 Tryd.prog Tryd.lays224_ren := {
  mixed := by kernel_rfl
  f224 := Tryd.func111.trans (congrArg some (by kernel_rfl))
  t3 := Tryd.underlying3
  a3 := Tryd.isAgg3
  z3 := Tryd.sizeOf3
  v3 := Tryd.zeroValue3 }
open Go.RowKit Go.Lib in
/-- internal/bytealg.Cutover: "Cutover reports the number of failures of IndexByte we should tolerate before switching over to Index. n is the number of bytes processed so far.": on amd64: (n + 16) / 8. (LAID: no walk: one application.) -/
theorem Tryd.bytealg_Cutover (n : Int) (h0 : 0 ≤ n) (h1 : n < 4611686018427387904) (w : World) :
    Calls Tryd.prog 111 #[.int .i64 n] w fun e w' => e = .returned (.int .i64 ((n + 16) / 8)) ∧ w' = w := Any.bytealg_Cutover Tryd.lays224 n h0 h1 w
def Tryd.lays314_ren : Go.Shelf.Ren := ⟨fun | 314 => 117 | n => n, fun | 9 => 9 | 51 => 77 | 3 => 3 | 4 => 4 | 5 => 5 | 46 => 83 | n => n, fun | n => n⟩
theorem Tryd.lays314 : Go.Proofs.Lays.n314 Tryd.prog Tryd.lays314_ren := {
  mixed := by kernel_rfl
  f314 := Tryd.func117.trans (congrArg some (by kernel_rfl))
  t3 := Tryd.underlying3
  a3 := Tryd.isAgg3
  z3 := Tryd.sizeOf3
  v3 := Tryd.zeroValue3
  t4 := Tryd.underlying4
  a4 := Tryd.isAgg4
  z4 := Tryd.sizeOf4
  v4 := Tryd.zeroValue4
  t5 := Tryd.underlying5
  a5 := Tryd.isAgg5
  z5 := Tryd.sizeOf5
  v5 := Tryd.zeroValue5
  t9 := Tryd.underlying9
  a9 := Tryd.isAgg9
  z9 := Tryd.sizeOf9
  v9 := Tryd.zeroValue9
  t46 := Tryd.underlying83
  a46 := Tryd.isAgg83
  z46 := Tryd.sizeOf83
  v46 := Tryd.zeroValue83
  t51 := Tryd.underlying77
  a51 := Tryd.isAgg77
  z51 := Tryd.sizeOf77
  v51 := Tryd.zeroValue77 }
open Go.RowKit Go.Lib in
/-- hashStr: "returns the hash and the appropriate multiplicative factor for use in Rabin-Karp algorithm": THE HASH OF ALL OF sep, AND 16777619 ^ len(sep), both in uint32. (LAID: no walk: one application.) -/
theorem Tryd.bytealg_hashStr (sep : ByteArray) (hs : sep.size < 4294967281) (w : World) :
    Calls Tryd.prog 117 #[.string sep] w fun e w' => e = .returned (.tuple #[.int .u32 (RK.H sep.data.toList % 4294967296), .int .u32 (16777619 ^ sep.size % 4294967296)]) ∧ w' = w := Any.bytealg_hashStr Tryd.lays314 sep hs w
def Tryd.lays267_ren : Go.Shelf.Ren := ⟨fun | 267 => 112 | 314 => 117 | n => n, fun | 9 => 9 | 3 => 3 | 146 => 138 | 51 => 77 | 4 => 4 | 5 => 5 | 46 => 83 | n => n, fun | n => n⟩
theorem Tryd.lays267 : Go.Proofs.Lays.n267 Tryd.prog Tryd.lays267_ren := {
  mixed := by kernel_rfl
  f267 := Tryd.func112.trans (congrArg some (by kernel_rfl))
  f314 := Tryd.func117.trans (congrArg some (by kernel_rfl))
  t3 := Tryd.underlying3
  a3 := Tryd.isAgg3
  z3 := Tryd.sizeOf3
  v3 := Tryd.zeroValue3
  t4 := Tryd.underlying4
  a4 := Tryd.isAgg4
  z4 := Tryd.sizeOf4
  v4 := Tryd.zeroValue4
  t5 := Tryd.underlying5
  a5 := Tryd.isAgg5
  z5 := Tryd.sizeOf5
  v5 := Tryd.zeroValue5
  t9 := Tryd.underlying9
  a9 := Tryd.isAgg9
  z9 := Tryd.sizeOf9
  v9 := Tryd.zeroValue9
  t46 := Tryd.underlying83
  a46 := Tryd.isAgg83
  z46 := Tryd.sizeOf83
  v46 := Tryd.zeroValue83
  t51 := Tryd.underlying77
  a51 := Tryd.isAgg77
  z51 := Tryd.sizeOf77
  v51 := Tryd.zeroValue77
  t146 := Tryd.underlying138
  a146 := Tryd.isAgg138
  z146 := Tryd.sizeOf138
  v146 := Tryd.zeroValue138 }
open Go.RowKit Go.Lib in
theorem Tryd.bytealg_IndexRabinKarp (s sep : ByteArray) (h1 : 1 ≤ sep.size) (h2 : sep.size ≤ s.size) (hs : s.size < 4294967281) (w : World) :
    Calls Tryd.prog 112 #[.string s, .string sep] w fun e w' => e = .returned (.int .i64 (Lib.index s.data.toList sep.data.toList)) ∧ w' = w := Any.bytealg_IndexRabinKarp Tryd.lays267 s sep h1 h2 hs w
def Tryd.lays219_ren : Go.Shelf.Ren := ⟨fun | 219 => 99 | 217 => 109 | 225 => 110 | 224 => 111 | 267 => 112 | 266 => 116 | 314 => 117 | n => n, fun | 9 => 9 | 3 => 3 | 4 => 4 | 5 => 5 | 46 => 83 | 146 => 138 | 51 => 77 | n => n, fun | 1 => 1 | n => n⟩
theorem Tryd.lays219 : Go.Proofs.Lays.n219 Tryd.prog Tryd.lays219_ren := {
  mixed := by kernel_rfl
  f217 := Tryd.func109.trans (congrArg some (by kernel_rfl))
  f219 := Tryd.func99.trans (congrArg some (by kernel_rfl))
  f224 := Tryd.func111.trans (congrArg some (by kernel_rfl))
  f225 := Tryd.func110.trans (congrArg some (by kernel_rfl))
  f266 := Tryd.func116.trans (congrArg some (by kernel_rfl))
  f267 := Tryd.func112.trans (congrArg some (by kernel_rfl))
  f314 := Tryd.func117.trans (congrArg some (by kernel_rfl))
  t3 := Tryd.underlying3
  a3 := Tryd.isAgg3
  z3 := Tryd.sizeOf3
  v3 := Tryd.zeroValue3
  t4 := Tryd.underlying4
  a4 := Tryd.isAgg4
  z4 := Tryd.sizeOf4
  v4 := Tryd.zeroValue4
  t5 := Tryd.underlying5
  a5 := Tryd.isAgg5
  z5 := Tryd.sizeOf5
  v5 := Tryd.zeroValue5
  t9 := Tryd.underlying9
  a9 := Tryd.isAgg9
  z9 := Tryd.sizeOf9
  v9 := Tryd.zeroValue9
  t46 := Tryd.underlying83
  a46 := Tryd.isAgg83
  z46 := Tryd.sizeOf83
  v46 := Tryd.zeroValue83
  t51 := Tryd.underlying77
  a51 := Tryd.isAgg77
  z51 := Tryd.sizeOf77
  v51 := Tryd.zeroValue77
  t146 := Tryd.underlying138
  a146 := Tryd.isAgg138
  z146 := Tryd.sizeOf138
  v146 := Tryd.zeroValue138
  g1 := by kernel_rfl }
open Go.RowKit Go.Lib in
/-- internal/stringslite.Index (what strings.Index calls) AT A substr OF ONE BYTE c: IT RETURNS 'Lib.indexByte s c'; the world is as it was. (LAID: no walk: one application.) -/
theorem Tryd.stringslite_Index_one (s : ByteArray) (c : UInt8) (w : World) :
    Calls Tryd.prog 99 #[.string s, .string ⟨#[c]⟩] w fun e w' => e = .returned (.int .i64 (Lib.indexByte s.data.toList c)) ∧ w' = w := Any.stringslite_Index_one Tryd.lays219 s c w
open Go.RowKit Go.Lib in
/-- internal/stringslite.Index (what strings.Index calls) AT A substr OF WHATEVER LENGTH: IT RETURNS 'Lib.index s substr'; the world is as it was. 'm': what internal/bytealg.MaxLen holds: whatever. (LAID: no walk: one application.) -/
theorem Tryd.stringslite_Index (s sub : ByteArray) (m : Int) (w : World) (hs : s.size < 4294967281) (hm : w.cell? ⟨1, 0, none⟩ = some (.int .i64 m)) :
    Calls Tryd.prog 99 #[.string s, .string sub] w fun e w' => e = .returned (.int .i64 (Lib.index s.data.toList sub.data.toList)) ∧ w' = w := Any.stringslite_Index Tryd.lays219 s sub m w hs hm
def Tryd.lays143_ren : Go.Shelf.Ren := ⟨fun | 143 => 79 | 219 => 99 | 217 => 109 | 225 => 110 | 224 => 111 | 267 => 112 | 266 => 116 | 314 => 117 | n => n, fun | 9 => 9 | 3 => 3 | 4 => 4 | 5 => 5 | 46 => 83 | 146 => 138 | 51 => 77 | n => n, fun | 1 => 1 | n => n⟩
theorem Tryd.lays143 : Go.Proofs.Lays.n143 Tryd.prog Tryd.lays143_ren := {
  mixed := by kernel_rfl
  f143 := Tryd.func79.trans (congrArg some (by kernel_rfl))
  f217 := Tryd.func109.trans (congrArg some (by kernel_rfl))
  f219 := Tryd.func99.trans (congrArg some (by kernel_rfl))
  f224 := Tryd.func111.trans (congrArg some (by kernel_rfl))
  f225 := Tryd.func110.trans (congrArg some (by kernel_rfl))
  f266 := Tryd.func116.trans (congrArg some (by kernel_rfl))
  f267 := Tryd.func112.trans (congrArg some (by kernel_rfl))
  f314 := Tryd.func117.trans (congrArg some (by kernel_rfl))
  t3 := Tryd.underlying3
  a3 := Tryd.isAgg3
  z3 := Tryd.sizeOf3
  v3 := Tryd.zeroValue3
  t4 := Tryd.underlying4
  a4 := Tryd.isAgg4
  z4 := Tryd.sizeOf4
  v4 := Tryd.zeroValue4
  t5 := Tryd.underlying5
  a5 := Tryd.isAgg5
  z5 := Tryd.sizeOf5
  v5 := Tryd.zeroValue5
  t9 := Tryd.underlying9
  a9 := Tryd.isAgg9
  z9 := Tryd.sizeOf9
  v9 := Tryd.zeroValue9
  t46 := Tryd.underlying83
  a46 := Tryd.isAgg83
  z46 := Tryd.sizeOf83
  v46 := Tryd.zeroValue83
  t51 := Tryd.underlying77
  a51 := Tryd.isAgg77
  z51 := Tryd.sizeOf77
  v51 := Tryd.zeroValue77
  t146 := Tryd.underlying138
  a146 := Tryd.isAgg138
  z146 := Tryd.sizeOf138
  v146 := Tryd.zeroValue138
  g1 := by kernel_rfl }
open Go.RowKit Go.Lib in
/-- strings.Index: "Index returns the index of the first instance of substr in s, or -1 if substr is not present in s.": AT A substr OF ONE BYTE c: IT RETURNS 'Lib.indexByte s c'; the world is as it was. (LAID: no walk: one application.) -/
theorem Tryd.strings_Index_one (s : ByteArray) (c : UInt8) (w : World) :
    Calls Tryd.prog 79 #[.string s, .string ⟨#[c]⟩] w fun e w' => e = .returned (.int .i64 (Lib.indexByte s.data.toList c)) ∧ w' = w := Any.strings_Index_one Tryd.lays143 s c w
open Go.RowKit Go.Lib in
/-- strings.Index: "Index returns the index of the first instance of substr in s, or -1 if substr is not present in s.": IT RETURNS 'Lib.index s substr'; the world is as it was. (LAID: no walk: one application.) -/
theorem Tryd.strings_Index (s sub : ByteArray) (m : Int) (w : World) (hs : s.size < 4294967281) (hm : w.cell? ⟨1, 0, none⟩ = some (.int .i64 m)) :
    Calls Tryd.prog 79 #[.string s, .string sub] w fun e w' => e = .returned (.int .i64 (Lib.index s.data.toList sub.data.toList)) ∧ w' = w := Any.strings_Index Tryd.lays143 s sub m w hs hm
def Tryd.lays144_ren : Go.Shelf.Ren := ⟨fun | 144 => 106 | 143 => 79 | 219 => 99 | 217 => 109 | 225 => 110 | 224 => 111 | 267 => 112 | 266 => 116 | 314 => 117 | n => n, fun | 9 => 9 | 4 => 4 | 3 => 3 | 5 => 5 | 46 => 83 | 146 => 138 | 51 => 77 | n => n, fun | 1 => 1 | n => n⟩
theorem Tryd.lays144 : Go.Proofs.Lays.n144 Tryd.prog Tryd.lays144_ren := {
  mixed := by kernel_rfl
  f143 := Tryd.func79.trans (congrArg some (by kernel_rfl))
  f144 := Tryd.func106.trans (congrArg some (by kernel_rfl))
  f217 := Tryd.func109.trans (congrArg some (by kernel_rfl))
  f219 := Tryd.func99.trans (congrArg some (by kernel_rfl))
  f224 := Tryd.func111.trans (congrArg some (by kernel_rfl))
  f225 := Tryd.func110.trans (congrArg some (by kernel_rfl))
  f266 := Tryd.func116.trans (congrArg some (by kernel_rfl))
  f267 := Tryd.func112.trans (congrArg some (by kernel_rfl))
  f314 := Tryd.func117.trans (congrArg some (by kernel_rfl))
  t3 := Tryd.underlying3
  a3 := Tryd.isAgg3
  z3 := Tryd.sizeOf3
  v3 := Tryd.zeroValue3
  t4 := Tryd.underlying4
  a4 := Tryd.isAgg4
  z4 := Tryd.sizeOf4
  v4 := Tryd.zeroValue4
  t5 := Tryd.underlying5
  a5 := Tryd.isAgg5
  z5 := Tryd.sizeOf5
  v5 := Tryd.zeroValue5
  t9 := Tryd.underlying9
  a9 := Tryd.isAgg9
  z9 := Tryd.sizeOf9
  v9 := Tryd.zeroValue9
  t46 := Tryd.underlying83
  a46 := Tryd.isAgg83
  z46 := Tryd.sizeOf83
  v46 := Tryd.zeroValue83
  t51 := Tryd.underlying77
  a51 := Tryd.isAgg77
  z51 := Tryd.sizeOf77
  v51 := Tryd.zeroValue77
  t146 := Tryd.underlying138
  a146 := Tryd.isAgg138
  z146 := Tryd.sizeOf138
  v146 := Tryd.zeroValue138
  g1 := by kernel_rfl }
open Go.RowKit Go.Lib in
/-- strings.Contains: "Contains reports whether substr is within s.": AT A substr OF ONE BYTE c: IT RETURNS 'decide (0 ≤ Lib.indexByte s c)'; the world is as it was. (LAID: no walk: one application.) -/
theorem Tryd.strings_Contains_one (s : ByteArray) (c : UInt8) (w : World) :
    Calls Tryd.prog 106 #[.string s, .string ⟨#[c]⟩] w fun e w' => e = .returned (.bool (decide (0 ≤ Lib.indexByte s.data.toList c))) ∧ w' = w := Any.strings_Contains_one Tryd.lays144 s c w
open Go.RowKit Go.Lib in
/-- strings.Contains: "Contains reports whether substr is within s.": IT RETURNS 'Lib.contains s substr'; the world is as it was. (LAID: no walk: one application.) -/
theorem Tryd.strings_Contains (s sub : ByteArray) (m : Int) (w : World) (hs : s.size < 4294967281) (hm : w.cell? ⟨1, 0, none⟩ = some (.int .i64 m)) :
    Calls Tryd.prog 106 #[.string s, .string sub] w fun e w' => e = .returned (.bool (Lib.contains s.data.toList sub.data.toList)) ∧ w' = w := Any.strings_Contains Tryd.lays144 s sub m w hs hm
def Tryd.lays138_ren : Go.Shelf.Ren := ⟨fun | 138 => 78 | 195 => 96 | 218 => 98 | 143 => 79 | 219 => 99 | 217 => 109 | 225 => 110 | 224 => 111 | 267 => 112 | 266 => 116 | 314 => 117 | n => n, fun | 9 => 9 | 3 => 3 | 4 => 4 | 5 => 5 | 0 => 0 | 46 => 83 | 146 => 138 | 51 => 77 | n => n, fun | 1 => 1 | n => n⟩
theorem Tryd.lays138 : Go.Proofs.Lays.n138 Tryd.prog Tryd.lays138_ren := {
  mixed := by kernel_rfl
  f138 := Tryd.func78.trans (congrArg some (by kernel_rfl))
  f143 := Tryd.func79.trans (congrArg some (by kernel_rfl))
  f195 := Tryd.func96.trans (congrArg some (by kernel_rfl))
  f217 := Tryd.func109.trans (congrArg some (by kernel_rfl))
  f218 := Tryd.func98.trans (congrArg some (by kernel_rfl))
  f219 := Tryd.func99.trans (congrArg some (by kernel_rfl))
  f224 := Tryd.func111.trans (congrArg some (by kernel_rfl))
  f225 := Tryd.func110.trans (congrArg some (by kernel_rfl))
  f266 := Tryd.func116.trans (congrArg some (by kernel_rfl))
  f267 := Tryd.func112.trans (congrArg some (by kernel_rfl))
  f314 := Tryd.func117.trans (congrArg some (by kernel_rfl))
  t0 := Tryd.underlying0
  a0 := Tryd.isAgg0
  z0 := Tryd.sizeOf0
  v0 := Tryd.zeroValue0
  t3 := Tryd.underlying3
  a3 := Tryd.isAgg3
  z3 := Tryd.sizeOf3
  v3 := Tryd.zeroValue3
  t4 := Tryd.underlying4
  a4 := Tryd.isAgg4
  z4 := Tryd.sizeOf4
  v4 := Tryd.zeroValue4
  t5 := Tryd.underlying5
  a5 := Tryd.isAgg5
  z5 := Tryd.sizeOf5
  v5 := Tryd.zeroValue5
  t9 := Tryd.underlying9
  a9 := Tryd.isAgg9
  z9 := Tryd.sizeOf9
  v9 := Tryd.zeroValue9
  t46 := Tryd.underlying83
  a46 := Tryd.isAgg83
  z46 := Tryd.sizeOf83
  v46 := Tryd.zeroValue83
  t51 := Tryd.underlying77
  a51 := Tryd.isAgg77
  z51 := Tryd.sizeOf77
  v51 := Tryd.zeroValue77
  t146 := Tryd.underlying138
  a146 := Tryd.isAgg138
  z146 := Tryd.sizeOf138
  v146 := Tryd.zeroValue138
  g1 := by kernel_rfl }
open Go.RowKit Go.Lib in
/-- strings.Count AT A substr OF ONE BYTE ('hp'): "Count counts the number of non-overlapping instances of substr in s.": IT RETURNS 'Lib.countByte s (that byte)'; the world is as it was. ✋ NO CONTRACT HERE YET at an empty substr (utf8.RuneCountInString) or at a longer one (a loop over strings.Index). (LAID: no walk: one application.) -/
theorem Tryd.strings_Count_one (s : ByteArray) (c : UInt8) (w : World) :
    Calls Tryd.prog 78 #[.string s, .string ⟨#[c]⟩] w fun e w' => e = .returned (.int .i64 (Lib.countByte s.data.toList c)) ∧ w' = w := Any.strings_Count_one Tryd.lays138 s c w
open Go.RowKit Go.Lib in
/-- strings.Count AT A substr OF TWO BYTES OR MORE: "Count counts the number of non-overlapping instances of substr in s.": IT RETURNS 'Lib.count s substr'; the world is as it was. (LAID: no walk: one application.) -/
theorem Tryd.strings_Count (s sub : ByteArray) (m : Int) (w : World) (hs : s.size < 4294967281) (hm : w.cell? ⟨1, 0, none⟩ = some (.int .i64 m)) (h2 : 2 ≤ sub.size) :
    Calls Tryd.prog 78 #[.string s, .string sub] w fun e w' => e = .returned (.int .i64 (Lib.countB s sub)) ∧ w' = w := Any.strings_Count Tryd.lays138 s sub m w hs hm h2
def Tryd.laysM219_ren : Go.Shelf.Ren := ⟨fun | 219 => 99 | 217 => 109 | 225 => 110 | 224 => 111 | 267 => 112 | 266 => 116 | 314 => 117 | n => n, fun | 9 => 9 | 3 => 3 | 4 => 4 | 5 => 5 | 46 => 83 | 146 => 138 | 51 => 77 | n => n, fun | 1 => 1 | n => n⟩
theorem Tryd.laysM219 : Go.Proofs.LaysM.n219 Tryd.prog Tryd.laysM219_ren := {
  mixed := by kernel_rfl
  f217 := Tryd.func109.trans (congrArg some (by kernel_rfl))
  f219 := Tryd.func99.trans (congrArg some (by kernel_rfl))
  f224 := Tryd.func111.trans (congrArg some (by kernel_rfl))
  f225 := Tryd.func110.trans (congrArg some (by kernel_rfl))
  f266 := Tryd.func116.trans (congrArg some (by kernel_rfl))
  f267 := Tryd.func112.trans (congrArg some (by kernel_rfl))
  f314 := Tryd.func117.trans (congrArg some (by kernel_rfl))
  t3 := Tryd.underlying3
  a3 := Tryd.isAgg3
  z3 := Tryd.sizeOf3
  v3 := Tryd.zeroValue3
  t4 := Tryd.underlying4
  a4 := Tryd.isAgg4
  z4 := Tryd.sizeOf4
  v4 := Tryd.zeroValue4
  t5 := Tryd.underlying5
  a5 := Tryd.isAgg5
  z5 := Tryd.sizeOf5
  v5 := Tryd.zeroValue5
  t9 := Tryd.underlying9
  a9 := Tryd.isAgg9
  z9 := Tryd.sizeOf9
  v9 := Tryd.zeroValue9
  t46 := Tryd.underlying83
  a46 := Tryd.isAgg83
  z46 := Tryd.sizeOf83
  v46 := Tryd.zeroValue83
  t51 := Tryd.underlying77
  a51 := Tryd.isAgg77
  z51 := Tryd.sizeOf77
  v51 := Tryd.zeroValue77
  t146 := Tryd.underlying138
  a146 := Tryd.isAgg138
  z146 := Tryd.sizeOf138
  v146 := Tryd.zeroValue138
  g1 := by kernel_rfl
  i3 := by kernel_rfl
  i4 := by kernel_rfl
  i5 := by kernel_rfl
  i9 := by kernel_rfl
  i46 := by kernel_rfl
  i51 := by kernel_rfl
  i146 := by kernel_rfl
  m1 := by kernel_rfl
  s1_3 := fun w h => Go.Proofs.cell_of_shapedOpen_int (zero := #[.int .i64 0]) (t := 3) h (of_decide_eq_true (by kernel_rfl)) (by kernel_rfl) rfl (by kernel_rfl) (by kernel_rfl) Tryd.underlying3 }
open Go.RowKit Go.Lib in
theorem Tryd.stringslite_Index_shaped (s sub : ByteArray) (w : World) (h : w.ShapedOpen Tryd.prog) (hs : s.size < 4294967281) :
    Calls Tryd.prog 99 #[.string s, .string sub] w fun e w' => e = .returned (.int .i64 (Lib.index s.data.toList sub.data.toList)) ∧ w' = w := Any.stringslite_Index_shaped Tryd.laysM219 s sub w h hs
def Tryd.laysM143_ren : Go.Shelf.Ren := ⟨fun | 143 => 79 | 219 => 99 | 217 => 109 | 225 => 110 | 224 => 111 | 267 => 112 | 266 => 116 | 314 => 117 | n => n, fun | 9 => 9 | 3 => 3 | 4 => 4 | 5 => 5 | 46 => 83 | 146 => 138 | 51 => 77 | n => n, fun | 1 => 1 | n => n⟩
theorem Tryd.laysM143 : Go.Proofs.LaysM.n143 Tryd.prog Tryd.laysM143_ren := {
  mixed := by kernel_rfl
  f143 := Tryd.func79.trans (congrArg some (by kernel_rfl))
  f217 := Tryd.func109.trans (congrArg some (by kernel_rfl))
  f219 := Tryd.func99.trans (congrArg some (by kernel_rfl))
  f224 := Tryd.func111.trans (congrArg some (by kernel_rfl))
  f225 := Tryd.func110.trans (congrArg some (by kernel_rfl))
  f266 := Tryd.func116.trans (congrArg some (by kernel_rfl))
  f267 := Tryd.func112.trans (congrArg some (by kernel_rfl))
  f314 := Tryd.func117.trans (congrArg some (by kernel_rfl))
  t3 := Tryd.underlying3
  a3 := Tryd.isAgg3
  z3 := Tryd.sizeOf3
  v3 := Tryd.zeroValue3
  t4 := Tryd.underlying4
  a4 := Tryd.isAgg4
  z4 := Tryd.sizeOf4
  v4 := Tryd.zeroValue4
  t5 := Tryd.underlying5
  a5 := Tryd.isAgg5
  z5 := Tryd.sizeOf5
  v5 := Tryd.zeroValue5
  t9 := Tryd.underlying9
  a9 := Tryd.isAgg9
  z9 := Tryd.sizeOf9
  v9 := Tryd.zeroValue9
  t46 := Tryd.underlying83
  a46 := Tryd.isAgg83
  z46 := Tryd.sizeOf83
  v46 := Tryd.zeroValue83
  t51 := Tryd.underlying77
  a51 := Tryd.isAgg77
  z51 := Tryd.sizeOf77
  v51 := Tryd.zeroValue77
  t146 := Tryd.underlying138
  a146 := Tryd.isAgg138
  z146 := Tryd.sizeOf138
  v146 := Tryd.zeroValue138
  g1 := by kernel_rfl
  i3 := by kernel_rfl
  i4 := by kernel_rfl
  i5 := by kernel_rfl
  i9 := by kernel_rfl
  i46 := by kernel_rfl
  i51 := by kernel_rfl
  i146 := by kernel_rfl
  m1 := by kernel_rfl
  s1_3 := fun w h => Go.Proofs.cell_of_shapedOpen_int (zero := #[.int .i64 0]) (t := 3) h (of_decide_eq_true (by kernel_rfl)) (by kernel_rfl) rfl (by kernel_rfl) (by kernel_rfl) Tryd.underlying3 }
open Go.RowKit Go.Lib in
theorem Tryd.strings_Index_shaped (s sub : ByteArray) (w : World) (h : w.ShapedOpen Tryd.prog) (hs : s.size < 4294967281) :
    Calls Tryd.prog 79 #[.string s, .string sub] w fun e w' => e = .returned (.int .i64 (Lib.index s.data.toList sub.data.toList)) ∧ w' = w := Any.strings_Index_shaped Tryd.laysM143 s sub w h hs
def Tryd.laysM144_ren : Go.Shelf.Ren := ⟨fun | 144 => 106 | 143 => 79 | 219 => 99 | 217 => 109 | 225 => 110 | 224 => 111 | 267 => 112 | 266 => 116 | 314 => 117 | n => n, fun | 9 => 9 | 4 => 4 | 3 => 3 | 5 => 5 | 46 => 83 | 146 => 138 | 51 => 77 | n => n, fun | 1 => 1 | n => n⟩
theorem Tryd.laysM144 : Go.Proofs.LaysM.n144 Tryd.prog Tryd.laysM144_ren := {
  mixed := by kernel_rfl
  f143 := Tryd.func79.trans (congrArg some (by kernel_rfl))
  f144 := Tryd.func106.trans (congrArg some (by kernel_rfl))
  f217 := Tryd.func109.trans (congrArg some (by kernel_rfl))
  f219 := Tryd.func99.trans (congrArg some (by kernel_rfl))
  f224 := Tryd.func111.trans (congrArg some (by kernel_rfl))
  f225 := Tryd.func110.trans (congrArg some (by kernel_rfl))
  f266 := Tryd.func116.trans (congrArg some (by kernel_rfl))
  f267 := Tryd.func112.trans (congrArg some (by kernel_rfl))
  f314 := Tryd.func117.trans (congrArg some (by kernel_rfl))
  t3 := Tryd.underlying3
  a3 := Tryd.isAgg3
  z3 := Tryd.sizeOf3
  v3 := Tryd.zeroValue3
  t4 := Tryd.underlying4
  a4 := Tryd.isAgg4
  z4 := Tryd.sizeOf4
  v4 := Tryd.zeroValue4
  t5 := Tryd.underlying5
  a5 := Tryd.isAgg5
  z5 := Tryd.sizeOf5
  v5 := Tryd.zeroValue5
  t9 := Tryd.underlying9
  a9 := Tryd.isAgg9
  z9 := Tryd.sizeOf9
  v9 := Tryd.zeroValue9
  t46 := Tryd.underlying83
  a46 := Tryd.isAgg83
  z46 := Tryd.sizeOf83
  v46 := Tryd.zeroValue83
  t51 := Tryd.underlying77
  a51 := Tryd.isAgg77
  z51 := Tryd.sizeOf77
  v51 := Tryd.zeroValue77
  t146 := Tryd.underlying138
  a146 := Tryd.isAgg138
  z146 := Tryd.sizeOf138
  v146 := Tryd.zeroValue138
  g1 := by kernel_rfl
  i3 := by kernel_rfl
  i4 := by kernel_rfl
  i5 := by kernel_rfl
  i9 := by kernel_rfl
  i46 := by kernel_rfl
  i51 := by kernel_rfl
  i146 := by kernel_rfl
  m1 := by kernel_rfl
  s1_3 := fun w h => Go.Proofs.cell_of_shapedOpen_int (zero := #[.int .i64 0]) (t := 3) h (of_decide_eq_true (by kernel_rfl)) (by kernel_rfl) rfl (by kernel_rfl) (by kernel_rfl) Tryd.underlying3 }
open Go.RowKit Go.Lib in
theorem Tryd.strings_Contains_shaped (s sub : ByteArray) (w : World) (h : w.ShapedOpen Tryd.prog) (hs : s.size < 4294967281) :
    Calls Tryd.prog 106 #[.string s, .string sub] w fun e w' => e = .returned (.bool (Lib.contains s.data.toList sub.data.toList)) ∧ w' = w := Any.strings_Contains_shaped Tryd.laysM144 s sub w h hs
def Tryd.laysM138_ren : Go.Shelf.Ren := ⟨fun | 138 => 78 | 195 => 96 | 218 => 98 | 143 => 79 | 219 => 99 | 217 => 109 | 225 => 110 | 224 => 111 | 267 => 112 | 266 => 116 | 314 => 117 | n => n, fun | 9 => 9 | 3 => 3 | 4 => 4 | 5 => 5 | 0 => 0 | 46 => 83 | 146 => 138 | 51 => 77 | n => n, fun | 1 => 1 | n => n⟩
theorem Tryd.laysM138 : Go.Proofs.LaysM.n138 Tryd.prog Tryd.laysM138_ren := {
  mixed := by kernel_rfl
  f138 := Tryd.func78.trans (congrArg some (by kernel_rfl))
  f143 := Tryd.func79.trans (congrArg some (by kernel_rfl))
  f195 := Tryd.func96.trans (congrArg some (by kernel_rfl))
  f217 := Tryd.func109.trans (congrArg some (by kernel_rfl))
  f218 := Tryd.func98.trans (congrArg some (by kernel_rfl))
  f219 := Tryd.func99.trans (congrArg some (by kernel_rfl))
  f224 := Tryd.func111.trans (congrArg some (by kernel_rfl))
  f225 := Tryd.func110.trans (congrArg some (by kernel_rfl))
  f266 := Tryd.func116.trans (congrArg some (by kernel_rfl))
  f267 := Tryd.func112.trans (congrArg some (by kernel_rfl))
  f314 := Tryd.func117.trans (congrArg some (by kernel_rfl))
  t0 := Tryd.underlying0
  a0 := Tryd.isAgg0
  z0 := Tryd.sizeOf0
  v0 := Tryd.zeroValue0
  t3 := Tryd.underlying3
  a3 := Tryd.isAgg3
  z3 := Tryd.sizeOf3
  v3 := Tryd.zeroValue3
  t4 := Tryd.underlying4
  a4 := Tryd.isAgg4
  z4 := Tryd.sizeOf4
  v4 := Tryd.zeroValue4
  t5 := Tryd.underlying5
  a5 := Tryd.isAgg5
  z5 := Tryd.sizeOf5
  v5 := Tryd.zeroValue5
  t9 := Tryd.underlying9
  a9 := Tryd.isAgg9
  z9 := Tryd.sizeOf9
  v9 := Tryd.zeroValue9
  t46 := Tryd.underlying83
  a46 := Tryd.isAgg83
  z46 := Tryd.sizeOf83
  v46 := Tryd.zeroValue83
  t51 := Tryd.underlying77
  a51 := Tryd.isAgg77
  z51 := Tryd.sizeOf77
  v51 := Tryd.zeroValue77
  t146 := Tryd.underlying138
  a146 := Tryd.isAgg138
  z146 := Tryd.sizeOf138
  v146 := Tryd.zeroValue138
  g1 := by kernel_rfl
  i0 := by kernel_rfl
  i3 := by kernel_rfl
  i4 := by kernel_rfl
  i5 := by kernel_rfl
  i9 := by kernel_rfl
  i46 := by kernel_rfl
  i51 := by kernel_rfl
  i146 := by kernel_rfl
  m1 := by kernel_rfl
  s1_3 := fun w h => Go.Proofs.cell_of_shapedOpen_int (zero := #[.int .i64 0]) (t := 3) h (of_decide_eq_true (by kernel_rfl)) (by kernel_rfl) rfl (by kernel_rfl) (by kernel_rfl) Tryd.underlying3 }
open Go.RowKit Go.Lib in
theorem Tryd.strings_Count_shaped (s sub : ByteArray) (w : World) (h : w.ShapedOpen Tryd.prog) (hs : s.size < 4294967281) (h2 : 2 ≤ sub.size) :
    Calls Tryd.prog 78 #[.string s, .string sub] w fun e w' => e = .returned (.int .i64 (Lib.countB s sub)) ∧ w' = w := Any.strings_Count_shaped Tryd.laysM138 s sub w h hs h2
def Tryd.lays222_ren : Go.Shelf.Ren := ⟨fun | 222 => 107 | n => n, fun | 9 => 9 | 5 => 5 | 3 => 3 | 4 => 4 | n => n, fun | n => n⟩
theorem Tryd.lays222 : Go.Proofs.Lays.n222 Tryd.prog Tryd.lays222_ren := {
  mixed := by kernel_rfl
  f222 := Tryd.func107.trans (congrArg some (by kernel_rfl))
  t3 := Tryd.underlying3
  a3 := Tryd.isAgg3
  z3 := Tryd.sizeOf3
  v3 := Tryd.zeroValue3
  t4 := Tryd.underlying4
  a4 := Tryd.isAgg4
  z4 := Tryd.sizeOf4
  v4 := Tryd.zeroValue4
  t5 := Tryd.underlying5
  a5 := Tryd.isAgg5
  z5 := Tryd.sizeOf5
  v5 := Tryd.zeroValue5
  t9 := Tryd.underlying9
  a9 := Tryd.isAgg9
  z9 := Tryd.sizeOf9
  v9 := Tryd.zeroValue9 }
open Go.RowKit Go.Lib in
/-- internal/bytealg.LastIndexByteString: 'for i := len(s) - 1; i >= 0; i-- { if s[i] == c { return i } }; return -1'. (LAID: no walk: one application.) -/
theorem Tryd.bytealg_LastIndexByteString_nm (s : ByteArray) (c : Int) (hs : s.size < 4611686018427387904) (w : World) :
    Calls Tryd.prog 107 #[.string s, .int .u8 c] w fun e w' => e = .returned (.int .i64 (Lib.lastIndexByte s c)) ∧ w' = w := Any.bytealg_LastIndexByteString_nm Tryd.lays222 s c hs w
def Tryd.lays149_ren : Go.Shelf.Ren := ⟨fun | 149 => 93 | 222 => 107 | n => n, fun | 9 => 9 | 5 => 5 | 3 => 3 | 4 => 4 | n => n, fun | n => n⟩
theorem Tryd.lays149 : Go.Proofs.Lays.n149 Tryd.prog Tryd.lays149_ren := {
  mixed := by kernel_rfl
  f149 := Tryd.func93.trans (congrArg some (by kernel_rfl))
  f222 := Tryd.func107.trans (congrArg some (by kernel_rfl))
  t3 := Tryd.underlying3
  a3 := Tryd.isAgg3
  z3 := Tryd.sizeOf3
  v3 := Tryd.zeroValue3
  t4 := Tryd.underlying4
  a4 := Tryd.isAgg4
  z4 := Tryd.sizeOf4
  v4 := Tryd.zeroValue4
  t5 := Tryd.underlying5
  a5 := Tryd.isAgg5
  z5 := Tryd.sizeOf5
  v5 := Tryd.zeroValue5
  t9 := Tryd.underlying9
  a9 := Tryd.isAgg9
  z9 := Tryd.sizeOf9
  v9 := Tryd.zeroValue9 }
open Go.RowKit Go.Lib in
/-- strings.LastIndexByte: "LastIndexByte returns the index of the last instance of c in s, or -1 if c is not present in s." (LAID: no walk: one application.) -/
theorem Tryd.strings_LastIndexByte (s : ByteArray) (c : Int) (hs : s.size < 4611686018427387904) (w : World) :
    Calls Tryd.prog 93 #[.string s, .int .u8 c] w fun e w' => e = .returned (.int .i64 (Lib.lastIndexByte s c)) ∧ w' = w := Any.strings_LastIndexByte Tryd.lays149 s c hs w
def Tryd.lays206_ren : Go.Shelf.Ren := ⟨fun | 206 => 53 | n => n, fun | 9 => 9 | 4 => 4 | 3 => 3 | n => n, fun | n => n⟩
theorem Tryd.lays206 : Go.Proofs.Lays.n206 Tryd.prog Tryd.lays206_ren := {
  mixed := by kernel_rfl
  f206 := Tryd.func53.trans (congrArg some (by kernel_rfl))
  t3 := Tryd.underlying3
  a3 := Tryd.isAgg3
  z3 := Tryd.sizeOf3
  v3 := Tryd.zeroValue3
  t4 := Tryd.underlying4
  a4 := Tryd.isAgg4
  z4 := Tryd.sizeOf4
  v4 := Tryd.zeroValue4
  t9 := Tryd.underlying9
  a9 := Tryd.isAgg9
  z9 := Tryd.sizeOf9
  v9 := Tryd.zeroValue9 }
open Go.RowKit Go.Lib in
/-- internal/stringslite.HasPrefix (what strings.HasPrefix calls). (LAID: no walk: one application.) -/
theorem Tryd.stringslite_HasPrefix (s p : ByteArray) (w : World) :
    Calls Tryd.prog 53 #[.string s, .string p] w fun e w' => e = .returned (.bool (Lib.hasPrefix s.data.toList p.data.toList)) ∧ w' = w := Any.stringslite_HasPrefix Tryd.lays206 s p w
def Tryd.lays99_ren : Go.Shelf.Ren := ⟨fun | 99 => 28 | 206 => 53 | n => n, fun | 9 => 9 | 4 => 4 | 3 => 3 | n => n, fun | n => n⟩
theorem Tryd.lays99 : Go.Proofs.Lays.n99 Tryd.prog Tryd.lays99_ren := {
  mixed := by kernel_rfl
  f99 := Tryd.func28.trans (congrArg some (by kernel_rfl))
  f206 := Tryd.func53.trans (congrArg some (by kernel_rfl))
  t3 := Tryd.underlying3
  a3 := Tryd.isAgg3
  z3 := Tryd.sizeOf3
  v3 := Tryd.zeroValue3
  t4 := Tryd.underlying4
  a4 := Tryd.isAgg4
  z4 := Tryd.sizeOf4
  v4 := Tryd.zeroValue4
  t9 := Tryd.underlying9
  a9 := Tryd.isAgg9
  z9 := Tryd.sizeOf9
  v9 := Tryd.zeroValue9 }
open Go.RowKit Go.Lib in
/-- strings.HasPrefix: "HasPrefix reports whether the string s begins with prefix.": IT RETURNS 'Lib.hasPrefix s prefix'; the world is as it was. (LAID: no walk: one application.) -/
theorem Tryd.strings_HasPrefix (s p : ByteArray) (w : World) :
    Calls Tryd.prog 28 #[.string s, .string p] w fun e w' => e = .returned (.bool (Lib.hasPrefix s.data.toList p.data.toList)) ∧ w' = w := Any.strings_HasPrefix Tryd.lays99 s p w
def Tryd.lays208_ren : Go.Shelf.Ren := ⟨fun | 208 => 55 | 206 => 53 | n => n, fun | 9 => 9 | 4 => 4 | 3 => 3 | n => n, fun | n => n⟩
theorem Tryd.lays208 : Go.Proofs.Lays.n208 Tryd.prog Tryd.lays208_ren := {
  mixed := by kernel_rfl
  f206 := Tryd.func53.trans (congrArg some (by kernel_rfl))
  f208 := Tryd.func55.trans (congrArg some (by kernel_rfl))
  t3 := Tryd.underlying3
  a3 := Tryd.isAgg3
  z3 := Tryd.sizeOf3
  v3 := Tryd.zeroValue3
  t4 := Tryd.underlying4
  a4 := Tryd.isAgg4
  z4 := Tryd.sizeOf4
  v4 := Tryd.zeroValue4
  t9 := Tryd.underlying9
  a9 := Tryd.isAgg9
  z9 := Tryd.sizeOf9
  v9 := Tryd.zeroValue9 }
open Go.RowKit Go.Lib in
/-- internal/stringslite.TrimPrefix (what strings.TrimPrefix calls). (LAID: no walk: one application.) -/
theorem Tryd.stringslite_TrimPrefix (s p : ByteArray) (w : World) :
    Calls Tryd.prog 55 #[.string s, .string p] w fun e w' => e = .returned (.string ⟨(Lib.trimPrefix s.data.toList p.data.toList).toArray⟩) ∧ w' = w := Any.stringslite_TrimPrefix Tryd.lays208 s p w
def Tryd.lays101_ren : Go.Shelf.Ren := ⟨fun | 101 => 30 | 208 => 55 | 206 => 53 | n => n, fun | 9 => 9 | 4 => 4 | 3 => 3 | n => n, fun | n => n⟩
theorem Tryd.lays101 : Go.Proofs.Lays.n101 Tryd.prog Tryd.lays101_ren := {
  mixed := by kernel_rfl
  f101 := Tryd.func30.trans (congrArg some (by kernel_rfl))
  f206 := Tryd.func53.trans (congrArg some (by kernel_rfl))
  f208 := Tryd.func55.trans (congrArg some (by kernel_rfl))
  t3 := Tryd.underlying3
  a3 := Tryd.isAgg3
  z3 := Tryd.sizeOf3
  v3 := Tryd.zeroValue3
  t4 := Tryd.underlying4
  a4 := Tryd.isAgg4
  z4 := Tryd.sizeOf4
  v4 := Tryd.zeroValue4
  t9 := Tryd.underlying9
  a9 := Tryd.isAgg9
  z9 := Tryd.sizeOf9
  v9 := Tryd.zeroValue9 }
open Go.RowKit Go.Lib in
/-- strings.TrimPrefix: "TrimPrefix returns s without the provided leading prefix string. If s doesn't start with prefix, s is returned unchanged.": IT RETURNS 'Lib.trimPrefix s prefix'; the world is as it was. (LAID: no walk: one application.) -/
theorem Tryd.strings_TrimPrefix (s p : ByteArray) (w : World) :
    Calls Tryd.prog 30 #[.string s, .string p] w fun e w' => e = .returned (.string ⟨(Lib.trimPrefix s.data.toList p.data.toList).toArray⟩) ∧ w' = w := Any.strings_TrimPrefix Tryd.lays101 s p w
open Go.RowKit Go.Lib in
/-- strings.Count at whatever sep that is not empty: the two roads under one statement. (LAID: no walk: one application.) -/
theorem Tryd.strings_Count_any (s sep : ByteArray) (m : Int) (w : World) (hs : s.size < 4294967281) (hm : w.cell? ⟨1, 0, none⟩ = some (.int .i64 m)) (h1 : 1 ≤ sep.size) :
    Calls Tryd.prog 78 #[.string s, .string sep] w fun e w' => e = .returned (.int .i64 (Lib.countB s sep)) ∧ w' = w := Any.strings_Count_any Tryd.lays138 s sep m w hs hm h1
def Tryd.lays221_ren : Go.Shelf.Ren := ⟨fun | 221 => 54 | 268 => 77 | 138 => 78 | 143 => 79 | 195 => 96 | 197 => 97 | 218 => 98 | 219 => 99 | 260 => 108 | 217 => 109 | 225 => 110 | 224 => 111 | 267 => 112 | 266 => 116 | 314 => 117 | n => n, fun | 9 => 9 | 3 => 3 | 31 => 31 | 4 => 4 | 0 => 0 | 105 => 126 | 21 => 21 | 5 => 5 | 46 => 83 | 119 => 134 | 139 => 137 | 138 => 136 | 146 => 138 | 51 => 77 | n => n, fun | 1 => 1 | 3 => 2 | 4 => 3 | n => n⟩
theorem Tryd.lays221 : Go.Proofs.Lays.n221 Tryd.prog Tryd.lays221_ren := {
  mixed := by kernel_rfl
  f138 := Tryd.func78.trans (congrArg some (by kernel_rfl))
  f143 := Tryd.func79.trans (congrArg some (by kernel_rfl))
  f195 := Tryd.func96.trans (congrArg some (by kernel_rfl))
  f197 := Tryd.func97.trans (congrArg some (by kernel_rfl))
  f217 := Tryd.func109.trans (congrArg some (by kernel_rfl))
  f218 := Tryd.func98.trans (congrArg some (by kernel_rfl))
  f219 := Tryd.func99.trans (congrArg some (by kernel_rfl))
  f221 := Tryd.func54.trans (congrArg some (by kernel_rfl))
  f224 := Tryd.func111.trans (congrArg some (by kernel_rfl))
  f225 := Tryd.func110.trans (congrArg some (by kernel_rfl))
  f260 := Tryd.func108.trans (congrArg some (by kernel_rfl))
  f266 := Tryd.func116.trans (congrArg some (by kernel_rfl))
  f267 := Tryd.func112.trans (congrArg some (by kernel_rfl))
  f268 := Tryd.func77.trans (congrArg some (by kernel_rfl))
  f314 := Tryd.func117.trans (congrArg some (by kernel_rfl))
  t0 := Tryd.underlying0
  a0 := Tryd.isAgg0
  z0 := Tryd.sizeOf0
  v0 := Tryd.zeroValue0
  t3 := Tryd.underlying3
  a3 := Tryd.isAgg3
  z3 := Tryd.sizeOf3
  v3 := Tryd.zeroValue3
  t4 := Tryd.underlying4
  a4 := Tryd.isAgg4
  z4 := Tryd.sizeOf4
  v4 := Tryd.zeroValue4
  t5 := Tryd.underlying5
  a5 := Tryd.isAgg5
  z5 := Tryd.sizeOf5
  v5 := Tryd.zeroValue5
  t9 := Tryd.underlying9
  a9 := Tryd.isAgg9
  z9 := Tryd.sizeOf9
  v9 := Tryd.zeroValue9
  t21 := Tryd.underlying21
  a21 := Tryd.isAgg21
  z21 := Tryd.sizeOf21
  v21 := Tryd.zeroValue21
  t31 := Tryd.underlying31
  a31 := Tryd.isAgg31
  z31 := Tryd.sizeOf31
  v31 := Tryd.zeroValue31
  t46 := Tryd.underlying83
  a46 := Tryd.isAgg83
  z46 := Tryd.sizeOf83
  v46 := Tryd.zeroValue83
  t51 := Tryd.underlying77
  a51 := Tryd.isAgg77
  z51 := Tryd.sizeOf77
  v51 := Tryd.zeroValue77
  t105 := Tryd.underlying126
  a105 := Tryd.isAgg126
  z105 := Tryd.sizeOf126
  v105 := Tryd.zeroValue126
  t119 := Tryd.underlying134
  a119 := Tryd.isAgg134
  z119 := Tryd.sizeOf134
  t138 := Tryd.underlying136
  a138 := Tryd.isAgg136
  z138 := Tryd.sizeOf136
  v138 := Tryd.zeroValue136
  t139 := Tryd.underlying137
  a139 := Tryd.isAgg137
  z139 := Tryd.sizeOf137
  v139 := Tryd.zeroValue137
  t146 := Tryd.underlying138
  a146 := Tryd.isAgg138
  z146 := Tryd.sizeOf138
  v146 := Tryd.zeroValue138
  g1 := by kernel_rfl
  g3 := by kernel_rfl
  g4 := by kernel_rfl }
open Go.RowKit Go.Lib in
theorem Tryd.strings_genSplit (s sep : ByteArray) (sv : Nat) (n : Int) (N : Nat) (m : Int) (w : World) (hs : s.size < 4294967281) (hm : w.cell? ⟨1, 0, none⟩ = some (.int .i64 m)) (h1 : 1 ≤ sep.size) (hsv : sv ≤ sep.size) (hn0 : n ≠ 0) (hn63 : n ≤ 9223372036854775807) (hN : (N : Int) = min (if n < 0 then (Lib.countB s sep : Int) + 1 else n) ((s.size : Int) + 1)) :
    Calls Tryd.prog 54 #[.string s, .string sep, .int .i64 sv, .int .i64 n] w fun e w' =>
      e = .returned (.slice (some ⟨w.heap.size, 0, none⟩) (Lib.splitB sep sv (N - 1) s).length N) ∧ w' = w.alloc (.cells (Lib.cellsOf (Lib.splitB sep sv (N - 1) s) N) 9) := Any.strings_genSplit Tryd.lays221 (by kernel_rfl) s sep sv n N m w hs hm h1 hsv hn0 hn63 hN
def Tryd.lays146_ren : Go.Shelf.Ren := ⟨fun | 146 => 29 | 221 => 54 | 268 => 77 | 138 => 78 | 143 => 79 | 195 => 96 | 197 => 97 | 218 => 98 | 219 => 99 | 260 => 108 | 217 => 109 | 225 => 110 | 224 => 111 | 267 => 112 | 266 => 116 | 314 => 117 | n => n, fun | 9 => 9 | 31 => 31 | 3 => 3 | 4 => 4 | 0 => 0 | 105 => 126 | 21 => 21 | 5 => 5 | 46 => 83 | 119 => 134 | 139 => 137 | 138 => 136 | 146 => 138 | 51 => 77 | n => n, fun | 1 => 1 | 3 => 2 | 4 => 3 | n => n⟩
theorem Tryd.lays146 : Go.Proofs.Lays.n146 Tryd.prog Tryd.lays146_ren := {
  mixed := by kernel_rfl
  f138 := Tryd.func78.trans (congrArg some (by kernel_rfl))
  f143 := Tryd.func79.trans (congrArg some (by kernel_rfl))
  f146 := Tryd.func29.trans (congrArg some (by kernel_rfl))
  f195 := Tryd.func96.trans (congrArg some (by kernel_rfl))
  f197 := Tryd.func97.trans (congrArg some (by kernel_rfl))
  f217 := Tryd.func109.trans (congrArg some (by kernel_rfl))
  f218 := Tryd.func98.trans (congrArg some (by kernel_rfl))
  f219 := Tryd.func99.trans (congrArg some (by kernel_rfl))
  f221 := Tryd.func54.trans (congrArg some (by kernel_rfl))
  f224 := Tryd.func111.trans (congrArg some (by kernel_rfl))
  f225 := Tryd.func110.trans (congrArg some (by kernel_rfl))
  f260 := Tryd.func108.trans (congrArg some (by kernel_rfl))
  f266 := Tryd.func116.trans (congrArg some (by kernel_rfl))
  f267 := Tryd.func112.trans (congrArg some (by kernel_rfl))
  f268 := Tryd.func77.trans (congrArg some (by kernel_rfl))
  f314 := Tryd.func117.trans (congrArg some (by kernel_rfl))
  t0 := Tryd.underlying0
  a0 := Tryd.isAgg0
  z0 := Tryd.sizeOf0
  v0 := Tryd.zeroValue0
  t3 := Tryd.underlying3
  a3 := Tryd.isAgg3
  z3 := Tryd.sizeOf3
  v3 := Tryd.zeroValue3
  t4 := Tryd.underlying4
  a4 := Tryd.isAgg4
  z4 := Tryd.sizeOf4
  v4 := Tryd.zeroValue4
  t5 := Tryd.underlying5
  a5 := Tryd.isAgg5
  z5 := Tryd.sizeOf5
  v5 := Tryd.zeroValue5
  t9 := Tryd.underlying9
  a9 := Tryd.isAgg9
  z9 := Tryd.sizeOf9
  v9 := Tryd.zeroValue9
  t21 := Tryd.underlying21
  a21 := Tryd.isAgg21
  z21 := Tryd.sizeOf21
  v21 := Tryd.zeroValue21
  t31 := Tryd.underlying31
  a31 := Tryd.isAgg31
  z31 := Tryd.sizeOf31
  v31 := Tryd.zeroValue31
  t46 := Tryd.underlying83
  a46 := Tryd.isAgg83
  z46 := Tryd.sizeOf83
  v46 := Tryd.zeroValue83
  t51 := Tryd.underlying77
  a51 := Tryd.isAgg77
  z51 := Tryd.sizeOf77
  v51 := Tryd.zeroValue77
  t105 := Tryd.underlying126
  a105 := Tryd.isAgg126
  z105 := Tryd.sizeOf126
  v105 := Tryd.zeroValue126
  t119 := Tryd.underlying134
  a119 := Tryd.isAgg134
  z119 := Tryd.sizeOf134
  t138 := Tryd.underlying136
  a138 := Tryd.isAgg136
  z138 := Tryd.sizeOf136
  v138 := Tryd.zeroValue136
  t139 := Tryd.underlying137
  a139 := Tryd.isAgg137
  z139 := Tryd.sizeOf137
  v139 := Tryd.zeroValue137
  t146 := Tryd.underlying138
  a146 := Tryd.isAgg138
  z146 := Tryd.sizeOf138
  v146 := Tryd.zeroValue138
  g1 := by kernel_rfl
  g3 := by kernel_rfl
  g4 := by kernel_rfl }
open Go.RowKit Go.Lib in
/-- strings.Split. (LAID: no walk: one application.) -/
theorem Tryd.strings_Split (s sep : ByteArray) (m : Int) (w : World) (hs : s.size < 4294967281) (hm : w.cell? ⟨1, 0, none⟩ = some (.int .i64 m)) (h1 : 1 ≤ sep.size) :
    Calls Tryd.prog 29 #[.string s, .string sep] w fun e w' =>
      e = .returned (.slice (some ⟨w.heap.size, 0, none⟩) (Lib.countB s sep + 1) (Lib.countB s sep + 1)) ∧ w' = w.alloc (.cells ((Lib.splitB sep 0 (Lib.countB s sep) s).map Value.string).toArray 9) := Any.strings_Split Tryd.lays146 (by kernel_rfl) s sep m w hs hm h1
def Tryd.laysM146_ren : Go.Shelf.Ren := ⟨fun | 146 => 29 | 221 => 54 | 268 => 77 | 138 => 78 | 143 => 79 | 195 => 96 | 197 => 97 | 218 => 98 | 219 => 99 | 260 => 108 | 217 => 109 | 225 => 110 | 224 => 111 | 267 => 112 | 266 => 116 | 314 => 117 | n => n, fun | 9 => 9 | 31 => 31 | 3 => 3 | 4 => 4 | 0 => 0 | 105 => 126 | 21 => 21 | 5 => 5 | 46 => 83 | 119 => 134 | 139 => 137 | 138 => 136 | 146 => 138 | 51 => 77 | n => n, fun | 1 => 1 | 3 => 2 | 4 => 3 | n => n⟩
theorem Tryd.laysM146 : Go.Proofs.LaysM.n146 Tryd.prog Tryd.laysM146_ren := {
  mixed := by kernel_rfl
  f138 := Tryd.func78.trans (congrArg some (by kernel_rfl))
  f143 := Tryd.func79.trans (congrArg some (by kernel_rfl))
  f146 := Tryd.func29.trans (congrArg some (by kernel_rfl))
  f195 := Tryd.func96.trans (congrArg some (by kernel_rfl))
  f197 := Tryd.func97.trans (congrArg some (by kernel_rfl))
  f217 := Tryd.func109.trans (congrArg some (by kernel_rfl))
  f218 := Tryd.func98.trans (congrArg some (by kernel_rfl))
  f219 := Tryd.func99.trans (congrArg some (by kernel_rfl))
  f221 := Tryd.func54.trans (congrArg some (by kernel_rfl))
  f224 := Tryd.func111.trans (congrArg some (by kernel_rfl))
  f225 := Tryd.func110.trans (congrArg some (by kernel_rfl))
  f260 := Tryd.func108.trans (congrArg some (by kernel_rfl))
  f266 := Tryd.func116.trans (congrArg some (by kernel_rfl))
  f267 := Tryd.func112.trans (congrArg some (by kernel_rfl))
  f268 := Tryd.func77.trans (congrArg some (by kernel_rfl))
  f314 := Tryd.func117.trans (congrArg some (by kernel_rfl))
  t0 := Tryd.underlying0
  a0 := Tryd.isAgg0
  z0 := Tryd.sizeOf0
  v0 := Tryd.zeroValue0
  t3 := Tryd.underlying3
  a3 := Tryd.isAgg3
  z3 := Tryd.sizeOf3
  v3 := Tryd.zeroValue3
  t4 := Tryd.underlying4
  a4 := Tryd.isAgg4
  z4 := Tryd.sizeOf4
  v4 := Tryd.zeroValue4
  t5 := Tryd.underlying5
  a5 := Tryd.isAgg5
  z5 := Tryd.sizeOf5
  v5 := Tryd.zeroValue5
  t9 := Tryd.underlying9
  a9 := Tryd.isAgg9
  z9 := Tryd.sizeOf9
  v9 := Tryd.zeroValue9
  t21 := Tryd.underlying21
  a21 := Tryd.isAgg21
  z21 := Tryd.sizeOf21
  v21 := Tryd.zeroValue21
  t31 := Tryd.underlying31
  a31 := Tryd.isAgg31
  z31 := Tryd.sizeOf31
  v31 := Tryd.zeroValue31
  t46 := Tryd.underlying83
  a46 := Tryd.isAgg83
  z46 := Tryd.sizeOf83
  v46 := Tryd.zeroValue83
  t51 := Tryd.underlying77
  a51 := Tryd.isAgg77
  z51 := Tryd.sizeOf77
  v51 := Tryd.zeroValue77
  t105 := Tryd.underlying126
  a105 := Tryd.isAgg126
  z105 := Tryd.sizeOf126
  v105 := Tryd.zeroValue126
  t119 := Tryd.underlying134
  a119 := Tryd.isAgg134
  z119 := Tryd.sizeOf134
  t138 := Tryd.underlying136
  a138 := Tryd.isAgg136
  z138 := Tryd.sizeOf136
  v138 := Tryd.zeroValue136
  t139 := Tryd.underlying137
  a139 := Tryd.isAgg137
  z139 := Tryd.sizeOf137
  v139 := Tryd.zeroValue137
  t146 := Tryd.underlying138
  a146 := Tryd.isAgg138
  z146 := Tryd.sizeOf138
  v146 := Tryd.zeroValue138
  g1 := by kernel_rfl
  g3 := by kernel_rfl
  g4 := by kernel_rfl
  i0 := by kernel_rfl
  i3 := by kernel_rfl
  i4 := by kernel_rfl
  i5 := by kernel_rfl
  i9 := by kernel_rfl
  i21 := by kernel_rfl
  i31 := by kernel_rfl
  i46 := by kernel_rfl
  i51 := by kernel_rfl
  i105 := by kernel_rfl
  i138 := by kernel_rfl
  i139 := by kernel_rfl
  i146 := by kernel_rfl
  m1 := by kernel_rfl
  s1_3 := fun w h => Go.Proofs.cell_of_shapedOpen_int (zero := #[.int .i64 0]) (t := 3) h (of_decide_eq_true (by kernel_rfl)) (by kernel_rfl) rfl (by kernel_rfl) (by kernel_rfl) Tryd.underlying3
  m3 := by kernel_rfl
  m4 := by kernel_rfl }
open Go.RowKit Go.Lib in
/-- strings.Split, sep not empty. (LAID: no walk: one application.) -/
theorem Tryd.strings_Split_shaped (s sep : ByteArray) (w : World) (h : w.ShapedOpen Tryd.prog) (hs : s.size < 4294967281) (h1 : 1 ≤ sep.size) :
    Calls Tryd.prog 29 #[.string s, .string sep] w fun e w' =>
      e = .returned (.slice (some ⟨w.heap.size, 0, none⟩) (Lib.countB s sep + 1) (Lib.countB s sep + 1)) ∧ w' = w.alloc (.cells ((Lib.splitB sep 0 (Lib.countB s sep) s).map Value.string).toArray 9) := Any.strings_Split_shaped Tryd.laysM146 s sep w h hs h1
def Tryd.lays197_ren : Go.Shelf.Ren := ⟨fun | 197 => 97 | 260 => 108 | n => n, fun | 9 => 9 | 21 => 21 | 3 => 3 | 4 => 4 | 5 => 5 | 105 => 126 | 119 => 134 | 0 => 0 | 46 => 83 | 139 => 137 | 138 => 136 | n => n, fun | 3 => 2 | 4 => 3 | n => n⟩
theorem Tryd.lays197 : Go.Proofs.Lays.n197 Tryd.prog Tryd.lays197_ren := {
  mixed := by kernel_rfl
  f197 := Tryd.func97.trans (congrArg some (by kernel_rfl))
  f260 := Tryd.func108.trans (congrArg some (by kernel_rfl))
  t0 := Tryd.underlying0
  a0 := Tryd.isAgg0
  z0 := Tryd.sizeOf0
  v0 := Tryd.zeroValue0
  t3 := Tryd.underlying3
  a3 := Tryd.isAgg3
  z3 := Tryd.sizeOf3
  v3 := Tryd.zeroValue3
  t4 := Tryd.underlying4
  a4 := Tryd.isAgg4
  z4 := Tryd.sizeOf4
  v4 := Tryd.zeroValue4
  t5 := Tryd.underlying5
  a5 := Tryd.isAgg5
  z5 := Tryd.sizeOf5
  v5 := Tryd.zeroValue5
  t9 := Tryd.underlying9
  a9 := Tryd.isAgg9
  z9 := Tryd.sizeOf9
  v9 := Tryd.zeroValue9
  t21 := Tryd.underlying21
  a21 := Tryd.isAgg21
  z21 := Tryd.sizeOf21
  v21 := Tryd.zeroValue21
  t46 := Tryd.underlying83
  a46 := Tryd.isAgg83
  z46 := Tryd.sizeOf83
  v46 := Tryd.zeroValue83
  t105 := Tryd.underlying126
  a105 := Tryd.isAgg126
  z105 := Tryd.sizeOf126
  v105 := Tryd.zeroValue126
  t119 := Tryd.underlying134
  a119 := Tryd.isAgg134
  z119 := Tryd.sizeOf134
  t138 := Tryd.underlying136
  a138 := Tryd.isAgg136
  z138 := Tryd.sizeOf136
  v138 := Tryd.zeroValue136
  t139 := Tryd.underlying137
  a139 := Tryd.isAgg137
  z139 := Tryd.sizeOf137
  v139 := Tryd.zeroValue137
  g3 := by kernel_rfl
  g4 := by kernel_rfl }
open Go.RowKit Go.Lib in
/-- unicode/utf8.DecodeRuneInString: "DecodeRuneInString is like DecodeRune but its input is a string.": ("DecodeRune unpacks the first UTF-8 encoding in p and returns the rune and its width in bytes."): WHERE s BEGINS WITH AN ASCII BYTE x: (x, 1). (LAID: no walk: one application.) -/
theorem Tryd.utf8_DecodeRuneInString_ascii (s : ByteArray) (x : UInt8) (w : World) (h0 : s.data.toList[0]? = some x) (hx : x.toNat < 128) :
    Calls Tryd.prog 97 #[.string s] w fun e w' => e = .returned (.tuple #[.int .i32 x.toNat, .int .i64 1]) ∧ w' = w := Any.utf8_DecodeRuneInString_ascii Tryd.lays197 s x w h0 hx
def Tryd.lays195_ren : Go.Shelf.Ren := ⟨fun | 195 => 96 | n => n, fun | 9 => 9 | 3 => 3 | 0 => 0 | 4 => 4 | n => n, fun | n => n⟩
theorem Tryd.lays195 : Go.Proofs.Lays.n195 Tryd.prog Tryd.lays195_ren := {
  mixed := by kernel_rfl
  f195 := Tryd.func96.trans (congrArg some (by kernel_rfl))
  t0 := Tryd.underlying0
  a0 := Tryd.isAgg0
  z0 := Tryd.sizeOf0
  v0 := Tryd.zeroValue0
  t3 := Tryd.underlying3
  a3 := Tryd.isAgg3
  z3 := Tryd.sizeOf3
  v3 := Tryd.zeroValue3
  t4 := Tryd.underlying4
  a4 := Tryd.isAgg4
  z4 := Tryd.sizeOf4
  v4 := Tryd.zeroValue4
  t9 := Tryd.underlying9
  a9 := Tryd.isAgg9
  z9 := Tryd.sizeOf9
  v9 := Tryd.zeroValue9 }
open Go.RowKit Go.Lib in
theorem Tryd.utf8_RuneCountInString_ascii (s : ByteArray) (w : World) (hs : s.size < 4294967281) (hascii : ∀ (j : Nat) b, s.data.toList[j]? = some b → b.toNat < 128) :
    Calls Tryd.prog 96 #[.string s] w fun e w' => e = .returned (.int .i64 s.size) ∧ w' = w.iter s s.size := Any.utf8_RuneCountInString_ascii Tryd.lays195 s w hs hascii
def Tryd.lays268_ren : Go.Shelf.Ren := ⟨fun | 268 => 77 | 195 => 96 | 197 => 97 | 260 => 108 | n => n, fun | 9 => 9 | 3 => 3 | 31 => 31 | 4 => 4 | 105 => 126 | 21 => 21 | 0 => 0 | 5 => 5 | 119 => 134 | 46 => 83 | 139 => 137 | 138 => 136 | n => n, fun | 3 => 2 | 4 => 3 | n => n⟩
theorem Tryd.lays268 : Go.Proofs.Lays.n268 Tryd.prog Tryd.lays268_ren := {
  mixed := by kernel_rfl
  f195 := Tryd.func96.trans (congrArg some (by kernel_rfl))
  f197 := Tryd.func97.trans (congrArg some (by kernel_rfl))
  f260 := Tryd.func108.trans (congrArg some (by kernel_rfl))
  f268 := Tryd.func77.trans (congrArg some (by kernel_rfl))
  t0 := Tryd.underlying0
  a0 := Tryd.isAgg0
  z0 := Tryd.sizeOf0
  v0 := Tryd.zeroValue0
  t3 := Tryd.underlying3
  a3 := Tryd.isAgg3
  z3 := Tryd.sizeOf3
  v3 := Tryd.zeroValue3
  t4 := Tryd.underlying4
  a4 := Tryd.isAgg4
  z4 := Tryd.sizeOf4
  v4 := Tryd.zeroValue4
  t5 := Tryd.underlying5
  a5 := Tryd.isAgg5
  z5 := Tryd.sizeOf5
  v5 := Tryd.zeroValue5
  t9 := Tryd.underlying9
  a9 := Tryd.isAgg9
  z9 := Tryd.sizeOf9
  v9 := Tryd.zeroValue9
  t21 := Tryd.underlying21
  a21 := Tryd.isAgg21
  z21 := Tryd.sizeOf21
  v21 := Tryd.zeroValue21
  t31 := Tryd.underlying31
  a31 := Tryd.isAgg31
  z31 := Tryd.sizeOf31
  v31 := Tryd.zeroValue31
  t46 := Tryd.underlying83
  a46 := Tryd.isAgg83
  z46 := Tryd.sizeOf83
  v46 := Tryd.zeroValue83
  t105 := Tryd.underlying126
  a105 := Tryd.isAgg126
  z105 := Tryd.sizeOf126
  v105 := Tryd.zeroValue126
  t119 := Tryd.underlying134
  a119 := Tryd.isAgg134
  z119 := Tryd.sizeOf134
  t138 := Tryd.underlying136
  a138 := Tryd.isAgg136
  z138 := Tryd.sizeOf136
  v138 := Tryd.zeroValue136
  t139 := Tryd.underlying137
  a139 := Tryd.isAgg137
  z139 := Tryd.sizeOf137
  v139 := Tryd.zeroValue137
  g3 := by kernel_rfl
  g4 := by kernel_rfl }
open Go.RowKit Go.Lib in
theorem Tryd.strings_explode_all (s : ByteArray) (n : Int) (w : World) (hn : n < 0) (hs : s.size < 4294967281) (hascii : ∀ (j : Nat) b, s.data.toList[j]? = some b → b.toNat < 128) :
    Calls Tryd.prog 77 #[.string s, .int .i64 n] w fun e w' =>
      e = .returned (.slice (some ⟨(w.iter s s.size).heap.size, 0, none⟩) s.size s.size) ∧ w' = (w.iter s s.size).alloc (.cells ((Lib.charsB s).map Value.string).toArray 9) := Any.strings_explode_all Tryd.lays268 (by kernel_rfl) s n w hn hs hascii
open Go.RowKit Go.Lib in
/-- strings.genSplit at sep == "", n < 0: 'return explode(s, n)'. (LAID: no walk: one application.) -/
theorem Tryd.strings_genSplit_chars (s sep : ByteArray) (sv n : Int) (w : World) (h0 : sep.size = 0) (hn : n < 0) (hs : s.size < 4294967281) (hascii : ∀ (j : Nat) b, s.data.toList[j]? = some b → b.toNat < 128) :
    Calls Tryd.prog 54 #[.string s, .string sep, .int .i64 sv, .int .i64 n] w fun e w' =>
      e = .returned (.slice (some ⟨(w.iter s s.size).heap.size, 0, none⟩) s.size s.size) ∧ w' = (w.iter s s.size).alloc (.cells ((Lib.charsB s).map Value.string).toArray 9) := Any.strings_genSplit_chars Tryd.lays221 (by kernel_rfl) s sep sv n w h0 hn hs hascii
open Go.RowKit Go.Lib in
/-- strings.Split(s, ""), s ASCII: a piece a byte. (LAID: no walk: one application.) -/
theorem Tryd.strings_Split_chars (s sep : ByteArray) (w : World) (h0 : sep.size = 0) (hs : s.size < 4294967281) (hascii : ∀ (j : Nat) b, s.data.toList[j]? = some b → b.toNat < 128) :
    Calls Tryd.prog 29 #[.string s, .string sep] w fun e w' =>
      e = .returned (.slice (some ⟨(w.iter s s.size).heap.size, 0, none⟩) s.size s.size) ∧ w' = (w.iter s s.size).alloc (.cells ((Lib.charsB s).map Value.string).toArray 9) := Any.strings_Split_chars Tryd.lays146 (by kernel_rfl) s sep w h0 hs hascii
def Tryd.lays260_ren : Go.Shelf.Ren := ⟨fun | 260 => 108 | n => n, fun | 9 => 9 | 21 => 21 | 3 => 3 | 4 => 4 | 5 => 5 | 119 => 134 | 0 => 0 | 46 => 83 | 139 => 137 | 138 => 136 | n => n, fun | 3 => 2 | 4 => 3 | n => n⟩
theorem Tryd.lays260 : Go.Proofs.Lays.n260 Tryd.prog Tryd.lays260_ren := {
  mixed := by kernel_rfl
  f260 := Tryd.func108.trans (congrArg some (by kernel_rfl))
  t0 := Tryd.underlying0
  a0 := Tryd.isAgg0
  z0 := Tryd.sizeOf0
  v0 := Tryd.zeroValue0
  t3 := Tryd.underlying3
  a3 := Tryd.isAgg3
  z3 := Tryd.sizeOf3
  v3 := Tryd.zeroValue3
  t4 := Tryd.underlying4
  a4 := Tryd.isAgg4
  z4 := Tryd.sizeOf4
  v4 := Tryd.zeroValue4
  t5 := Tryd.underlying5
  a5 := Tryd.isAgg5
  z5 := Tryd.sizeOf5
  v5 := Tryd.zeroValue5
  t9 := Tryd.underlying9
  a9 := Tryd.isAgg9
  z9 := Tryd.sizeOf9
  v9 := Tryd.zeroValue9
  t21 := Tryd.underlying21
  a21 := Tryd.isAgg21
  z21 := Tryd.sizeOf21
  v21 := Tryd.zeroValue21
  t46 := Tryd.underlying83
  a46 := Tryd.isAgg83
  z46 := Tryd.sizeOf83
  v46 := Tryd.zeroValue83
  t119 := Tryd.underlying134
  a119 := Tryd.isAgg134
  z119 := Tryd.sizeOf134
  t138 := Tryd.underlying136
  a138 := Tryd.isAgg136
  z138 := Tryd.sizeOf136
  v138 := Tryd.zeroValue136
  t139 := Tryd.underlying137
  a139 := Tryd.isAgg137
  z139 := Tryd.sizeOf137
  v139 := Tryd.zeroValue137
  g3 := by kernel_rfl
  g4 := by kernel_rfl }
open Go.RowKit Go.Lib in
theorem Tryd.utf8_decodeRuneInStringSlow (s : ByteArray) (w : World) (hT : Lib.Utf8Tabs 2 3 w) :
    Calls Tryd.prog 108 #[.string s] w fun e w' => e = .returned (.tuple #[.int .i32 (Lib.decodeGo s).1, .int .i64 (Lib.decodeGo s).2]) ∧ Below w.heap.size w w' := Any.utf8_decodeRuneInStringSlow Tryd.lays260 s w hT
open Go.RowKit Go.Lib in
/-- **unicode/utf8.DecodeRuneInString AT EVERY STRING.** (LAID: no walk: one application.) -/
theorem Tryd.utf8_DecodeRuneInString (s : ByteArray) (w : World) (hT : Lib.Utf8Tabs 2 3 w) :
    Calls Tryd.prog 97 #[.string s] w fun e w' => e = .returned (.tuple #[.int .i32 (Lib.decodeGo s).1, .int .i64 (Lib.decodeGo s).2]) ∧ Below w.heap.size w w' := Any.utf8_DecodeRuneInString Tryd.lays197 s w hT
def Tryd.lays229_ren : Go.Shelf.Ren := ⟨fun | 229 => 34 | n => n, fun | 9 => 9 | 40 => 61 | 31 => 31 | 152 => 91 | 3 => 3 | 0 => 0 | 4 => 4 | 21 => 21 | 154 => 93 | n => n, fun | n => n⟩
theorem Tryd.lays229 : Go.Proofs.Lays.n229 Tryd.prog Tryd.lays229_ren := {
  mixed := by kernel_rfl
  f229 := Tryd.func34.trans (congrArg some (by kernel_rfl))
  t0 := Tryd.underlying0
  a0 := Tryd.isAgg0
  z0 := Tryd.sizeOf0
  v0 := Tryd.zeroValue0
  t3 := Tryd.underlying3
  a3 := Tryd.isAgg3
  z3 := Tryd.sizeOf3
  v3 := Tryd.zeroValue3
  t4 := Tryd.underlying4
  a4 := Tryd.isAgg4
  z4 := Tryd.sizeOf4
  v4 := Tryd.zeroValue4
  t9 := Tryd.underlying9
  a9 := Tryd.isAgg9
  z9 := Tryd.sizeOf9
  v9 := Tryd.zeroValue9
  t21 := Tryd.underlying21
  a21 := Tryd.isAgg21
  z21 := Tryd.sizeOf21
  v21 := Tryd.zeroValue21
  t31 := Tryd.underlying31
  a31 := Tryd.isAgg31
  z31 := Tryd.sizeOf31
  v31 := Tryd.zeroValue31
  t40 := Tryd.underlying61
  a40 := Tryd.isAgg61
  z40 := Tryd.sizeOf61
  v40 := Tryd.zeroValue61
  t152 := Tryd.underlying91
  a152 := Tryd.isAgg91
  z152 := Tryd.sizeOf91
  v152 := Tryd.zeroValue91
  t154 := Tryd.underlying93
  a154 := Tryd.isAgg93
  z154 := Tryd.sizeOf93
  v154 := Tryd.zeroValue93 }
open Go.RowKit Go.Lib in
theorem Tryd.strings_FieldsFunc_runes (g : Nat) (lb : Array Value) (eg : ∀ args w, (callFunc g args).run Tryd.prog w = .ok (.enter g args) w) (p : Nat → Bool) (s : ByteArray) (w : World) (hs : s.size ≤ 4294967296) (hp : PredAtRunes Tryd.prog g lb p w) :
    Calls Tryd.prog 34 #[.string s, .func (.func g) #[] lb] w fun e w' => ∃ A, e = .returned (.slice (some ⟨A, 0, none⟩) (Lib.goFieldsP p s).length (Lib.goFieldsP p s).length) ∧ w.heap.size ≤ A ∧
      w'.ownsRow w.heap.size 9 1 (.slice (some ⟨A, 0, none⟩) (Lib.goFieldsP p s).length (Lib.goFieldsP p s).length) (Lib.goFieldsP p s).length ((Lib.goFieldsP p s).map Value.string) ∧ Below w.heap.size w w' := Any.strings_FieldsFunc_runes Tryd.lays229 g lb eg p s w hs hp (by kernel_rfl) (by kernel_rfl)
open Go.RowKit Go.Lib in
/-- .. over a hand of the authors' house's premise as it stands. (LAID: no walk: one application.) -/
theorem Tryd.strings_FieldsFunc (g : Nat) (lb : Array Value) (eg : ∀ args w, (callFunc g args).run Tryd.prog w = .ok (.enter g args) w) (p : Nat → Bool) (s : ByteArray) (w : World) (hs : s.size ≤ 4294967296) (hp : PredAt Tryd.prog g lb encR p w) :
    Calls Tryd.prog 34 #[.string s, .func (.func g) #[] lb] w fun e w' => ∃ A, e = .returned (.slice (some ⟨A, 0, none⟩) (Lib.goFieldsP p s).length (Lib.goFieldsP p s).length) ∧ w.heap.size ≤ A ∧
      w'.ownsRow w.heap.size 9 1 (.slice (some ⟨A, 0, none⟩) (Lib.goFieldsP p s).length (Lib.goFieldsP p s).length) (Lib.goFieldsP p s).length ((Lib.goFieldsP p s).map Value.string) ∧ Below w.heap.size w w' := Any.strings_FieldsFunc Tryd.lays229 g lb eg p s w hs hp (by kernel_rfl) (by kernel_rfl)
open Go.RowKit Go.Lib in
theorem Tryd.strings_FieldsFunc_grows (g : Nat) (lb : Array Value) (eg : ∀ args w, (callFunc g args).run Tryd.prog w = .ok (.enter g args) w) (p : Nat → Bool) (s : ByteArray) (w : World) (hs : s.size ≤ 4294967296) (hp : PredGrows Tryd.prog g lb p w) :
    Calls Tryd.prog 34 #[.string s, .func (.func g) #[] lb] w fun e w' => ∃ A, e = .returned (.slice (some ⟨A, 0, none⟩) (Lib.goFieldsP p s).length (Lib.goFieldsP p s).length) ∧ w.heap.size ≤ A ∧
      w'.ownsRow w.heap.size 9 1 (.slice (some ⟨A, 0, none⟩) (Lib.goFieldsP p s).length (Lib.goFieldsP p s).length) (Lib.goFieldsP p s).length ((Lib.goFieldsP p s).map Value.string) ∧ Below w.heap.size w w' := Any.strings_FieldsFunc_grows Tryd.lays229 g lb eg p s w hs hp (by kernel_rfl) (by kernel_rfl)
def Tryd.laysSlH6_f105_ren : Go.Shelf.Ren := ⟨fun | 6 => 105 | n => n, fun | 22 => 31 | 23 => 9 | 25 => 36 | 3 => 3 | 0 => 0 | 4 => 4 | n => n, fun | n => n⟩
theorem Tryd.laysSlH6_f105 : Go.Proofs.SlLaysH.n6 Tryd.prog Tryd.laysSlH6_f105_ren := {
  mixed := by kernel_rfl
  f6 := ⟨Tryd.f105.name, by decide, Tryd.func105.trans (congrArg some (by kernel_rfl))⟩
  t0 := Tryd.underlying0
  a0 := Tryd.isAgg0
  z0 := Tryd.sizeOf0
  v0 := Tryd.zeroValue0
  t3 := Tryd.underlying3
  a3 := Tryd.isAgg3
  z3 := Tryd.sizeOf3
  v3 := Tryd.zeroValue3
  t4 := Tryd.underlying4
  a4 := Tryd.isAgg4
  z4 := Tryd.sizeOf4
  v4 := Tryd.zeroValue4
  t22 := Tryd.underlying31
  a22 := Tryd.isAgg31
  z22 := Tryd.sizeOf31
  v22 := Tryd.zeroValue31
  a23 := Tryd.isAgg9
  z23 := Tryd.sizeOf9
  t25 := Tryd.underlying36
  a25 := Tryd.isAgg36
  z25 := Tryd.sizeOf36
  v25 := Tryd.zeroValue36 }
open Go.RowKit Go.Lib in
/-- slices.IndexFunc: "IndexFunc returns the first index i satisfying f(s[i]), or -1 if none do." (LAID AT THE INSTANCE 'slices.IndexFunc[[]string,string]': no walk: one application.) -/
theorem Tryd.slices_IndexFunc {α : Type} [Inhabited α] (enc : α → Value) (p : α → Bool) (g : Nat) (lb : Array Value) (eg : ∀ args w, (callFunc g args).run Tryd.prog w = .ok (.enter g args) w) (b off n c : Nat) (zs : List α) (w : World) (hp : PredAt Tryd.prog g lb enc p w) (hz : n ≤ zs.length) (hbig : n ≤ 9223372036854775807) (hc : ∀ j, j < zs.length → w.cell? ⟨b, off + j, none⟩ = some (enc zs[j]!)) :
    Calls Tryd.prog 105 #[.slice (some ⟨b, off, none⟩) n c, .func (.func g) #[] lb] w fun e w' => e = .returned (.int .i64 (Lib.idxBy (fun _ y => p y) (zs.take n) default)) ∧ ∃ q, w' = w.drewN q := AnyE.slices_IndexFunc Tryd.laysSlH6_f105 enc p g lb eg b off n c zs w hp hz hbig hc
open Go.RowKit Go.Lib in
/-- The same at a slice of length 0, a nil one too: the predicate is not called: nothing is asked of it. (LAID AT THE INSTANCE 'slices.IndexFunc[[]string,string]': no walk: one application.) -/
theorem Tryd.slices_IndexFunc_empty {α : Type} [Inhabited α] (a : Option Addr) (c : Nat) (fv : Value) (w : World) :
    Calls Tryd.prog 105 #[.slice a 0 c, fv] w fun e w' => e = .returned (.int .i64 (-1)) ∧ w' = w := AnyE.slices_IndexFunc_empty Tryd.laysSlH6_f105 a c fv w
def Tryd.laysSlH8_f90_ren : Go.Shelf.Ren := ⟨fun | 8 => 90 | 6 => 105 | n => n, fun | 22 => 31 | 23 => 9 | 25 => 36 | 4 => 4 | 3 => 3 | 0 => 0 | n => n, fun | n => n⟩
theorem Tryd.laysSlH8_f90 : Go.Proofs.SlLaysH.n8 Tryd.prog Tryd.laysSlH8_f90_ren := {
  mixed := by kernel_rfl
  f6 := ⟨Tryd.f105.name, by decide, Tryd.func105.trans (congrArg some (by kernel_rfl))⟩
  f8 := ⟨Tryd.f90.name, by decide, Tryd.func90.trans (congrArg some (by kernel_rfl))⟩
  t0 := Tryd.underlying0
  a0 := Tryd.isAgg0
  z0 := Tryd.sizeOf0
  v0 := Tryd.zeroValue0
  t3 := Tryd.underlying3
  a3 := Tryd.isAgg3
  z3 := Tryd.sizeOf3
  v3 := Tryd.zeroValue3
  t4 := Tryd.underlying4
  a4 := Tryd.isAgg4
  z4 := Tryd.sizeOf4
  v4 := Tryd.zeroValue4
  t22 := Tryd.underlying31
  a22 := Tryd.isAgg31
  z22 := Tryd.sizeOf31
  v22 := Tryd.zeroValue31
  a23 := Tryd.isAgg9
  z23 := Tryd.sizeOf9
  t25 := Tryd.underlying36
  a25 := Tryd.isAgg36
  z25 := Tryd.sizeOf36
  v25 := Tryd.zeroValue36 }
open Go.RowKit Go.Lib in
/-- slices.ContainsFunc: "ContainsFunc reports whether at least one element e of s satisfies f(e).": ITS CALLEE slices.IndexFunc IS MET BY ITS OWN CONTRACT. (LAID AT THE INSTANCE 'slices.ContainsFunc[[]string,string]': no walk: one application.) -/
theorem Tryd.slices_ContainsFunc {α : Type} [Inhabited α] (enc : α → Value) (p : α → Bool) (g : Nat) (lb : Array Value) (eg : ∀ args w, (callFunc g args).run Tryd.prog w = .ok (.enter g args) w) (b off n c : Nat) (zs : List α) (w : World) (hp : PredAt Tryd.prog g lb enc p w) (hz : n ≤ zs.length) (hbig : n ≤ 9223372036854775807) (hc : ∀ j, j < zs.length → w.cell? ⟨b, off + j, none⟩ = some (enc zs[j]!)) :
    Calls Tryd.prog 90 #[.slice (some ⟨b, off, none⟩) n c, .func (.func g) #[] lb] w fun e w' => e = .returned (.bool ((zs.take n).any p)) ∧ ∃ q, w' = w.drewN q := AnyE.slices_ContainsFunc Tryd.laysSlH8_f90 enc p g lb eg b off n c zs w hp hz hbig hc
open Go.RowKit Go.Lib in
/-- The same at a slice of length 0, a nil one too. (LAID AT THE INSTANCE 'slices.ContainsFunc[[]string,string]': no walk: one application.) -/
theorem Tryd.slices_ContainsFunc_empty {α : Type} [Inhabited α] (a : Option Addr) (c : Nat) (fv : Value) (w : World) :
    Calls Tryd.prog 90 #[.slice a 0 c, fv] w fun e w' => e = .returned (.bool false) ∧ w' = w := AnyE.slices_ContainsFunc_empty Tryd.laysSlH8_f90 a c fv w
end Go.Proofs
/-
  Ext: functions of the library on texts, out of the kit's contracts. Own work of this seat.
-/
namespace Go.Proofs.YtghjeddphkmciaaDoor
open Go.Abs Go.RowKit

theorem callable_of {P : Program} {f : FuncId} {fn : Func} (hf : P.funcs[f]? = some fn) (h : (fn.name == "runtime.NumGoroutine") = false) (hb : fn.body.isNone = false) : Callable P f := ⟨fn, hf, by simpa using h, hb⟩
theorem rep_str {W : World} {G φ} {s : Bytes} {x : Value} (h : Rep W G φ (.str s) x) : ∃ t : ByteArray, x = .string t ∧ t.data.toList = s := by
  cases h with
  | str l t h => exact ⟨t, rfl, h⟩
theorem repL2 {W : World} {G φ} {u v : V} {xs : Array Value} (h : RepL W G φ [u, v] xs) : ∃ x y, xs = #[x, y] ∧ Rep W G φ u x ∧ Rep W G φ v y := by
  obtain ⟨hl, h⟩ := h
  obtain ⟨l⟩ := xs
  match l, hl with
  | [x, y], _ => exact ⟨x, y, rfl, h 0 u x rfl rfl, h 1 v y rfl rfl⟩
theorem HasMax.at {w : World} (h : HasMax w) {W : World} {G : Nat → Nat} (hW : OKW (cxD w) W G) : ∃ m, W.cell? ⟨1, 0, none⟩ = some (.int .i64 m) := by
  obtain ⟨m, hm⟩ := h
  refine ⟨m, ?_⟩
  rw [hW.below.cell (p := ⟨1, 0, none⟩) ?_]
  · exact hm
  · rcases Nat.lt_or_ge 1 (cxD w).w0.heap.size with h0 | h0
    · exact h0
    · exfalso
      have : w.heap[(1 : Nat)]? = none := Array.getElem?_eq_none h0
      simp only [World.cell?, this] at hm
      cases hm
theorem two_str {args : List V} {a b : Bytes} (h : nfL args = [V.str a, V.str b]) : args = [.str a, .str b] := by
  obtain ⟨u, v, rfl, h1, h2⟩ := nfL_cons h
  obtain ⟨u', v', rfl, h3, h4⟩ := nfL_cons h2
  obtain rfl := nfL_nil h4
  rw [nf_str h1, nf_str h3]
theorem nfL_strs (l : List Bytes) : nfL (l.map .str) = l.map .str := by rw [nfL_map, List.map_map]; rfl

/-! ### strings.Split at one byte -/
def splitOn (c : UInt8) : Bytes → List Bytes
  | [] => [[]]
  | b :: r => if b = c then [] :: splitOn c r else match splitOn c r with
    | [] => [[b]]
    | x :: xs => (b :: x) :: xs
theorem splitK_one (c : UInt8) : ∀ s : Bytes, Lib.splitK [c] 0 (s.count c) s = splitOn c s
  | [] => rfl
  | b :: r => by
    have ih := splitK_one c r
    simp only [splitOn]
    by_cases h : b = c
    · subst h
      rw [List.count_cons_self, if_pos rfl]
      simp only [Lib.splitK, Lib.index]
      simp [ih]
    · rw [if_neg h, List.count_cons_of_ne h]
      cases hk : r.count c with
      | zero => rw [hk] at ih; simp only [Lib.splitK] at ih ⊢; rw [← ih]
      | succ k =>
        rw [hk] at ih
        simp only [Lib.splitK, Lib.index] at ih ⊢
        have hp : List.isPrefixOf [c] (b :: r) = false := by simp [List.isPrefixOf, Ne.symm h]
        simp only [hp, Bool.false_eq_true, if_false]
        by_cases hi : Lib.index r [c] = -1
        · simp only [hi, beq_self_eq_true, if_true] at ih ⊢
          rw [← ih]
        · have hge := Lib.index_ge r [c]
          have e1 : (Lib.index r [c] == -1) = false := by simpa using hi
          have e2 : (Lib.index r [c] + 1 == -1) = false := by simp; omega
          simp only [e1, e2, Bool.false_eq_true, if_false] at ih ⊢
          rw [← ih]
          have e3 : (Lib.index r [c] + 1).toNat = (Lib.index r [c]).toNat + 1 := by omega
          simp [e3]

def g.strings_Split (s c : Bytes) : Option (List Bytes) := if s.length < 4294967281 ∧ c.length = 1 then some (splitOn (c.headD 0) s) else none
def K.strings_Split : FC := fc 29 (fun _ => true) true (fun (a : Bytes × Bytes) => [V.str a.1, V.str a.2]) (fun (y : List Bytes) => .sl false 1 (y.map .str)) (fun a => g.strings_Split a.1 a.2)
  (fun _ => rfl) (fun y => cleanL_map (fun _ => rfl) y) (fun ⟨a, b⟩ ⟨c, d⟩ h => by simp at h; simp [h])
theorem H.strings_Split (w : World) (hw : EnvOK w) : K.strings_Split.Holds (cxD w) := by
  rintro args y ⟨⟨s, c⟩, r, ha, hg, rfl⟩
  obtain rfl := two_str ha
  simp only [g.strings_Split] at hg
  split at hg
  · rename_i hc
    cases hg
    refine ⟨.sl false 1 ((splitOn (c.headD 0) s).map .str), true, ?_, by show V.sl false 1 (nfL _) = _; rw [nfL_strs], fun _ => .inl rfl⟩
    refine PC.texts (callable_of Tryd.func29 (by kernel_rfl) (by kernel_rfl)) fun W G φ xs hW hxs => ?_
    obtain ⟨x, y, rfl, hx, hy⟩ := repL2 hxs
    obtain ⟨t, rfl, rfl⟩ := rep_str hx
    obtain ⟨u, rfl, hu⟩ := rep_str hy
    obtain ⟨m, hm⟩ := hw.max.at hW
    have hu1 : u.size = 1 := by rw [Lib.size_eq, hu]; exact hc.2
    have hsz : t.size < 4294967281 := by rw [Lib.size_eq]; exact hc.1
    refine (Tryd.strings_Split t u m W hsz hm (by omega)).mono fun e W' ⟨he, hW'⟩ => ?_
    have hlen := Lib.splitB_all u (by omega) 0 _ t rfl
    refine ⟨Lib.splitB u 0 (Lib.countB t u) t, _, ?_, by rw [he, hlen], hW'⟩
    have hu2 : u.data.toList = [c.headD 0] := by
      rw [hu]
      match c, hc.2 with
      | [b], _ => rfl
    rw [Lib.splitB_data, hu2]
    have : Lib.countB t u = t.data.toList.count (c.headD 0) := by
      unfold Lib.countB
      rw [hu2, Lib.count_one]
    rw [this, splitK_one]
  · cases hg

/-! ### strings.Contains -/
def g.strings_Contains (s c : Bytes) : Option Bool := if s.length < 4294967281 ∧ c.length = 1 then some (decide (c.headD 0 ∈ s)) else none
def K.strings_Contains : FC := fc 106 (fun _ => true) false (fun (a : Bytes × Bytes) => [V.str a.1, V.str a.2]) (fun (y : Bool) => .bool y) (fun a => g.strings_Contains a.1 a.2)
  (fun _ => rfl) (fun y => rfl) (fun ⟨a, b⟩ ⟨c, d⟩ h => by simp at h; simp [h])
theorem index_one (c : UInt8) : ∀ s : Bytes, (Lib.index s [c] = -1) ↔ c ∉ s
  | [] => by simp [Lib.index]
  | b :: r => by
    have ih := index_one c r
    have hge := Lib.index_ge r [c]
    simp only [Lib.index]
    by_cases h : b = c
    · subst h; simp
    · have hp : List.isPrefixOf [c] (b :: r) = false := by simp [List.isPrefixOf, Ne.symm h]
      simp only [hp, Bool.false_eq_true, if_false]
      by_cases hi : Lib.index r [c] = -1
      · simp [hi, ih.1 hi, Ne.symm h]
      · have e1 : (Lib.index r [c] == -1) = false := by simpa using hi
        have hm : c ∈ r := Classical.not_not.1 fun hn => hi (ih.2 hn)
        simp [e1, hm]; omega
theorem H.strings_Contains (w : World) (hw : EnvOK w) : K.strings_Contains.Holds (cxD w) := by
  rintro args y ⟨⟨s, c⟩, r, ha, hg, rfl⟩
  obtain rfl := two_str ha
  simp only [g.strings_Contains] at hg
  split at hg
  · rename_i hc
    cases hg
    refine ⟨.bool (decide (c.headD 0 ∈ s)), false, ?_, rfl, fun h => nomatch h⟩
    refine PC.pure (callable_of Tryd.func106 (by kernel_rfl) (by kernel_rfl)) fun W G φ xs hW hxs => ?_
    obtain ⟨x, y, rfl, hx, hy⟩ := repL2 hxs
    obtain ⟨t, rfl, rfl⟩ := rep_str hx
    obtain ⟨u, rfl, hu⟩ := rep_str hy
    obtain ⟨m, hm⟩ := hw.max.at hW
    have hsz : t.size < 4294967281 := by rw [Lib.size_eq]; exact hc.1
    refine (Tryd.strings_Contains t u m W hsz hm).mono fun e W' ⟨he, hW'⟩ => ?_
    subst hW'
    refine ⟨_, he, .refl _ _, fun _ _ => ?_⟩
    have hu2 : u.data.toList = [c.headD 0] := by
      rw [hu]
      match c, hc.2 with
      | [b], _ => rfl
    rw [hu2]
    have e : decide (0 ≤ Lib.index t.data.toList [c.headD 0]) = decide (c.headD 0 ∈ t.data.toList) := by
      have := index_one (c.headD 0) t.data.toList
      have hge := Lib.index_ge t.data.toList [c.headD 0]
      rw [decide_eq_decide]
      constructor
      · intro h; exact Classical.not_not.1 fun hn => by have := this.2 hn; omega
      · intro h
        have : Lib.index t.data.toList [c.headD 0] ≠ -1 := fun h' => (this.1 h') h
        omega
    have e2 : Lib.contains t.data.toList [c.headD 0] = decide (c.headD 0 ∈ t.data.toList) := e
    rw [e2]
    exact .bool _
  · cases hg
end Go.Proofs.YtghjeddphkmciaaDoor
/-
  Ext: rows of texts. Own work of this seat.
-/
namespace Go.Proofs.YtghjeddphkmciaaDoor
open Go.Abs Go.RowKit Go.Shelf Go.Sort

theorem rep_texts {W : World} {G φ} {nl : Bool} {l : List Bytes} {x : Value} (h : Rep W G φ (.sl nl 1 (l.map .str)) x) :
    (x = .slice none 0 0 ∧ l = []) ∨ (∃ a, x = .slice (some a) 0 0 ∧ l = []) ∨ ∃ (b off cap : Nat) (zs : List ByteArray), x = .slice (some ⟨b, off, none⟩) zs.length cap ∧ zs.map (·.data.toList) = l ∧ zs.length ≤ cap ∧
      ∀ j, j < zs.length → W.cell? ⟨b, off + j, none⟩ = some (.string (zs.getD j ByteArray.empty)) := by
  generalize hv : l.map V.str = ys at h
  cases h with
  | slnil => exact .inl ⟨rfl, List.map_eq_nil_iff.1 hv⟩
  | sl0 _ a => exact .inr (.inl ⟨a, rfl, List.map_eq_nil_iff.1 hv⟩)
  | sl _ _ b off cap rd hcap hG hx hrd h =>
    subst hv
    right; right
    have hs : ∀ i s, l[i]? = some s → ∃ t : ByteArray, rd i = .string t ∧ t.data.toList = s := by
      intro i s hi
      have := h i (.str s) 0 (.str s) (by simp [hi]) rfl
      simp only [Nat.mul_one, Nat.add_zero] at this
      obtain ⟨t, h1, h2⟩ := rep_str this
      exact ⟨t, h1, h2⟩
    refine ⟨b, off, cap, (List.range l.length).map fun i => match rd i with | .string t => t | _ => ByteArray.empty, by simp, ?_, by simpa using hcap, fun j hj => ?_⟩
    · apply List.ext_getElem?
      intro i
      rcases Nat.lt_or_ge i l.length with hi | hi
      · obtain ⟨t, h1, h2⟩ := hs i _ (List.getElem?_eq_getElem hi)
        simp [hi, h1, h2]
      · simp [Nat.not_lt.2 hi, hi]
    · have hj' : j < l.length := by simpa using hj
      obtain ⟨t, h1, h2⟩ := hs j _ (List.getElem?_eq_getElem hj')
      rw [hrd j (by simpa using hj'), h1]
      simp [List.getD, hj', h1]

theorem nf_strs : ∀ {xs : List V} {l : List Bytes}, nfL xs = l.map V.str → xs = l.map V.str
  | [], [], _ => rfl
  | [], _ :: _, h => by simp [nfL] at h
  | _ :: _, [], h => by simp [nfL] at h
  | x :: xs, y :: l, h => by
    obtain ⟨h1, h2⟩ := List.cons.inj (show x.nf :: nfL xs = V.str y :: l.map V.str from h)
    rw [nf_str h1, nf_strs h2]; rfl
end Go.Proofs.YtghjeddphkmciaaDoor
/-
  Ext: strings.FieldsFunc at blanks and tabs, strings.Join, out of the kit's contracts. Own work of this seat.
-/
namespace Go.Proofs.YtghjeddphkmciaaDoor
open Go.Abs Go.RowKit Go.Shelf Go.Sort

/-! ### words: by bytes -/
def fldB (q : UInt8 → Bool) : Bytes → Bytes → List Bytes
  | [], cur => if cur = [] then [] else [cur]
  | b :: r, cur => if q b then (if cur = [] then fldB q r [] else cur :: fldB q r []) else fldB q r (cur ++ [b])
theorem fld_run {q : UInt8 → Bool} {r : Bytes} : ∀ {xs cur : Bytes}, (∀ x ∈ xs, q x = false) → fldB q (xs ++ r) cur = fldB q r (cur ++ xs)
  | [], cur, _ => by simp
  | x :: xs, cur, h => by
    rw [List.cons_append, fldB, h x (by simp), if_neg (by simp), fld_run fun y hy => h y (by simp [hy])]; simp
theorem dec_facts {n b0 b1 b2 b3 : Nat} (hn : 1 ≤ n) (h0 : 128 ≤ b0) : 128 ≤ (Lib.decodeN n b0 b1 b2 b3).1 ∧ 1 ≤ (Lib.decodeN n b0 b1 b2 b3).2 ∧ (Lib.decodeN n b0 b1 b2 b3).2 ≤ n ∧ (Lib.decodeN n b0 b1 b2 b3).2 ≤ 4 ∧
    (2 ≤ (Lib.decodeN n b0 b1 b2 b3).2 → 128 ≤ b1) ∧ (3 ≤ (Lib.decodeN n b0 b1 b2 b3).2 → 128 ≤ b2) ∧ (4 ≤ (Lib.decodeN n b0 b1 b2 b3).2 → 128 ≤ b3) := by
  unfold Lib.decodeN
  repeat' split
  all_goals (simp only; omega)
theorem dec_low {n b0 b1 b2 b3 : Nat} (h0 : b0 < 128) : Lib.decodeN n b0 b1 b2 b3 = (b0, 1) := by unfold Lib.decodeN; rw [if_pos h0]
def spanB (s : Bytes) (x : Nat × Nat) : Bytes := (s.take x.2).drop x.1
theorem spans_fld {p : Nat → Bool} {q : UInt8 → Bool} (hq : ∀ b : UInt8, q b = (decide (b.toNat < 128) && p b.toNat)) (hp : ∀ r, 128 ≤ r → p r = false) (s : ByteArray) (L : Bytes) (hL : s.data.toList = L) (hsz : s.size = L.length) :
    ∀ (f pos : Nat) (st : Option Nat) (acc : List (Nat × Nat)), pos ≤ s.size → s.size ≤ f + pos → (∀ a, st = some a → a < pos) →
      (Lib.closeSpans s (Lib.spansFromP p s f pos st acc)).map (spanB L) = acc.map (spanB L) ++ fldB q (L.drop pos) (match st with | some a => (L.take pos).drop a | none => [])
  | 0, pos, st, acc, h1, h2, h3 => by
    have e : pos = s.size := by omega
    subst e
    rw [hsz, List.drop_length, List.take_length]
    simp only [Lib.spansFromP, Lib.closeSpans]
    cases st with
    | none => simp [fldB]
    | some a =>
      have ha := h3 a rfl
      rw [hsz] at ha
      have : L.drop a ≠ [] := fun e => by have := congrArg List.length e; rw [List.length_drop, List.length_nil] at this; omega
      simp only [List.map_append, List.map_cons, List.map_nil, spanB, fldB, if_neg this, hsz, List.take_length]
  | f + 1, pos, st, acc, h1, h2, h3 => by
    unfold Lib.spansFromP
    have e1 : (L.take pos).drop pos = [] := List.drop_eq_nil_of_le (by simp; omega)
    by_cases hlt : pos < s.size
    · rw [if_pos hlt]
      have hltl : pos < L.length := by rw [← hsz]; exact hlt
      have hg : ∀ k (hk : pos + k < L.length), L.getD (pos + k) 0 = L[pos + k] := fun k hk => by simp [List.getD, hk]
      have hd := Lib.decode_N s pos
      rw [hL] at hd
      by_cases hb : L[pos].toNat < 128
      · have hdec : Utf8.decode s pos = (L[pos].toNat, 1) := by
          have h0 : L.getD pos 0 = L[pos] := hg 0 hltl
          rw [hd, h0]; exact dec_low hb
        have hqb : q L[pos] = p L[pos].toNat := by rw [hq, decide_eq_true hb, Bool.true_and]
        rw [hdec, List.drop_eq_getElem_cons hltl, fldB, hqb]
        simp only
        cases hpb : p L[pos].toNat
        · simp only [Bool.false_eq_true, if_false]
          cases st with
          | none =>
            rw [spans_fld hq hp s L hL hsz f (pos + 1) (some pos) acc (by omega) (by omega) (fun a h => by cases h; omega)]
            simp only [List.nil_append]
            rw [List.take_add_one, List.getElem?_eq_getElem hltl, List.drop_append_of_le_length (by simp; omega), e1]; rfl
          | some a =>
            have ha := h3 a rfl
            rw [spans_fld hq hp s L hL hsz f (pos + 1) (some a) acc (by omega) (by omega) (fun a' h => by cases h; omega)]
            simp only
            rw [List.take_add_one, List.getElem?_eq_getElem hltl, List.drop_append_of_le_length (by simp; omega)]; rfl
        · simp only [if_true]
          cases st with
          | none => rw [spans_fld hq hp s L hL hsz f (pos + 1) none acc (by omega) (by omega) (fun a h => by cases h)]; simp
          | some a =>
            have ha := h3 a rfl
            have hne : (L.take pos).drop a ≠ [] := fun e => by have := congrArg List.length e; rw [List.length_drop, List.length_take, List.length_nil] at this; omega
            rw [spans_fld hq hp s L hL hsz f (pos + 1) none _ (by omega) (by omega) (fun a h => by cases h), if_neg hne]
            simp [spanB]
      · have hb' : 128 ≤ L[pos].toNat := by omega
        obtain ⟨k1, k2, k3, k4, k5, k6, k7⟩ := dec_facts (n := L.length - pos) (b0 := (L.getD pos 0).toNat) (b1 := (L.getD (pos + 1) 0).toNat) (b2 := (L.getD (pos + 2) 0).toNat) (b3 := (L.getD (pos + 3) 0).toNat) (by omega) (by have h0 : L.getD pos 0 = L[pos] := hg 0 hltl; rw [h0]; exact hb')
        rw [← hd] at k1 k2 k3 k4 k5 k6 k7
        generalize hw : (Utf8.decode s pos).2 = w at k2 k3 k4 k5 k6 k7 ⊢
        generalize hr : (Utf8.decode s pos).1 = r at k1 ⊢
        rw [hp r k1, if_neg (by simp)]
        have hall : ∀ x ∈ (L.drop pos).take w, q x = false := by
          intro x hx
          obtain ⟨j, hj, rfl⟩ := List.getElem_of_mem hx
          simp only [List.length_take, List.length_drop] at hj
          simp only [List.getElem_take, List.getElem_drop]
          have h128 : 128 ≤ L[pos + j].toNat := by
            match j, hj with
            | 0, _ => exact hb'
            | 1, hj => have := k5 (by omega); rw [hg 1 (by omega)] at this; exact this
            | 2, hj => have := k6 (by omega); rw [hg 2 (by omega)] at this; exact this
            | 3, hj => have := k7 (by omega); rw [hg 3 (by omega)] at this; exact this
            | j + 4, hj => omega
          rw [hq, decide_eq_false (by omega)]; rfl
        have hsp : L.drop pos = (L.drop pos).take w ++ L.drop (pos + w) := by
          rw [← List.drop_drop, List.take_append_drop]
        have htk : L.take (pos + w) = L.take pos ++ (L.drop pos).take w := List.take_add
        cases st with
        | none =>
          simp only
          rw [spans_fld hq hp s L hL hsz f (pos + w) (some pos) acc (by omega) (by omega) (fun a h => by cases h; omega)]
          rw [hsp, fld_run hall]
          simp only
          rw [htk, List.drop_append_of_le_length (by simp; omega), e1]
        | some a =>
          have ha := h3 a rfl
          simp only
          rw [spans_fld hq hp s L hL hsz f (pos + w) (some a) acc (by omega) (by omega) (fun a' h => by cases h; omega)]
          rw [hsp, fld_run hall]
          simp only
          rw [htk, List.drop_append_of_le_length (by simp; omega)]
    · rw [if_neg hlt]
      have e : pos = s.size := by omega
      have := spans_fld hq hp s L hL hsz 0 pos st acc h1 (by omega) h3
      simp only [Lib.spansFromP] at this
      exact this
theorem fields_data {p : Nat → Bool} {q : UInt8 → Bool} (hq : ∀ b : UInt8, q b = (decide (b.toNat < 128) && p b.toNat)) (hp : ∀ r, 128 ≤ r → p r = false) (s : ByteArray) :
    (Lib.goFieldsP p s).map (·.data.toList) = fldB q s.data.toList [] := by
  have := spans_fld hq hp s _ rfl (Lib.size_eq s) s.size 0 none [] (Nat.zero_le _) (by omega) (fun a h => by cases h)
  simp only [List.map_nil, List.nil_append, List.drop_zero] at this
  rw [← this]
  unfold Lib.goFieldsP Lib.spansOfP
  rw [List.map_map]
  apply List.map_congr_left
  intro x _
  simp only [Function.comp, spanB, Lib.extract_data, List.drop_take]

/-- .. a contract that gives a row of texts of its own, just as long as it is -/
theorem texts_own {cx : Cx} {f : FuncId} {args : List V} {l : List Bytes} (hc : Callable cx.P f)
    (h : ∀ W G φ xs, OKW cx W G → RepL W G φ args xs → Calls cx.P f xs W fun e W' => ∃ (ss : List ByteArray) (A : Nat), ss.map (·.data.toList) = l ∧ e = .returned (.slice (some ⟨A, 0, none⟩) ss.length ss.length) ∧ W.heap.size ≤ A ∧
      W'.ownsRow W.heap.size 9 1 (.slice (some ⟨A, 0, none⟩) ss.length ss.length) ss.length (ss.map .string) ∧ Below W.heap.size W W') :
    PC cx f args (.sl false 1 (l.map .str), true) := by
  refine .of hc fun W G φ xs hW hxs => (h W G φ xs hW hxs).mono fun e W' => ?_
  rintro ⟨ss, A, rfl, rfl, hA, hown, hB⟩
  obtain ⟨g, cap, he, hb, hlt, hn, hm, hlen, hH⟩ := Lib.holds_of_ownsRow (enc := Value.string) (zs := ss) hown (by simp)
  cases he
  refine ⟨fun b => if b = A then ss.length else G b, _, rfl, hB, fun b hb => if_neg (by omega), fun b hb => ?_, ?_, fun _ ow q how sz ys b off len cap sp hv hx => ?_⟩
  · dsimp only; rw [if_neg (by omega)]; exact hW.Gz b (Nat.le_trans hB.size hb)
  · have := Rep.sl (W := W') (G := fun b => if b = A then ss.length else G b) (φ := φ) 1 ((ss.map (·.data.toList)).map V.str) A 0 ss.length (fun k => .string (ss.getD k default)) (by simp) (by simp) (fun x hx => ?_) (fun k hk => ?_) (fun i x j c hi hj => ?_)
    · simpa using this
    · obtain ⟨s, _, rfl⟩ := List.mem_map.1 hx; simp
    · simp at hk
      rw [(hH k (by simpa using hk)).1]
      simp [List.getD, hk, getElem!_pos]
    · simp only [List.map_map, List.getElem?_map, Option.map_eq_some_iff] at hi
      obtain ⟨s, hs, rfl⟩ := hi
      cases j with
      | zero => simp at hj; subst hj; simp [List.getD, hs]; exact .str _ _ rfl
      | succ j => simp at hj
  · cases hx; exact .inl rfl

/-! ### strings.FieldsFunc at blanks and tabs -/
def blankR (r : Nat) : Bool := decide (r = 32) || decide (r = 9)
def blankB (b : UInt8) : Bool := decide (b = 32) || decide (b = 9)
theorem blank_gives (x : Nat) (hx : x ≤ 1114111) (W : World) : Go.Proofs.FnGives Tryd.prog 35 #[] #[Go.Proofs.encR x] (.bool (blankR x)) W := by
  show Calls Tryd.prog 35 #[.int .i32 (x : Int)] W _
  go_enter Tryd.func35, Tryd.ntmps35
  go_wp2
  · rename_i h
    have : x = 32 := by omega
    subst this
    go_ret
    exact ⟨rfl, 0, rfl⟩
  · rename_i h
    go_ret
    refine ⟨?_, 0, rfl⟩
    have e : ((x : Int) == 32 || (x : Int) == 9) = blankR x := by
      unfold blankR
      rw [Bool.eq_iff_iff]; simp; omega
    rw [← e]; rfl
theorem blank_enters (args : Array Value) (w : World) : (callFunc 35 args).run Tryd.prog w = .ok (.enter 35 args) w := Go.Proofs.enters_of Tryd.func35 (by kernel_rfl) rfl args w
theorem blank_hq (b : UInt8) : blankB b = (decide (b.toNat < 128) && blankR b.toNat) := by
  unfold blankB blankR
  rw [Bool.eq_iff_iff]
  simp only [Bool.or_eq_true, decide_eq_true_eq, Bool.and_eq_true]
  constructor
  · rintro (h | h) <;> rw [h] <;> decide
  · rintro ⟨_, h | h⟩
    · left; exact UInt8.toNat_inj.1 (by rw [h]; rfl)
    · right; exact UInt8.toNat_inj.1 (by rw [h]; rfl)
theorem blank_hp (r : Nat) (h : 128 ≤ r) : blankR r = false := by
  unfold blankR
  rw [decide_eq_false (by omega), decide_eq_false (by omega)]; rfl
def g.strings_FieldsFunc_plus_Line_1 (s : Bytes) : Option (List Bytes) := if s.length ≤ 4294967296 then some (fldB blankB s []) else none
theorem fnv_eq {v : V} {f : Nat} (h : v.nf = .fn f []) : v = .fn f [] := by
  obtain ⟨cs, rfl, hc⟩ := nf_fn h
  rw [nfL_nil hc]
def K.strings_FieldsFunc_plus_Line_1 : FC := fc 34 (fun avs => isFn 35 avs[1]?) true (fun (a : Bytes) => [V.str a, V.fn 35 []]) (fun (y : List Bytes) => .sl false 1 (y.map .str)) (fun a => g.strings_FieldsFunc_plus_Line_1 a)
  (fun _ => rfl) (fun y => cleanL_map (fun _ => rfl) y) (fun a b h => V.str.inj (List.cons.inj h).1)
theorem H.strings_FieldsFunc_plus_Line_1 (w : World) (_hw : EnvOK w) : K.strings_FieldsFunc_plus_Line_1.Holds (cxD w) := by
  rintro args y ⟨s, r, ha, hg, rfl⟩
  obtain ⟨u, v, rfl, h1, h2⟩ := nfL_cons ha
  obtain ⟨u', v', rfl, h3, h4⟩ := nfL_cons h2
  obtain rfl := nfL_nil h4
  obtain rfl := nf_str h1
  obtain rfl := fnv_eq h3
  simp only [g.strings_FieldsFunc_plus_Line_1] at hg
  split at hg
  · rename_i hc
    cases hg
    refine ⟨.sl false 1 ((fldB blankB s []).map .str), true, ?_, by show V.sl false 1 (nfL _) = _; rw [nfL_strs], fun _ => .inl rfl⟩
    refine texts_own (callable_of Tryd.func34 (by kernel_rfl) (by kernel_rfl)) fun W G φ xs hW hxs => ?_
    obtain ⟨x, y, rfl, hx, hy⟩ := repL2 hxs
    obtain ⟨t, rfl, rfl⟩ := rep_str hx
    have hy' : y = .func (.func 35) #[] #[] := by
      cases hy with
      | fn f cs zs hl h =>
        have : zs = #[] := by simpa using hl.symm
        rw [this]
    subst hy'
    refine (Tryd.strings_FieldsFunc_runes 35 #[] blank_enters blankR t W (by rw [Lib.size_eq]; exact hc) (fun W' x hx _ => blank_gives x hx W')).mono fun e W' => ?_
    rintro ⟨A, he, hA, hown, hB⟩
    exact ⟨_, A, fields_data blank_hq blank_hp t, he, hA, hown, hB⟩
  · cases hg

/-! ### strings.Join -/
def g.strings_Join (l : List Bytes) (s : Bytes) : Option Bytes :=
  if l.length ≤ 1000000000 ∧ (Lib.join l s).length ≤ 140737488355328 then some (Lib.join l s) else none
def K.strings_Join : FC := fc 61 (fun _ => true) false (fun (a : List Bytes × Bytes) => [V.sl false 1 (a.1.map .str), V.str a.2]) (fun (y : Bytes) => .str y) (fun a => g.strings_Join a.1 a.2)
  (fun l => cleanL_mk (cleanL_map (fun _ => rfl) l.1) rfl) (fun _ => rfl) (fun ⟨a, b⟩ ⟨c, d⟩ h => by
    obtain ⟨h1, h2⟩ := List.cons.inj h
    simp only [V.sl.injEq, true_and] at h1
    have h3 := V.str.inj (List.cons.inj h2).1
    have h4 : a = c := map_inj (fun x y h => V.str.inj h) h1
    simp only at h3
    rw [h4, h3])
theorem H.strings_Join (w : World) (_hw : EnvOK w) : K.strings_Join.Holds (cxD w) := by
  rintro args y ⟨⟨l, s⟩, r, ha, hg, rfl⟩
  obtain ⟨u, v, rfl, h1, h2⟩ := nfL_cons ha
  obtain ⟨u', v', rfl, h3, h4⟩ := nfL_cons h2
  obtain rfl := nfL_nil h4
  obtain rfl := nf_str h3
  simp only [g.strings_Join] at hg
  split at hg
  · rename_i hc
    cases hg
    obtain ⟨nl, rfl⟩ : ∃ nl, u = .sl nl 1 (l.map .str) := by
      obtain ⟨nl, xs, rfl, h3, _⟩ := nf_sl h1
      exact ⟨nl, by rw [nf_strs h3]⟩
    refine ⟨.str _, false, ?_, rfl, fun h => nomatch h⟩
    refine PC.pure (callable_of Tryd.func61 (by kernel_rfl) (by kernel_rfl)) fun W G φ xs hW hxs => ?_
    obtain ⟨x, y, rfl, hx, hy⟩ := repL2 hxs
    obtain ⟨t, rfl, rfl⟩ := rep_str hy
    have hnone : ∀ (a : Option Addr), l = [] → Calls Tryd.prog 61 #[.slice a 0 0, .string t] W fun e W' => ∃ y, e = .returned y ∧ Below W.heap.size W W' ∧ ∀ (W'' : World) (G' : Nat → Nat), Rep W'' G' φ (.str (Lib.join l t.data.toList)) y := by
      rintro a rfl
      refine (Tryd.strings_Join_none a 0 t W).mono fun e W' => ?_
      rintro ⟨rfl, rfl⟩
      exact ⟨_, rfl, .refl _ _, fun _ _ => .str _ _ rfl⟩
    rcases rep_texts hx with ⟨rfl, e⟩ | ⟨a, rfl, e⟩ | ⟨b, off, cap, zs, rfl, hz, hcc, hcells⟩
    · exact hnone none e
    · exact hnone _ e
    · have hlz : zs.length = l.length := by rw [← hz]; simp
      rcases Nat.eq_zero_or_pos zs.length with h0 | h0
      · have e : l = [] := List.eq_nil_of_length_eq_zero (by omega)
        have ez : zs = [] := List.eq_nil_of_length_eq_zero h0
        subst e; subst ez
        refine (Tryd.strings_Join_none _ cap t W).mono fun e W' => ?_
        rintro ⟨rfl, rfl⟩
        exact ⟨_, rfl, .refl _ _, fun _ _ => .str _ _ rfl⟩
      · have hb : b < W.heap.size := by
          have := hcells 0 h0
          rcases Nat.lt_or_ge b W.heap.size with h | h
          · exact h
          · simp [World.cell?, Array.getElem?_eq_none h] at this
        refine (Tryd.strings_Join b off cap zs t W (fun j x hj => ?_) hb (by omega) hcc (by rw [hz]; exact hc.2)).mono fun e W' => ?_
        · rw [hcells j (List.getElem?_eq_some_iff.1 hj).1]; simp [List.getD, hj]
        · rintro ⟨rfl, hB⟩
          exact ⟨_, rfl, hB, fun _ _ => .str _ _ (by rw [hz])⟩
  · cases hg
end Go.Proofs.YtghjeddphkmciaaDoor
/-
  The functions of the program that are read: how many values they take, how objects look that they are given, and what their labels look like. Printed by programs of this seat (wip/y/tool.lean, asm.py).
-/
namespace Go.Proofs.YtghjeddphkmciaaDoor
open Go.Abs

def tabs0 : List FE := [
  ⟨5, 5, false, 2, ⟨0, [], [], 0⟩, none, [(15, ⟨3, [(0, .at (.n 0 false false)), (1, .at (.n 1 false false)), (39, .at (.n 2 false true))], [], 0⟩), (26, ⟨8, [(1, .at (.n 0 false false)), (5, .at (.n 1 false true)), (6, .at (.n 2 false true)), (7, .at (.n 3 false true)), (8, .at (.n 4 false true)), (40, .at (.n 5 false false)), (41, .at (.n 6 false true)), (42, .at (.n 7 false true))], [], 0⟩), (68, ⟨8, [(1, .at (.n 0 false false)), (11, .at (.n 1 false false)), (12, .at (.n 2 false false)), (13, .at (.n 3 false false)), (14, .at (.n 4 false false)), (15, .at (.n 5 false false)), (16, .at (.n 6 false false)), (114, .at (.n 7 false true))], [], 0⟩), (71, ⟨1, [(4, .at (.n 0 false true))], [], 0⟩)]⟩,
  ⟨15, 15, false, 2, ⟨0, [], [], 0⟩, none, [(16, ⟨4, [(0, .at (.n 0 false false)), (1, .at (.n 1 false false)), (12, .at (.n 2 false true)), (13, .at (.n 3 false true))], [], 0⟩)]⟩,
  ⟨20, 20, false, 1, ⟨0, [], [], 0⟩, none, []⟩,
  ⟨30, 30, false, 2, ⟨0, [], [], 0⟩, none, []⟩,
  ⟨35, 35, false, 1, ⟨0, [], [], 0⟩, none, []⟩,
  ⟨40, 40, false, 1, ⟨0, [], [], 0⟩, none, []⟩,
  ⟨55, 55, false, 2, ⟨0, [], [], 0⟩, none, []⟩,
  ⟨60, 60, false, 2, ⟨0, [], [], 0⟩, none, [(10, ⟨6, [(0, .at (.n 0 false false)), (1, .at (.n 1 false false)), (5, .at (.n 2 false false)), (12, .at (.n 3 false true)), (13, .at (.n 4 false true)), (14, .at (.n 5 false true))], [], 0⟩)]⟩,
  ⟨65, 65, false, 2, ⟨0, [], [], 0⟩, none, []⟩,
  ⟨80, 80, false, 1, ⟨0, [], [], 0⟩, none, []⟩,
  ⟨6, 6, false, 2, ⟨0, [], [], 0⟩, none, [(18, ⟨6, [(0, .at (.n 0 false false)), (1, .at (.n 1 false false)), (5, .at (.n 2 false true)), (19, .at (.n 3 false false)), (20, .at (.n 4 false true)), (21, .at (.n 5 false true))], [], 0⟩), (63, ⟨6, [(1, .at (.n 0 false false)), (8, .at (.n 1 false false)), (10, .at (.n 2 false false)), (47, .at (.n 3 false false)), (48, .at (.n 4 false true)), (49, .at (.n 5 false true))], [], 0⟩)]⟩,
  ⟨16, 16, true, 1, ⟨0, [], [], 0⟩, none, [(10, ⟨4, [(3, .at (.n 0 true true)), (9, .at (.n 1 true false)), (10, .at (.n 2 false true)), (11, .at (.n 3 false true))], [], 0⟩), (24, ⟨7, [(3, .at (.n 0 true true)), (9, .at (.n 1 true false)), (10, .at (.n 2 false true)), (11, .at (.n 3 false true)), (16, .at (.n 4 true false)), (17, .at (.n 5 false true)), (18, .at (.n 6 false true))], [], 0⟩)]⟩,
  ⟨21, 21, false, 2, ⟨0, [], [], 0⟩, none, [(8, ⟨4, [(1, .at (.n 0 false false)), (14, .at (.n 1 true false)), (15, .at (.n 2 false true)), (16, .at (.n 3 false true))], [], 0⟩), (25, ⟨8, [(1, .at (.n 0 false false)), (7, .at (.n 1 false true)), (14, .at (.n 2 true false)), (15, .at (.n 3 false true)), (16, .at (.n 4 false true)), (21, .at (.n 5 true false)), (22, .at (.n 6 false true)), (23, .at (.n 7 false true))], [], 0⟩)]⟩,
  ⟨31, 31, false, 1, ⟨0, [], [], 0⟩, none, []⟩,
  ⟨36, 36, false, 3, ⟨0, [], [], 0⟩, none, [(10, ⟨6, [(1, .at (.n 0 false false)), (2, .at (.n 1 false false)), (8, .at (.n 2 true true)), (13, .at (.n 3 false false)), (14, .at (.n 4 false true)), (15, .at (.n 5 false true))], [], 0⟩)]⟩,
  ⟨41, 41, false, 2, ⟨0, [], [], 0⟩, none, []⟩,
  ⟨56, 56, true, 1, ⟨0, [], [], 0⟩, none, [(10, ⟨3, [(0, .at (.n 0 false false)), (3, .at (.n 1 true true)), (4, .at (.n 2 false true))], [], 0⟩), (22, ⟨4, [(0, .at (.n 0 false false)), (3, .at (.n 1 true true)), (4, .at (.n 2 false true)), (5, .at (.n 3 false true))], [], 0⟩), (31, ⟨4, [(0, .at (.n 0 false false)), (3, .at (.n 1 true true)), (4, .at (.n 2 false true)), (5, .at (.n 3 false true))], [], 0⟩), (42, ⟨5, [(0, .at (.n 0 false false)), (3, .at (.n 1 true true)), (4, .at (.n 2 false true)), (5, .at (.n 3 false true)), (57, .at (.n 4 false true))], [], 0⟩), (51, ⟨4, [(0, .at (.n 0 false false)), (3, .at (.n 1 true true)), (4, .at (.n 2 false true)), (5, .at (.n 3 false true))], [], 0⟩)]⟩,
  ⟨66, 66, false, 1, ⟨0, [], [], 0⟩, none, []⟩,
  ⟨86, 86, false, 2, ⟨0, [], [], 0⟩, none, []⟩,
  ⟨12, 12, false, 0, ⟨0, [], [], 0⟩, none, []⟩,
  ⟨17, 17, false, 1, ⟨0, [], [], 0⟩, none, []⟩,
  ⟨32, 32, true, 2, ⟨0, [], [], 0⟩, none, [(12, ⟨5, [(0, .at (.n 0 false false)), (1, .at (.n 1 false false)), (5, .at (.n 2 true true)), (6, .at (.n 3 false true)), (7, .at (.n 4 false true))], [], 0⟩)]⟩,
  ⟨37, 37, false, 1, ⟨0, [], [], 0⟩, none, []⟩,
  ⟨42, 42, false, 1, ⟨0, [], [], 0⟩, none, []⟩,
  ⟨62, 62, false, 1, ⟨0, [], [], 0⟩, none, []⟩,
  ⟨67, 67, false, 1, ⟨0, [], [], 0⟩, none, []⟩,
  ⟨13, 13, false, 1, ⟨0, [], [], 0⟩, none, [(18, ⟨4, [(4, .at (.n 0 true true)), (17, .at (.n 1 true false)), (18, .at (.n 2 false true)), (19, .at (.n 3 false true))], [], 0⟩)]⟩,
  ⟨18, 18, false, 1, ⟨0, [], [], 0⟩, none, []⟩,
  ⟨28, 28, false, 2, ⟨0, [], [], 0⟩, none, []⟩,
  ⟨33, 33, false, 1, ⟨0, [], [], 0⟩, none, [(10, ⟨4, [(4, .at (.n 0 true true)), (7, .at (.n 1 false false)), (8, .at (.n 2 false true)), (9, .at (.n 3 false true))], [], 0⟩)]⟩,
  ⟨43, 43, false, 2, ⟨0, [], [], 0⟩, none, [(8, ⟨4, [(1, .at (.n 0 false false)), (7, .at (.n 1 false false)), (8, .at (.n 2 false true)), (9, .at (.n 3 false true))], [], 0⟩)]⟩,
  ⟨53, 53, false, 2, ⟨0, [], [], 0⟩, none, []⟩,
  ⟨58, 58, false, 1, ⟨0, [], [], 0⟩, none, [(8, ⟨4, [(0, .at (.n 0 false false)), (11, .at (.n 1 true false)), (12, .at (.n 2 false true)), (13, .at (.n 3 false true))], [], 0⟩), (22, ⟨7, [(0, .at (.n 0 false false)), (11, .at (.n 1 true false)), (12, .at (.n 2 false true)), (13, .at (.n 3 false true)), (18, .at (.n 4 true false)), (19, .at (.n 5 false true)), (20, .at (.n 6 false true))], [], 0⟩)]⟩,
  ⟨68, 68, false, 2, ⟨0, [], [], 0⟩, none, [(8, ⟨4, [(0, .at (.n 0 false false)), (1, .at (.n 1 false false)), (7, .at (.n 2 false true)), (8, .at (.n 3 false true))], [], 0⟩)]⟩,
  ⟨103, 103, false, 2, ⟨0, [], [], 0⟩, none, []⟩,
  ⟨4, 4, false, 1, ⟨0, [], [], 0⟩, none, []⟩,
  ⟨14, 14, false, 1, ⟨0, [], [], 0⟩, none, [(18, ⟨4, [(4, .at (.n 0 true true)), (21, .at (.n 1 true false)), (22, .at (.n 2 false true)), (23, .at (.n 3 false true))], [], 0⟩)]⟩,
  ⟨19, 19, false, 2, ⟨0, [], [], 0⟩, none, [(10, ⟨6, [(1, .at (.n 0 false false)), (6, .at (.osx 0 1 1)), (10, .at (.n 2 false false)), (11, .at (.n 3 false true)), (12, .at (.n 4 false true))], [some [.many none (.n 5 false false)]], 0⟩), (26, ⟨9, [(1, .at (.n 0 false false)), (6, .at (.osx 0 1 1)), (8, .at (.n 2 false false)), (9, .at (.n 3 false true)), (10, .at (.n 4 false false)), (11, .at (.n 5 false true)), (12, .at (.n 6 false true)), (18, .at (.n 7 false true))], [some [.many none (.n 8 false false)]], 0⟩)]⟩,
  ⟨59, 59, false, 1, ⟨0, [], [], 0⟩, none, [(10, ⟨4, [(3, .at (.n 0 true true)), (7, .at (.n 1 true false)), (8, .at (.n 2 false true)), (9, .at (.n 3 false true))], [], 0⟩)]⟩,
  ⟨69, 69, false, 1, ⟨0, [], [], 0⟩, none, [(8, ⟨2, [(0, .at (.n 0 false false)), (3, .at (.n 1 false true))], [], 0⟩)]⟩]
def tabs1 : List FE := [
  ⟨89, 89, false, 2, ⟨0, [], [], 0⟩, none, [(8, ⟨4, [(0, .at (.n 0 false false)), (1, .at (.n 1 false false)), (7, .at (.n 2 false true)), (8, .at (.n 3 false true))], [], 0⟩)]⟩,
  ⟨10912, 57, false, 1, ⟨3, [(0, .at (.ptr 0 0))], [some [.one (.n 0 false false), .one (.n 1 true true), .one (.n 2 false true)]], 1⟩, some [⟨4, [.n 0 false true], [some [.one (.n 1 false false), .one (.n 2 true true), .one (.n 3 false true)]]⟩], [(8, ⟨4, [(0, .at (.ptr 0 0)), (3, .at (.n 0 false true))], [some [.one (.n 1 false false), .one (.n 2 true true), .one (.n 3 false true)]], 1⟩)]⟩,
  ⟨10608, 38, false, 1, ⟨4, [(0, .at (.ptr 0 0))], [some [.one (.n 0 false false), .one (.n 1 false true), .one (.n 2 true true), .one (.n 3 false true)]], 1⟩, some [⟨5, [.n 0 false true], [some [.one (.n 1 false false), .one (.n 2 false true), .one (.n 3 true true), .one (.n 4 false true)]]⟩], []⟩,
  ⟨11296, 81, false, 1, ⟨3, [(0, .at (.ptr 0 0))], [some [.one (.n 0 false false), .one (.n 1 true true), .one (.n 2 false true)]], 1⟩, some [⟨4, [.n 0 false true], [some [.one (.n 1 false false), .one (.n 2 true true), .one (.n 3 false true)]]⟩], [(8, ⟨4, [(0, .at (.ptr 0 0)), (3, .at (.n 0 false true))], [some [.one (.n 1 false false), .one (.n 2 true true), .one (.n 3 false true)]], 1⟩)]⟩,
  ⟨11008, 63, false, 3, ⟨5, [(0, .at (.ptr 0 0)), (1, .at (.n 0 false true)), (2, .at (.fp true 64 [(0, 0)]))], [some [.one (.n 1 false false), .one (.n 2 false true), .one (.n 3 true true), .one (.n 4 false true)]], 1⟩, some [⟨5, [.n 0 false true], [some [.one (.n 1 false false), .one (.n 2 false true), .one (.n 3 true true), .one (.n 4 false true)]]⟩], [(16, ⟨5, [(0, .at (.ptr 0 0)), (1, .at (.n 0 false true)), (2, .at (.fp true 64 [(0, 0)]))], [some [.one (.n 1 false false), .one (.n 2 false true), .one (.n 3 true true), .one (.n 4 false true)]], 1⟩)]⟩,
  ⟨11600, 100, false, 1, ⟨3, [(0, .at (.ptr 0 0))], [some [.one (.n 0 false false), .one (.n 1 true true), .one (.n 2 false true)]], 1⟩, some [⟨4, [.n 0 false true], [some [.one (.n 1 false false), .one (.n 2 true true), .one (.n 3 false true)]]⟩], []⟩,
  ⟨11024, 64, false, 1, ⟨4, [(0, .at (.ptr 0 0))], [some [.one (.n 0 false false), .one (.n 1 false true), .one (.n 2 true true), .one (.n 3 false true)]], 1⟩, some [⟨5, [.n 0 false true], [some [.one (.n 1 false false), .one (.n 2 false true), .one (.n 3 true true), .one (.n 4 false true)]]⟩], []⟩,
  ⟨11312, 82, false, 2, ⟨4, [(0, .at (.ptr 0 0)), (1, .at (.n 0 false true))], [some [.one (.n 1 false false), .one (.n 2 true true), .one (.n 3 false true)]], 1⟩, some [⟨4, [.n 0 false true], [some [.one (.n 1 false false), .one (.n 2 true true), .one (.n 3 false true)]]⟩], []⟩,
  ⟨11009, 63, false, 3, ⟨5, [(0, .at (.ptr 0 0)), (1, .at (.n 0 false true)), (2, .at (.fp true 88 [(0, 0)]))], [some [.one (.n 1 false false), .one (.n 2 false true), .one (.n 3 true true), .one (.n 4 false true)]], 1⟩, some [⟨5, [.n 0 false true], [some [.one (.n 1 false false), .one (.n 2 false true), .one (.n 3 true true), .one (.n 4 false true)]]⟩], [(16, ⟨5, [(0, .at (.ptr 0 0)), (1, .at (.n 0 false true)), (2, .at (.fp true 88 [(0, 0)]))], [some [.one (.n 1 false false), .one (.n 2 false true), .one (.n 3 true true), .one (.n 4 false true)]], 1⟩)]⟩,
  ⟨11408, 88, false, 1, ⟨4, [(0, .at (.ptr 0 0))], [some [.one (.n 0 false false), .one (.n 1 false true), .one (.n 2 true true), .one (.n 3 false true)]], 1⟩, some [⟨5, [.n 0 false true], [some [.one (.n 1 false false), .one (.n 2 false true), .one (.n 3 true true), .one (.n 4 false true)]]⟩], []⟩,
  ⟨11392, 87, false, 2, ⟨5, [(0, .at (.ptr 0 0)), (1, .at (.n 0 false true))], [some [.one (.n 1 false false), .one (.n 2 false true), .one (.n 3 true true), .one (.n 4 false true)]], 1⟩, some [⟨5, [.n 0 false true], [some [.one (.n 1 false false), .one (.n 2 false true), .one (.n 3 true true), .one (.n 4 false true)]]⟩], []⟩,
  ⟨10624, 39, false, 1, ⟨4, [(0, .at (.ptr 0 0))], [some [.one (.n 0 false false), .one (.n 1 false true), .one (.n 2 true true), .one (.n 3 false true)]], 1⟩, some [⟨4, [], [some [.one (.n 0 false false), .one (.n 1 false true), .one (.n 2 true true), .one (.n 3 false true)]]⟩], [(3, ⟨4, [(0, .at (.ptr 0 0))], [some [.one (.n 0 false false), .one (.n 1 false true), .one (.n 2 true true), .one (.n 3 false true)]], 1⟩)]⟩,
  ⟨11808, 113, false, 1, ⟨3, [(0, .at (.ptr 0 0))], [some [.one (.n 0 false false), .one (.n 1 true true), .one (.n 2 false true)]], 1⟩, some [⟨4, [.n 0 false true], [some [.one (.n 1 false false), .one (.n 2 true true), .one (.n 3 false true)]]⟩], []⟩,
  ⟨11664, 104, false, 1, ⟨4, [(0, .at (.ptr 0 0))], [some [.one (.n 0 false false), .one (.n 1 false true), .one (.n 2 true true), .one (.n 3 false true)]], 1⟩, some [⟨5, [.n 0 false true], [some [.one (.n 1 false false), .one (.n 2 false true), .one (.n 3 true true), .one (.n 4 false true)]]⟩], [(48, ⟨5, [(0, .at (.ptr 0 0)), (4, .at (.n 0 false true))], [some [.one (.n 1 false false), .one (.n 2 false true), .one (.n 3 true true), .one (.n 4 false true)]], 1⟩)]⟩]
def tabs : List FE := tabs0 ++ tabs1
def extO : Nat → Bool := fun f => [29, 34].any (Nat.beq f)
def gls : Nat → Option (List V) := fun _ => none
def cfg : Cfg := cfgOf tabs extO gls
theorem keys : keysOK tabs = true := by kernel_rfl
noncomputable abbrev vl (e : Nat → List V → Option V) : Gam := val Tryd.prog tabs e cfg
end Go.Proofs.YtghjeddphkmciaaDoor
/-
  What functions of the program come to, over values alone. Printed by programs of this seat (wip/y/tool.lean, asm.py).
-/
namespace Go.Proofs.YtghjeddphkmciaaDoor
open Go.Abs

noncomputable def y.seichelaw14_PlusBlank (Γ : Gam) (v0 v1 : V) : Option V :=
  ca Γ 12 [] fun v2 =>
  pr (.un (.not)) [v2] fun v3 =>
  vif v3 (
    some (.bool false)) (
    pr (.len false) [v0] fun v4 =>
    pr (.bin (.gtr) (.no)) [v4, (.int .i64 10)] fun v5 =>
    vif v5 (
      Γ 5 15 [v0, v1, (.bool true)]) (
      pr (.len false) [v0] fun v6 =>
      pr (.bin (.eql) (.no)) [v6, (.int .i64 0)] fun v7 =>
      vif v7 (
        Γ 5 15 [v0, v1, (.bool true)]) (
        pr (.len false) [v1] fun v8 =>
        pr (.bin (.gtr) (.no)) [v8, (.int .i64 60)] fun v9 =>
        Γ 5 15 [v0, v1, v9])))
theorem w.seichelaw14_PlusBlank (e : Nat → List V → Option V) (v0 v1 : V) : vl e 5 0 [v0, v1] = y.seichelaw14_PlusBlank (vl e) v0 v1 := val_of (by kernel_rfl)
noncomputable def y.seichelaw14_PlusBlank_15 (Γ : Gam) (v0 v1 v2 : V) : Option V :=
  vif v2 (
    some (.bool true)) (
    pr (.len false) [v0] fun v3 =>
    Γ 5 26 [v1, (.str []), (.str [32, 9]), (.str []), (.int .i64 0), v0, v3, (.int .i64 0)])
theorem w.seichelaw14_PlusBlank_15 (e : Nat → List V → Option V) (v0 v1 v2 : V) : vl e 5 15 [v0, v1, v2] = y.seichelaw14_PlusBlank_15 (vl e) v0 v1 v2 := val_of (by kernel_rfl)
noncomputable def y.seichelaw14_PlusBlank_26 (Γ : Gam) (v0 v1 v2 v3 v4 v5 v6 v7 : V) : Option V :=
  pr (.bin (.lss) (.no)) [v7, v6] fun v8 =>
  vif v8 (
    pr (.elem 1) [v5, v7] fun v9 =>
    pr (.ld none 0) [v9] fun v10 =>
    pr (.len true) [v10] fun v11 =>
    pr (.bin (.add) (.no)) [v4, v11] fun v12 =>
    pr (.bin (.gtr) (.no)) [v12, (.int .i64 200)] fun v13 =>
    vif v13 (
      some (.bool true)) (
      ca Γ 16 [v10] fun v14 =>
      pr (.len false) [v14] fun v15 =>
      pr (.bin (.neq) (.no)) [v15, (.int .i64 1)] fun v16 =>
      vif v16 (
        some (.bool true)) (
        ca Γ 16 [v10] fun v17 =>
        pr (.elem 1) [v17, (.int .i64 0)] fun v18 =>
        pr (.ld none 0) [v18] fun v19 =>
        pr (.bin (.neq) (.no)) [v19, v10] fun v20 =>
        vif v20 (
          some (.bool true)) (
          pr (.bin (.gtr) (.no)) [v7, (.int .i64 0)] fun v21 =>
          vif v21 (
            pr (.bin (.add) (.no)) [v1, (.str [32])] fun v22 =>
            pr (.bin (.add) (.no)) [v22, v10] fun v23 =>
            pr (.bin (.add) (.no)) [v2, v10] fun v24 =>
            pr (.bin (.add) (.no)) [v24, (.str [9, 32, 32])] fun v25 =>
            pr (.bin (.add) (.no)) [v10, (.str [32])] fun v26 =>
            pr (.bin (.add) (.no)) [v26, v3] fun v27 =>
            pr (.bin (.add) (.no)) [v7, (.int .i64 1)] fun v28 =>
            Γ 5 26 [v0, v23, v25, v27, v12, v5, v6, v28]) (
            pr (.bin (.add) (.no)) [v1, v10] fun v22 =>
            pr (.bin (.add) (.no)) [v2, v10] fun v23 =>
            pr (.bin (.add) (.no)) [v23, (.str [9, 32, 32])] fun v24 =>
            pr (.bin (.add) (.no)) [v10, (.str [32])] fun v25 =>
            pr (.bin (.add) (.no)) [v25, v3] fun v26 =>
            pr (.bin (.add) (.no)) [v7, (.int .i64 1)] fun v27 =>
            Γ 5 26 [v0, v22, v24, v26, v12, v5, v6, v27]))))) (
    ca Γ 17 [v1] fun v9 =>
    pr (.ext 0) [v9] fun v10 =>
    pr (.ext 1) [v9] fun v11 =>
    ca Γ 17 [v2] fun v12 =>
    pr (.ext 0) [v12] fun v13 =>
    pr (.ext 1) [v12] fun v14 =>
    ca Γ 17 [v3] fun v15 =>
    pr (.ext 0) [v15] fun v16 =>
    pr (.ext 1) [v15] fun v17 =>
    pr (.bin (.neq) (.no)) [v11, v14] fun v18 =>
    vif v18 (
      Γ 5 68 [v0, v10, v11, v13, v14, v16, v17, (.bool true)]) (
      pr (.bin (.neq) (.no)) [v11, v17] fun v19 =>
      vif v19 (
        Γ 5 68 [v0, v10, v11, v13, v14, v16, v17, (.bool true)]) (
        pr (.bin (.neq) (.no)) [v10, v13] fun v20 =>
        vif v20 (
          Γ 5 68 [v0, v10, v11, v13, v14, v16, v17, (.bool true)]) (
          pr (.bin (.neq) (.no)) [v11, (.int .i64 0)] fun v21 =>
          Γ 5 68 [v0, v10, v11, v13, v14, v16, v17, v21]))))
theorem w.seichelaw14_PlusBlank_26 (e : Nat → List V → Option V) (v0 v1 v2 v3 v4 v5 v6 v7 : V) : vl e 5 26 [v0, v1, v2, v3, v4, v5, v6, v7] = y.seichelaw14_PlusBlank_26 (vl e) v0 v1 v2 v3 v4 v5 v6 v7 := val_of (by kernel_rfl)
noncomputable def y.seichelaw14_PlusBlank_68 (Γ : Gam) (v0 v1 v2 v3 v4 v5 v6 v7 : V) : Option V :=
  vif v7 (
    pr (.bin (.eql) (.no)) [v2, v4] fun v8 =>
    vif v8 (
      pr (.bin (.eql) (.no)) [v2, v6] fun v9 =>
      vif v9 (
        pr (.bin (.eql) (.no)) [v1, v3] fun v10 =>
        Γ 5 71 [v10]) (
        Γ 5 71 [(.bool false)])) (
      Γ 5 71 [(.bool false)])) (
    ca Γ 18 [v1] fun v8 =>
    pr (.ext 0) [v8] fun v9 =>
    pr (.ext 1) [v8] fun v10 =>
    ca Γ 18 [v5] fun v11 =>
    pr (.ext 0) [v11] fun v12 =>
    pr (.ext 1) [v11] fun v13 =>
    ca Γ 19 [v9, v0] fun v14 =>
    pr (.ext 0) [v14] fun v15 =>
    pr (.ext 1) [v14] fun v16 =>
    ca Γ 19 [v12, v0] fun v17 =>
    pr (.ext 0) [v17] fun v18 =>
    pr (.ext 1) [v17] fun v19 =>
    pr (.bin (.eql) (.no)) [v16, (.int .i64 0)] fun v20 =>
    vif v20 (
      pr (.bin (.eql) (.no)) [v19, (.int .i64 0)] fun v21 =>
      vif v21 (
        pr (.bin (.eql) (.bool)) [v15, v18] fun v22 =>
        some v22) (
        some (.bool false))) (
      some (.bool false)))
theorem w.seichelaw14_PlusBlank_68 (e : Nat → List V → Option V) (v0 v1 v2 v3 v4 v5 v6 v7 : V) : vl e 5 68 [v0, v1, v2, v3, v4, v5, v6, v7] = y.seichelaw14_PlusBlank_68 (vl e) v0 v1 v2 v3 v4 v5 v6 v7 := val_of (by kernel_rfl)
noncomputable def y.seichelaw14_PlusBlank_71 (Γ : Gam) (v0 : V) : Option V :=
  some v0
theorem w.seichelaw14_PlusBlank_71 (e : Nat → List V → Option V) (v0 : V) : vl e 5 71 [v0] = y.seichelaw14_PlusBlank_71 (vl e) v0 := val_of (by kernel_rfl)
noncomputable def y.seicheref01_Same (Γ : Gam) (v0 v1 : V) : Option V :=
  pr (.len false) [v0] fun v2 =>
  pr (.len false) [v1] fun v3 =>
  pr (.bin (.neq) (.no)) [v2, v3] fun v4 =>
  vif v4 (
    some (.bool false)) (
    pr (.len false) [v0] fun v5 =>
    Γ 15 16 [v0, v1, v5, (.int .i64 0)])
theorem w.seicheref01_Same (e : Nat → List V → Option V) (v0 v1 : V) : vl e 15 0 [v0, v1] = y.seicheref01_Same (vl e) v0 v1 := val_of (by kernel_rfl)
noncomputable def y.seicheref01_Same_16 (Γ : Gam) (v0 v1 v2 v3 : V) : Option V :=
  pr (.bin (.lss) (.no)) [v3, v2] fun v4 =>
  vif v4 (
    pr (.elem 1) [v0, v3] fun v5 =>
    pr (.ld none 0) [v5] fun v6 =>
    pr (.elem 1) [v1, v3] fun v7 =>
    pr (.ld none 0) [v7] fun v8 =>
    pr (.bin (.neq) (.no)) [v6, v8] fun v9 =>
    vif v9 (
      some (.bool false)) (
      pr (.bin (.add) (.no)) [v3, (.int .i64 1)] fun v10 =>
      Γ 15 16 [v0, v1, v2, v10])) (
    some (.bool true))
theorem w.seicheref01_Same_16 (e : Nat → List V → Option V) (v0 v1 v2 v3 : V) : vl e 15 16 [v0, v1, v2, v3] = y.seicheref01_Same_16 (vl e) v0 v1 v2 v3 := val_of (by kernel_rfl)
noncomputable def y.plus_Lines (Γ : Gam) (v0 : V) : Option V :=
  pr (.len false) [v0] fun v1 =>
  pr (.bin (.eql) (.no)) [v1, (.int .i64 0)] fun v2 =>
  vif v2 (
    some (.tup [(.str []), (.int .i64 4)])) (
    ca Γ 36 [v0, (.str [32, 38, 38, 32]), (.fn 17 [])] fun v3 =>
    pr (.ext 0) [v3] fun v4 =>
    pr (.ext 1) [v3] fun v5 =>
    some (.tup [v4, v5]))
theorem w.plus_Lines (e : Nat → List V → Option V) (v0 : V) : vl e 20 0 [v0] = y.plus_Lines (vl e) v0 := val_of (by kernel_rfl)
noncomputable def y.strings_TrimPrefix (Γ : Gam) (v0 v1 : V) : Option V :=
  ca Γ 55 [v0, v1] fun v2 =>
  some v2
theorem w.strings_TrimPrefix (e : Nat → List V → Option V) (v0 v1 : V) : vl e 30 0 [v0, v1] = y.strings_TrimPrefix (vl e) v0 v1 := val_of (by kernel_rfl)
noncomputable def y.plus_Line_1 (Γ : Gam) (v0 : V) : Option V :=
  pr (.bin (.eql) (.no)) [v0, (.int .i32 32)] fun v1 =>
  vif v1 (
    some (.bool true)) (
    pr (.bin (.eql) (.no)) [v0, (.int .i32 9)] fun v2 =>
    some v2)
theorem w.plus_Line_1 (e : Nat → List V → Option V) (v0 : V) : vl e 35 0 [v0] = y.plus_Line_1 (vl e) v0 := val_of (by kernel_rfl)
noncomputable def y.expr_Tag (Γ : Gam) (v0 : V) : Option V :=
  pr (.bin (.neq) (.no)) [v0, (.str [])] fun v1 =>
  vif v1 (
    pr .s2b [v0] fun v2 =>
    ca Γ 65 [v2, (.fn 66 [])] fun v3 =>
    pr (.un (.not)) [v3] fun v4 =>
    some v4) (
    some (.bool false))
theorem w.expr_Tag (e : Nat → List V → Option V) (v0 : V) : vl e 40 0 [v0] = y.expr_Tag (vl e) v0 := val_of (by kernel_rfl)
noncomputable def y.internal_stringslite_TrimPrefix (Γ : Gam) (v0 v1 : V) : Option V :=
  ca Γ 53 [v0, v1] fun v2 =>
  vif v2 (
    pr (.len true) [v1] fun v3 =>
    pr (.sls true false) [v0, v3] fun v4 =>
    some v4) (
    some v0)
theorem w.internal_stringslite_TrimPrefix (e : Nat → List V → Option V) (v0 v1 : V) : vl e 55 0 [v0, v1] = y.internal_stringslite_TrimPrefix (vl e) v0 v1 := val_of (by kernel_rfl)
noncomputable def y.seicheref14_wrap (Γ : Gam) (v0 v1 : V) : Option V :=
  pr (.elem 1) [v0, (.int .i64 0)] fun v2 =>
  pr (.ld none 0) [v2] fun v3 =>
  pr (.slc 1 true false false) [v0, (.int .i64 1)] fun v4 =>
  pr (.len false) [v4] fun v5 =>
  Γ 60 10 [v0, v1, v3, v4, v5, (.int .i64 0)]
theorem w.seicheref14_wrap (e : Nat → List V → Option V) (v0 v1 : V) : vl e 60 0 [v0, v1] = y.seicheref14_wrap (vl e) v0 v1 := val_of (by kernel_rfl)
noncomputable def y.seicheref14_wrap_10 (Γ : Gam) (v0 v1 v2 v3 v4 v5 : V) : Option V :=
  pr (.bin (.lss) (.no)) [v5, v4] fun v6 =>
  vif v6 (
    pr (.elem 1) [v3, v5] fun v7 =>
    pr (.ld none 0) [v7] fun v8 =>
    pr (.bin (.add) (.no)) [v2, v1] fun v9 =>
    pr (.bin (.add) (.no)) [v9, v8] fun v10 =>
    pr (.bin (.add) (.no)) [v5, (.int .i64 1)] fun v11 =>
    Γ 60 10 [v0, v1, v10, v3, v4, v11]) (
    pr (.len false) [v0] fun v7 =>
    pr (.bin (.gtr) (.no)) [v7, (.int .i64 1)] fun v8 =>
    vif v8 (
      pr (.bin (.add) (.no)) [(.str [40]), v2] fun v9 =>
      pr (.bin (.add) (.no)) [v9, (.str [41])] fun v10 =>
      some v10) (
      some v2))
theorem w.seicheref14_wrap_10 (e : Nat → List V → Option V) (v0 v1 v2 v3 v4 v5 : V) : vl e 60 10 [v0, v1, v2, v3, v4, v5] = y.seicheref14_wrap_10 (vl e) v0 v1 v2 v3 v4 v5 := val_of (by kernel_rfl)
noncomputable def y.slices_ContainsFunc_Lbyte_byte (Γ : Gam) (v0 v1 : V) : Option V :=
  ca Γ 89 [v0, v1] fun v2 =>
  pr (.bin (.geq) (.no)) [v2, (.int .i64 0)] fun v3 =>
  some v3
theorem w.slices_ContainsFunc_Lbyte_byte (e : Nat → List V → Option V) (v0 v1 : V) : vl e 65 0 [v0, v1] = y.slices_ContainsFunc_Lbyte_byte (vl e) v0 v1 := val_of (by kernel_rfl)
noncomputable def y.seicheref13_Sign (Γ : Gam) (v0 : V) : Option V :=
  pr (.bin (.geq) (.no)) [v0, (.int .u8 97)] fun v1 =>
  vif v1 (
    pr (.bin (.leq) (.no)) [v0, (.int .u8 122)] fun v2 =>
    vif v2 (
      some (.bool true)) (
      pr (.bin (.geq) (.no)) [v0, (.int .u8 65)] fun v3 =>
      vif v3 (
        pr (.bin (.leq) (.no)) [v0, (.int .u8 90)] fun v4 =>
        vif v4 (
          some (.bool true)) (
          pr (.bin (.geq) (.no)) [v0, (.int .u8 48)] fun v5 =>
          vif v5 (
            pr (.bin (.leq) (.no)) [v0, (.int .u8 57)] fun v6 =>
            vif v6 (
              some (.bool true)) (
              pr (.bin (.eql) (.no)) [v0, (.int .u8 95)] fun v7 =>
              vif v7 (
                some (.bool true)) (
                pr (.bin (.eql) (.no)) [v0, (.int .u8 46)] fun v8 =>
                some v8))) (
            pr (.bin (.eql) (.no)) [v0, (.int .u8 95)] fun v6 =>
            vif v6 (
              some (.bool true)) (
              pr (.bin (.eql) (.no)) [v0, (.int .u8 46)] fun v7 =>
              some v7)))) (
        pr (.bin (.geq) (.no)) [v0, (.int .u8 48)] fun v4 =>
        vif v4 (
          pr (.bin (.leq) (.no)) [v0, (.int .u8 57)] fun v5 =>
          vif v5 (
            some (.bool true)) (
            pr (.bin (.eql) (.no)) [v0, (.int .u8 95)] fun v6 =>
            vif v6 (
              some (.bool true)) (
              pr (.bin (.eql) (.no)) [v0, (.int .u8 46)] fun v7 =>
              some v7))) (
          pr (.bin (.eql) (.no)) [v0, (.int .u8 95)] fun v5 =>
          vif v5 (
            some (.bool true)) (
            pr (.bin (.eql) (.no)) [v0, (.int .u8 46)] fun v6 =>
            some v6))))) (
    pr (.bin (.geq) (.no)) [v0, (.int .u8 65)] fun v2 =>
    vif v2 (
      pr (.bin (.leq) (.no)) [v0, (.int .u8 90)] fun v3 =>
      vif v3 (
        some (.bool true)) (
        pr (.bin (.geq) (.no)) [v0, (.int .u8 48)] fun v4 =>
        vif v4 (
          pr (.bin (.leq) (.no)) [v0, (.int .u8 57)] fun v5 =>
          vif v5 (
            some (.bool true)) (
            pr (.bin (.eql) (.no)) [v0, (.int .u8 95)] fun v6 =>
            vif v6 (
              some (.bool true)) (
              pr (.bin (.eql) (.no)) [v0, (.int .u8 46)] fun v7 =>
              some v7))) (
          pr (.bin (.eql) (.no)) [v0, (.int .u8 95)] fun v5 =>
          vif v5 (
            some (.bool true)) (
            pr (.bin (.eql) (.no)) [v0, (.int .u8 46)] fun v6 =>
            some v6)))) (
      pr (.bin (.geq) (.no)) [v0, (.int .u8 48)] fun v3 =>
      vif v3 (
        pr (.bin (.leq) (.no)) [v0, (.int .u8 57)] fun v4 =>
        vif v4 (
          some (.bool true)) (
          pr (.bin (.eql) (.no)) [v0, (.int .u8 95)] fun v5 =>
          vif v5 (
            some (.bool true)) (
            pr (.bin (.eql) (.no)) [v0, (.int .u8 46)] fun v6 =>
            some v6))) (
        pr (.bin (.eql) (.no)) [v0, (.int .u8 95)] fun v4 =>
        vif v4 (
          some (.bool true)) (
          pr (.bin (.eql) (.no)) [v0, (.int .u8 46)] fun v5 =>
          some v5))))
theorem w.seicheref13_Sign (e : Nat → List V → Option V) (v0 : V) : vl e 80 0 [v0] = y.seicheref13_Sign (vl e) v0 := val_of (by kernel_rfl)
noncomputable def y.seichelaw14_PlusMeans (Γ : Gam) (v0 v1 : V) : Option V :=
  ca Γ 12 [] fun v2 =>
  pr (.un (.not)) [v2] fun v3 =>
  vif v3 (
    some (.bool false)) (
    pr (.len false) [v0] fun v4 =>
    Γ 6 18 [v0, v1, (.int .i64 0), v0, v4, (.int .i64 0)])
theorem w.seichelaw14_PlusMeans (e : Nat → List V → Option V) (v0 v1 : V) : vl e 6 0 [v0, v1] = y.seichelaw14_PlusMeans (vl e) v0 v1 := val_of (by kernel_rfl)
noncomputable def y.seichelaw14_PlusMeans_18 (Γ : Gam) (v0 v1 v2 v3 v4 v5 : V) : Option V :=
  pr (.bin (.lss) (.no)) [v5, v4] fun v6 =>
  vif v6 (
    pr (.elem 1) [v3, v5] fun v7 =>
    pr (.ld none 0) [v7] fun v8 =>
    pr (.len true) [v8] fun v9 =>
    pr (.bin (.add) (.no)) [v2, v9] fun v10 =>
    pr (.bin (.gtr) (.no)) [v10, (.int .i64 200)] fun v11 =>
    vif v11 (
      some (.bool true)) (
      pr (.len false) [v0] fun v12 =>
      pr (.bin (.gtr) (.no)) [v12, (.int .i64 20)] fun v13 =>
      vif v13 (
        some (.bool true)) (
        pr (.bin (.add) (.no)) [v5, (.int .i64 1)] fun v14 =>
        Γ 6 18 [v0, v1, v10, v3, v4, v14]))) (
    pr (.len false) [v1] fun v7 =>
    pr (.bin (.gtr) (.no)) [v7, (.int .i64 60)] fun v8 =>
    vif v8 (
      some (.bool true)) (
      ca Γ 20 [v0] fun v9 =>
      pr (.ext 0) [v9] fun v10 =>
      pr (.ext 1) [v9] fun v11 =>
      pr (.bin (.neq) (.no)) [v11, (.int .i64 0)] fun v12 =>
      vif v12 (
        some (.bool true)) (
        pr (.len false) [v0] fun v13 =>
        Γ 6 63 [v1, v10, (.bool true), v0, v13, (.int .i64 0)])))
theorem w.seichelaw14_PlusMeans_18 (e : Nat → List V → Option V) (v0 v1 v2 v3 v4 v5 : V) : vl e 6 18 [v0, v1, v2, v3, v4, v5] = y.seichelaw14_PlusMeans_18 (vl e) v0 v1 v2 v3 v4 v5 := val_of (by kernel_rfl)
noncomputable def y.seichelaw14_PlusMeans_63 (Γ : Gam) (v0 v1 v2 v3 v4 v5 : V) : Option V :=
  pr (.bin (.lss) (.no)) [v5, v4] fun v6 =>
  vif v6 (
    pr (.elem 1) [v3, v5] fun v7 =>
    pr (.ld none 0) [v7] fun v8 =>
    vif v2 (
      ca Γ 21 [v8, v0] fun v9 =>
      pr (.bin (.add) (.no)) [v5, (.int .i64 1)] fun v10 =>
      Γ 6 63 [v0, v1, v9, v3, v4, v10]) (
      pr (.bin (.add) (.no)) [v5, (.int .i64 1)] fun v9 =>
      Γ 6 63 [v0, v1, (.bool false), v3, v4, v9])) (
    ca Γ 18 [v1] fun v7 =>
    pr (.ext 0) [v7] fun v8 =>
    pr (.ext 1) [v7] fun v9 =>
    ca Γ 19 [v8, v0] fun v10 =>
    pr (.ext 0) [v10] fun v11 =>
    pr (.ext 1) [v10] fun v12 =>
    pr (.bin (.eql) (.no)) [v9, (.int .i64 0)] fun v13 =>
    vif v13 (
      pr (.bin (.eql) (.no)) [v12, (.int .i64 0)] fun v14 =>
      vif v14 (
        pr (.bin (.eql) (.bool)) [v11, v2] fun v15 =>
        some v15) (
        some (.bool false))) (
      some (.bool false)))
theorem w.seichelaw14_PlusMeans_63 (e : Nat → List V → Option V) (v0 v1 v2 v3 v4 v5 : V) : vl e 6 63 [v0, v1, v2, v3, v4, v5] = y.seichelaw14_PlusMeans_63 (vl e) v0 v1 v2 v3 v4 v5 := val_of (by kernel_rfl)
noncomputable def y.seicheref14_Words (Γ : Gam) (v0 : V) : Option V :=
  ca Γ 32 [v0, (.int .u8 32)] fun v1 =>
  pr (.len false) [v1] fun v2 =>
  Γ 16 10 [(.sl false 1 []), v1, v2, (.int .i64 0)]
theorem w.seicheref14_Words (e : Nat → List V → Option V) (v0 : V) : vl e 16 0 [v0] = y.seicheref14_Words (vl e) v0 := val_of (by kernel_rfl)
noncomputable def y.seicheref14_Words_10 (Γ : Gam) (v0 v1 v2 v3 : V) : Option V :=
  pr (.bin (.lss) (.no)) [v3, v2] fun v4 =>
  vif v4 (
    pr (.elem 1) [v1, v3] fun v5 =>
    pr (.ld none 0) [v5] fun v6 =>
    ca Γ 32 [v6, (.int .u8 9)] fun v7 =>
    pr (.len false) [v7] fun v8 =>
    Γ 16 24 [v0, v1, v2, v3, v7, v8, (.int .i64 0)]) (
    some v0)
theorem w.seicheref14_Words_10 (e : Nat → List V → Option V) (v0 v1 v2 v3 : V) : vl e 16 10 [v0, v1, v2, v3] = y.seicheref14_Words_10 (vl e) v0 v1 v2 v3 := val_of (by kernel_rfl)
noncomputable def y.seicheref14_Words_24 (Γ : Gam) (v0 v1 v2 v3 v4 v5 v6 : V) : Option V :=
  pr (.bin (.lss) (.no)) [v6, v5] fun v7 =>
  vif v7 (
    pr (.elem 1) [v4, v6] fun v8 =>
    pr (.ld none 0) [v8] fun v9 =>
    pr (.bin (.neq) (.no)) [v9, (.str [])] fun v10 =>
    vif v10 (
      pr (.bsl 1) [v9] fun v11 =>
      pr (.app 1) [v0, v11] fun v12 =>
      pr (.bin (.add) (.no)) [v6, (.int .i64 1)] fun v13 =>
      Γ 16 24 [v12, v1, v2, v3, v4, v5, v13]) (
      pr (.bin (.add) (.no)) [v6, (.int .i64 1)] fun v11 =>
      Γ 16 24 [v0, v1, v2, v3, v4, v5, v11])) (
    pr (.bin (.add) (.no)) [v3, (.int .i64 1)] fun v8 =>
    Γ 16 10 [v0, v1, v2, v8])
theorem w.seicheref14_Words_24 (e : Nat → List V → Option V) (v0 v1 v2 v3 v4 v5 v6 : V) : vl e 16 24 [v0, v1, v2, v3, v4, v5, v6] = y.seicheref14_Words_24 (vl e) v0 v1 v2 v3 v4 v5 v6 := val_of (by kernel_rfl)
noncomputable def y.seicheref14_Holds (Γ : Gam) (v0 v1 : V) : Option V :=
  ca Γ 16 [v0] fun v2 =>
  pr (.len false) [v2] fun v3 =>
  Γ 21 8 [v1, v2, v3, (.int .i64 0)]
theorem w.seicheref14_Holds (e : Nat → List V → Option V) (v0 v1 : V) : vl e 21 0 [v0, v1] = y.seicheref14_Holds (vl e) v0 v1 := val_of (by kernel_rfl)
noncomputable def y.seicheref14_Holds_8 (Γ : Gam) (v0 v1 v2 v3 : V) : Option V :=
  pr (.bin (.lss) (.no)) [v3, v2] fun v4 =>
  vif v4 (
    pr (.elem 1) [v1, v3] fun v5 =>
    pr (.ld none 0) [v5] fun v6 =>
    ca Γ 32 [v6, (.int .u8 44)] fun v7 =>
    pr (.len false) [v7] fun v8 =>
    Γ 21 25 [v0, (.bool true), v1, v2, v3, v7, v8, (.int .i64 0)]) (
    some (.bool false))
theorem w.seicheref14_Holds_8 (e : Nat → List V → Option V) (v0 v1 v2 v3 : V) : vl e 21 8 [v0, v1, v2, v3] = y.seicheref14_Holds_8 (vl e) v0 v1 v2 v3 := val_of (by kernel_rfl)
noncomputable def y.seicheref14_Holds_25 (Γ : Gam) (v0 v1 v2 v3 v4 v5 v6 v7 : V) : Option V :=
  pr (.bin (.lss) (.no)) [v7, v6] fun v8 =>
  vif v8 (
    pr (.elem 1) [v5, v7] fun v9 =>
    pr (.ld none 0) [v9] fun v10 =>
    ca Γ 42 [v10] fun v11 =>
    pr (.ext 0) [v11] fun v12 =>
    pr (.ext 1) [v11] fun v13 =>
    pr (.ext 2) [v11] fun v14 =>
    vif v1 (
      ca Γ 43 [v0, v12] fun v15 =>
      pr (.bin (.neq) (.bool)) [v15, v13] fun v16 =>
      pr (.bin (.add) (.no)) [v7, (.int .i64 1)] fun v17 =>
      Γ 21 25 [v0, v16, v2, v3, v4, v5, v6, v17]) (
      pr (.bin (.add) (.no)) [v7, (.int .i64 1)] fun v15 =>
      Γ 21 25 [v0, (.bool false), v2, v3, v4, v5, v6, v15])) (
    vif v1 (
      some (.bool true)) (
      pr (.bin (.add) (.no)) [v4, (.int .i64 1)] fun v9 =>
      Γ 21 8 [v0, v2, v3, v9]))
theorem w.seicheref14_Holds_25 (e : Nat → List V → Option V) (v0 v1 v2 v3 v4 v5 v6 v7 : V) : vl e 21 25 [v0, v1, v2, v3, v4, v5, v6, v7] = y.seicheref14_Holds_25 (vl e) v0 v1 v2 v3 v4 v5 v6 v7 := val_of (by kernel_rfl)
noncomputable def y.seicheref13_Parse (Γ : Gam) (v0 : V) : Option V :=
  pr (.len true) [v0] fun v1 =>
  pr (.bin (.gtr) (.no)) [v1, (.int .i64 1024)] fun v2 =>
  vif v2 (
    some (.tup [(.sl false 1 []), (.int .i64 3)])) (
    ca Γ 56 [v0] fun v3 =>
    pr (.cat [none]) [v3] fun v4 =>
    pr (.cat [none, none, none]) [v3, (.sl false 1 []), (.int .i64 0)] fun v5 =>
    ch Γ 10912 [v3, (.sl false 1 []), (.int .i64 0)] fun v6 =>
    pr (.ext 0) [v6] fun v7 =>
    pr (.ext 1) [v6] fun v8 =>
    pr (.ext 2) [v6] fun v9 =>
    pr (.ext 3) [v6] fun v10 =>
    pr (.bin (.eql) (.no)) [v7, (.int .i64 0)] fun v11 =>
    vif v11 (
      pr (.len false) [v8] fun v12 =>
      pr (.bin (.gtr) (.no)) [v12, (.int .i64 0)] fun v13 =>
      vif v13 (
        some (.tup [(.sl false 1 []), (.int .i64 4)])) (
        pr (.bin (.neq) (.no)) [v7, (.int .i64 0)] fun v14 =>
        vif v14 (
          some (.tup [(.sl false 1 []), v7])) (
          some (.tup [v9, (.int .i64 0)])))) (
      pr (.bin (.neq) (.no)) [v7, (.int .i64 0)] fun v12 =>
      vif v12 (
        some (.tup [(.sl false 1 []), v7])) (
        some (.tup [v9, (.int .i64 0)]))))
theorem w.seicheref13_Parse (e : Nat → List V → Option V) (v0 : V) : vl e 31 0 [v0] = y.seicheref13_Parse (vl e) v0 := val_of (by kernel_rfl)
noncomputable def y.plus_joined (Γ : Gam) (v0 v1 v2 : V) : Option V :=
  pr (.len false) [v0] fun v3 =>
  Γ 36 10 [v1, v2, (.sl false 1 []), v0, v3, (.int .i64 0)]
theorem w.plus_joined (e : Nat → List V → Option V) (v0 v1 v2 : V) : vl e 36 0 [v0, v1, v2] = y.plus_joined (vl e) v0 v1 v2 := val_of (by kernel_rfl)
noncomputable def y.plus_joined_10 (Γ : Gam) (v0 v1 v2 v3 v4 v5 : V) : Option V :=
  pr (.bin (.lss) (.no)) [v5, v4] fun v6 =>
  vif v6 (
    pr (.elem 1) [v3, v5] fun v7 =>
    pr (.ld none 0) [v7] fun v8 =>
    cv Γ v1 [v8] fun v9 =>
    pr (.ext 0) [v9] fun v10 =>
    pr (.ext 1) [v9] fun v11 =>
    pr (.bin (.neq) (.no)) [v11, (.int .i64 0)] fun v12 =>
    vif v12 (
      some (.tup [(.str []), v11])) (
      pr (.bsl 1) [v10] fun v13 =>
      pr (.app 1) [v2, v13] fun v14 =>
      pr (.bin (.add) (.no)) [v5, (.int .i64 1)] fun v15 =>
      Γ 36 10 [v0, v1, v14, v3, v4, v15])) (
    pr (.len false) [v2] fun v7 =>
    pr (.bin (.eql) (.no)) [v7, (.int .i64 1)] fun v8 =>
    vif v8 (
      pr (.elem 1) [v2, (.int .i64 0)] fun v9 =>
      pr (.ld none 0) [v9] fun v10 =>
      some (.tup [v10, (.int .i64 0)])) (
      ca Γ 61 [v2, v0] fun v9 =>
      pr (.bin (.add) (.no)) [(.str [40]), v9] fun v10 =>
      pr (.bin (.add) (.no)) [v10, (.str [41])] fun v11 =>
      some (.tup [v11, (.int .i64 0)])))
theorem w.plus_joined_10 (e : Nat → List V → Option V) (v0 v1 v2 v3 v4 v5 : V) : vl e 36 10 [v0, v1, v2, v3, v4, v5] = y.plus_joined_10 (vl e) v0 v1 v2 v3 v4 v5 := val_of (by kernel_rfl)
noncomputable def y.slices_Contains_Lstring_string (Γ : Gam) (v0 v1 : V) : Option V :=
  ca Γ 68 [v0, v1] fun v2 =>
  pr (.bin (.geq) (.no)) [v2, (.int .i64 0)] fun v3 =>
  some v3
theorem w.slices_Contains_Lstring_string (e : Nat → List V → Option V) (v0 v1 : V) : vl e 41 0 [v0, v1] = y.slices_Contains_Lstring_string (vl e) v0 v1 := val_of (by kernel_rfl)
noncomputable def y.seicheref13_Pieces (Γ : Gam) (v0 : V) : Option V :=
  Γ 56 10 [v0, (.sl false 1 []), (.int .i64 0)]
theorem w.seicheref13_Pieces (e : Nat → List V → Option V) (v0 : V) : vl e 56 0 [v0] = y.seicheref13_Pieces (vl e) v0 := val_of (by kernel_rfl)
noncomputable def y.seicheref13_Pieces_10 (Γ : Gam) (v0 v1 v2 : V) : Option V :=
  pr (.len true) [v0] fun v3 =>
  pr (.bin (.lss) (.no)) [v2, v3] fun v4 =>
  vif v4 (
    Γ 56 22 [v0, v1, v2, (.int .i64 0)]) (
    some v1)
theorem w.seicheref13_Pieces_10 (e : Nat → List V → Option V) (v0 v1 v2 : V) : vl e 56 10 [v0, v1, v2] = y.seicheref13_Pieces_10 (vl e) v0 v1 v2 := val_of (by kernel_rfl)
noncomputable def y.seicheref13_Pieces_22 (Γ : Gam) (v0 v1 v2 v3 : V) : Option V :=
  pr (.bin (.add) (.no)) [v2, v3] fun v4 =>
  pr (.len true) [v0] fun v5 =>
  pr (.bin (.lss) (.no)) [v4, v5] fun v6 =>
  vif v6 (
    pr (.bin (.add) (.no)) [v2, v3] fun v7 =>
    pr .idx [v0, v7] fun v8 =>
    ca Γ 80 [v8] fun v9 =>
    vif v9 (
      pr (.bin (.add) (.no)) [v3, (.int .i64 1)] fun v10 =>
      Γ 56 22 [v0, v1, v2, v10]) (
      Γ 56 31 [v0, v1, v2, v3])) (
    Γ 56 31 [v0, v1, v2, v3])
theorem w.seicheref13_Pieces_22 (e : Nat → List V → Option V) (v0 v1 v2 v3 : V) : vl e 56 22 [v0, v1, v2, v3] = y.seicheref13_Pieces_22 (vl e) v0 v1 v2 v3 := val_of (by kernel_rfl)
noncomputable def y.seicheref13_Pieces_31 (Γ : Gam) (v0 v1 v2 v3 : V) : Option V :=
  pr .idx [v0, v2] fun v4 =>
  pr (.bin (.eql) (.no)) [v4, (.int .u8 32)] fun v5 =>
  vif v5 (
    pr (.bin (.add) (.no)) [v2, (.int .i64 1)] fun v6 =>
    Γ 56 10 [v0, v1, v6]) (
    pr .idx [v0, v2] fun v6 =>
    pr (.bin (.eql) (.no)) [v6, (.int .u8 9)] fun v7 =>
    vif v7 (
      pr (.bin (.add) (.no)) [v2, (.int .i64 1)] fun v8 =>
      Γ 56 10 [v0, v1, v8]) (
      pr (.bin (.eql) (.no)) [v3, (.int .i64 0)] fun v8 =>
      vif v8 (
        pr .idx [v0, v2] fun v9 =>
        pr (.bin (.eql) (.no)) [v9, (.int .u8 33)] fun v10 =>
        vif v10 (
          Γ 56 42 [v0, v1, v2, v3, (.bool true)]) (
          pr .idx [v0, v2] fun v11 =>
          pr (.bin (.eql) (.no)) [v11, (.int .u8 40)] fun v12 =>
          vif v12 (
            Γ 56 42 [v0, v1, v2, v3, (.bool true)]) (
            pr .idx [v0, v2] fun v13 =>
            pr (.bin (.eql) (.no)) [v13, (.int .u8 41)] fun v14 =>
            Γ 56 42 [v0, v1, v2, v3, v14]))) (
        Γ 56 42 [v0, v1, v2, v3, (.bool false)])))
theorem w.seicheref13_Pieces_31 (e : Nat → List V → Option V) (v0 v1 v2 v3 : V) : vl e 56 31 [v0, v1, v2, v3] = y.seicheref13_Pieces_31 (vl e) v0 v1 v2 v3 := val_of (by kernel_rfl)
noncomputable def y.seicheref13_Pieces_42 (Γ : Gam) (v0 v1 v2 v3 v4 : V) : Option V :=
  vif v4 (
    Γ 56 51 [v0, v1, v2, (.int .i64 1)]) (
    pr (.bin (.eql) (.no)) [v3, (.int .i64 0)] fun v5 =>
    vif v5 (
      pr (.len true) [v0] fun v6 =>
      pr (.bin (.sub) (.no)) [v6, (.int .i64 1)] fun v7 =>
      pr (.bin (.lss) (.no)) [v2, v7] fun v8 =>
      vif v8 (
        pr (.bin (.add) (.no)) [v2, (.int .i64 2)] fun v9 =>
        pr (.sls true true) [v0, v2, v9] fun v10 =>
        pr (.bin (.eql) (.no)) [v10, (.str [38, 38])] fun v11 =>
        vif v11 (
          Γ 56 51 [v0, v1, v2, (.int .i64 2)]) (
          pr (.bin (.add) (.no)) [v2, (.int .i64 2)] fun v12 =>
          pr (.sls true true) [v0, v2, v12] fun v13 =>
          pr (.bin (.eql) (.no)) [v13, (.str [124, 124])] fun v14 =>
          vif v14 (
            Γ 56 51 [v0, v1, v2, (.int .i64 2)]) (
            Γ 56 51 [v0, v1, v2, v3]))) (
        Γ 56 51 [v0, v1, v2, v3])) (
      Γ 56 51 [v0, v1, v2, v3]))
theorem w.seicheref13_Pieces_42 (e : Nat → List V → Option V) (v0 v1 v2 v3 v4 : V) : vl e 56 42 [v0, v1, v2, v3, v4] = y.seicheref13_Pieces_42 (vl e) v0 v1 v2 v3 v4 := val_of (by kernel_rfl)
noncomputable def y.seicheref13_Pieces_51 (Γ : Gam) (v0 v1 v2 v3 : V) : Option V :=
  pr (.bin (.eql) (.no)) [v3, (.int .i64 0)] fun v4 =>
  vif v4 (
    pr (.bsl 1) [(.str [])] fun v5 =>
    pr (.app 1) [v1, v5] fun v6 =>
    some v6) (
    pr (.bin (.add) (.no)) [v2, v3] fun v5 =>
    pr (.sls true true) [v0, v2, v5] fun v6 =>
    pr (.bsl 1) [v6] fun v7 =>
    pr (.app 1) [v1, v7] fun v8 =>
    pr (.bin (.add) (.no)) [v2, v3] fun v9 =>
    Γ 56 10 [v0, v8, v9])
theorem w.seicheref13_Pieces_51 (e : Nat → List V → Option V) (v0 v1 v2 v3 : V) : vl e 56 51 [v0, v1, v2, v3] = y.seicheref13_Pieces_51 (vl e) v0 v1 v2 v3 := val_of (by kernel_rfl)
noncomputable def y.expr_Tag_1 (Γ : Gam) (v0 : V) : Option V :=
  ca Γ 67 [v0] fun v1 =>
  pr (.un (.not)) [v1] fun v2 =>
  some v2
theorem w.expr_Tag_1 (e : Nat → List V → Option V) (v0 : V) : vl e 66 0 [v0] = y.expr_Tag_1 (vl e) v0 := val_of (by kernel_rfl)
noncomputable def y.strings_CutPrefix (Γ : Gam) (v0 v1 : V) : Option V :=
  ca Γ 103 [v0, v1] fun v2 =>
  pr (.ext 0) [v2] fun v3 =>
  pr (.ext 1) [v2] fun v4 =>
  some (.tup [v3, v4])
theorem w.strings_CutPrefix (e : Nat → List V → Option V) (v0 v1 : V) : vl e 86 0 [v0, v1] = y.strings_CutPrefix (vl e) v0 v1 := val_of (by kernel_rfl)
noncomputable def y.seichelaw14_alive (Γ : Gam) : Option V :=
  ca Γ 17 [(.str [97, 44, 33, 98, 32, 99])] fun v0 =>
  pr (.ext 0) [v0] fun v1 =>
  pr (.ext 1) [v0] fun v2 =>
  pr (.bin (.eql) (.no)) [v2, (.int .i64 0)] fun v3 =>
  vif v3 (
    pr (.bin (.eql) (.no)) [v1, (.str [40, 40, 97, 32, 38, 38, 32, 33, 98, 41, 32, 124, 124, 32, 99, 41])] fun v4 =>
    some v4) (
    some (.bool false))
theorem w.seichelaw14_alive (e : Nat → List V → Option V) : vl e 12 0 [] = y.seichelaw14_alive (vl e) := val_of (by kernel_rfl)
noncomputable def y.plus_Line (Γ : Gam) (v0 : V) : Option V :=
  ca Γ 34 [v0, (.fn 35 [])] fun v1 =>
  pr (.len false) [v1] fun v2 =>
  pr (.bin (.eql) (.no)) [v2, (.int .i64 0)] fun v3 =>
  vif v3 (
    some (.tup [(.str []), (.int .i64 4)])) (
    ca Γ 36 [v1, (.str [32, 124, 124, 32]), (.fn 37 [])] fun v4 =>
    pr (.ext 0) [v4] fun v5 =>
    pr (.ext 1) [v4] fun v6 =>
    some (.tup [v5, v6]))
theorem w.plus_Line (e : Nat → List V → Option V) (v0 : V) : vl e 17 0 [v0] = y.plus_Line (vl e) v0 := val_of (by kernel_rfl)
noncomputable def y.seicheref14_Cut (Γ : Gam) (v0 v1 : V) : Option V :=
  Γ 32 12 [v0, v1, (.sl false 1 []), (.int .i64 0), (.int .i64 0)]
theorem w.seicheref14_Cut (e : Nat → List V → Option V) (v0 v1 : V) : vl e 32 0 [v0, v1] = y.seicheref14_Cut (vl e) v0 v1 := val_of (by kernel_rfl)
noncomputable def y.seicheref14_Cut_12 (Γ : Gam) (v0 v1 v2 v3 v4 : V) : Option V :=
  pr (.len true) [v0] fun v5 =>
  pr (.bin (.leq) (.no)) [v4, v5] fun v6 =>
  vif v6 (
    pr (.len true) [v0] fun v7 =>
    pr (.bin (.eql) (.no)) [v4, v7] fun v8 =>
    vif v8 (
      pr (.sls true true) [v0, v3, v4] fun v9 =>
      pr (.bsl 1) [v9] fun v10 =>
      pr (.app 1) [v2, v10] fun v11 =>
      pr (.bin (.add) (.no)) [v4, (.int .i64 1)] fun v12 =>
      pr (.bin (.add) (.no)) [v4, (.int .i64 1)] fun v13 =>
      Γ 32 12 [v0, v1, v11, v12, v13]) (
      pr .idx [v0, v4] fun v9 =>
      pr (.bin (.eql) (.no)) [v9, v1] fun v10 =>
      vif v10 (
        pr (.sls true true) [v0, v3, v4] fun v11 =>
        pr (.bsl 1) [v11] fun v12 =>
        pr (.app 1) [v2, v12] fun v13 =>
        pr (.bin (.add) (.no)) [v4, (.int .i64 1)] fun v14 =>
        pr (.bin (.add) (.no)) [v4, (.int .i64 1)] fun v15 =>
        Γ 32 12 [v0, v1, v13, v14, v15]) (
        pr (.bin (.add) (.no)) [v4, (.int .i64 1)] fun v11 =>
        Γ 32 12 [v0, v1, v2, v3, v11]))) (
    some v2)
theorem w.seicheref14_Cut_12 (e : Nat → List V → Option V) (v0 v1 v2 v3 v4 : V) : vl e 32 12 [v0, v1, v2, v3, v4] = y.seicheref14_Cut_12 (vl e) v0 v1 v2 v3 v4 := val_of (by kernel_rfl)
noncomputable def y.plus_option (Γ : Gam) (v0 : V) : Option V :=
  ca Γ 29 [v0, (.str [44])] fun v1 =>
  ca Γ 36 [v1, (.str [32, 38, 38, 32]), (.fn 62 [])] fun v2 =>
  pr (.ext 0) [v2] fun v3 =>
  pr (.ext 1) [v2] fun v4 =>
  some (.tup [v3, v4])
theorem w.plus_option (e : Nat → List V → Option V) (v0 : V) : vl e 37 0 [v0] = y.plus_option (vl e) v0 := val_of (by kernel_rfl)
noncomputable def y.seicheref14_Term (Γ : Gam) (v0 : V) : Option V :=
  pr (.len true) [v0] fun v1 =>
  pr (.bin (.gtr) (.no)) [v1, (.int .i64 0)] fun v2 =>
  vif v2 (
    pr .idx [v0, (.int .i64 0)] fun v3 =>
    pr (.bin (.eql) (.no)) [v3, (.int .u8 33)] fun v4 =>
    vif v4 (
      pr (.sls true false) [v0, (.int .i64 1)] fun v5 =>
      ca Γ 69 [v5] fun v6 =>
      some (.tup [v5, (.bool true), v6])) (
      ca Γ 69 [v0] fun v5 =>
      some (.tup [v0, (.bool false), v5]))) (
    ca Γ 69 [v0] fun v3 =>
    some (.tup [v0, (.bool false), v3]))
theorem w.seicheref14_Term (e : Nat → List V → Option V) (v0 : V) : vl e 42 0 [v0] = y.seicheref14_Term (vl e) v0 := val_of (by kernel_rfl)
noncomputable def y.plus_term (Γ : Gam) (v0 : V) : Option V :=
  ca Γ 86 [v0, (.str [33])] fun v1 =>
  pr (.ext 0) [v1] fun v2 =>
  pr (.ext 1) [v1] fun v3 =>
  ca Γ 40 [v2] fun v4 =>
  pr (.un (.not)) [v4] fun v5 =>
  vif v5 (
    some (.tup [(.str []), (.int .i64 4)])) (
    vif v3 (
      pr (.bin (.add) (.no)) [(.str [33]), v2] fun v6 =>
      some (.tup [v6, (.int .i64 0)])) (
      some (.tup [v2, (.int .i64 0)])))
theorem w.plus_term (e : Nat → List V → Option V) (v0 : V) : vl e 62 0 [v0] = y.plus_term (vl e) v0 := val_of (by kernel_rfl)
noncomputable def y.expr_tag (Γ : Gam) (v0 : V) : Option V :=
  pr (.bin (.leq) (.no)) [(.int .u8 97), v0] fun v1 =>
  vif v1 (
    pr (.bin (.leq) (.no)) [v0, (.int .u8 122)] fun v2 =>
    vif v2 (
      some (.bool true)) (
      pr (.bin (.leq) (.no)) [(.int .u8 65), v0] fun v3 =>
      vif v3 (
        pr (.bin (.leq) (.no)) [v0, (.int .u8 90)] fun v4 =>
        vif v4 (
          some (.bool true)) (
          pr (.bin (.leq) (.no)) [(.int .u8 48), v0] fun v5 =>
          vif v5 (
            pr (.bin (.leq) (.no)) [v0, (.int .u8 57)] fun v6 =>
            vif v6 (
              some (.bool true)) (
              pr (.bin (.eql) (.no)) [v0, (.int .u8 95)] fun v7 =>
              vif v7 (
                some (.bool true)) (
                pr (.bin (.eql) (.no)) [v0, (.int .u8 46)] fun v8 =>
                some v8))) (
            pr (.bin (.eql) (.no)) [v0, (.int .u8 95)] fun v6 =>
            vif v6 (
              some (.bool true)) (
              pr (.bin (.eql) (.no)) [v0, (.int .u8 46)] fun v7 =>
              some v7)))) (
        pr (.bin (.leq) (.no)) [(.int .u8 48), v0] fun v4 =>
        vif v4 (
          pr (.bin (.leq) (.no)) [v0, (.int .u8 57)] fun v5 =>
          vif v5 (
            some (.bool true)) (
            pr (.bin (.eql) (.no)) [v0, (.int .u8 95)] fun v6 =>
            vif v6 (
              some (.bool true)) (
              pr (.bin (.eql) (.no)) [v0, (.int .u8 46)] fun v7 =>
              some v7))) (
          pr (.bin (.eql) (.no)) [v0, (.int .u8 95)] fun v5 =>
          vif v5 (
            some (.bool true)) (
            pr (.bin (.eql) (.no)) [v0, (.int .u8 46)] fun v6 =>
            some v6))))) (
    pr (.bin (.leq) (.no)) [(.int .u8 65), v0] fun v2 =>
    vif v2 (
      pr (.bin (.leq) (.no)) [v0, (.int .u8 90)] fun v3 =>
      vif v3 (
        some (.bool true)) (
        pr (.bin (.leq) (.no)) [(.int .u8 48), v0] fun v4 =>
        vif v4 (
          pr (.bin (.leq) (.no)) [v0, (.int .u8 57)] fun v5 =>
          vif v5 (
            some (.bool true)) (
            pr (.bin (.eql) (.no)) [v0, (.int .u8 95)] fun v6 =>
            vif v6 (
              some (.bool true)) (
              pr (.bin (.eql) (.no)) [v0, (.int .u8 46)] fun v7 =>
              some v7))) (
          pr (.bin (.eql) (.no)) [v0, (.int .u8 95)] fun v5 =>
          vif v5 (
            some (.bool true)) (
            pr (.bin (.eql) (.no)) [v0, (.int .u8 46)] fun v6 =>
            some v6)))) (
      pr (.bin (.leq) (.no)) [(.int .u8 48), v0] fun v3 =>
      vif v3 (
        pr (.bin (.leq) (.no)) [v0, (.int .u8 57)] fun v4 =>
        vif v4 (
          some (.bool true)) (
          pr (.bin (.eql) (.no)) [v0, (.int .u8 95)] fun v5 =>
          vif v5 (
            some (.bool true)) (
            pr (.bin (.eql) (.no)) [v0, (.int .u8 46)] fun v6 =>
            some v6))) (
        pr (.bin (.eql) (.no)) [v0, (.int .u8 95)] fun v4 =>
        vif v4 (
          some (.bool true)) (
          pr (.bin (.eql) (.no)) [v0, (.int .u8 46)] fun v5 =>
          some v5))))
theorem w.expr_tag (e : Nat → List V → Option V) (v0 : V) : vl e 67 0 [v0] = y.expr_tag (vl e) v0 := val_of (by kernel_rfl)
noncomputable def y.plus_Parse (Γ : Gam) (v0 : V) : Option V :=
  ca Γ 28 [v0, (.str [43])] fun v1 =>
  pr (.un (.not)) [v1] fun v2 =>
  vif v2 (
    ca Γ 18 [v0] fun v3 =>
    pr (.ext 0) [v3] fun v4 =>
    pr (.ext 1) [v3] fun v5 =>
    some (.tup [v4, v5])) (
    ca Γ 29 [v0, (.str [10])] fun v3 =>
    pr (.len false) [v3] fun v4 =>
    Γ 13 18 [(.sl false 1 []), v3, v4, (.int .i64 0)])
theorem w.plus_Parse (e : Nat → List V → Option V) (v0 : V) : vl e 13 0 [v0] = y.plus_Parse (vl e) v0 := val_of (by kernel_rfl)
noncomputable def y.plus_Parse_18 (Γ : Gam) (v0 v1 v2 v3 : V) : Option V :=
  pr (.bin (.lss) (.no)) [v3, v2] fun v4 =>
  vif v4 (
    pr (.elem 1) [v1, v3] fun v5 =>
    pr (.ld none 0) [v5] fun v6 =>
    ca Γ 30 [v6, (.str [43])] fun v7 =>
    pr (.bsl 1) [v7] fun v8 =>
    pr (.app 1) [v0, v8] fun v9 =>
    pr (.bin (.add) (.no)) [v3, (.int .i64 1)] fun v10 =>
    Γ 13 18 [v9, v1, v2, v10]) (
    ca Γ 20 [v0] fun v5 =>
    pr (.ext 0) [v5] fun v6 =>
    pr (.ext 1) [v5] fun v7 =>
    pr (.bin (.neq) (.no)) [v7, (.int .i64 0)] fun v8 =>
    vif v8 (
      some (.tup [(.sl false 1 []), v7])) (
      ca Γ 18 [v6] fun v9 =>
      pr (.ext 0) [v9] fun v10 =>
      pr (.ext 1) [v9] fun v11 =>
      some (.tup [v10, v11])))
theorem w.plus_Parse_18 (e : Nat → List V → Option V) (v0 v1 v2 v3 : V) : vl e 13 18 [v0, v1, v2, v3] = y.plus_Parse_18 (vl e) v0 v1 v2 v3 := val_of (by kernel_rfl)
noncomputable def y.expr_Parse (Γ : Gam) (v0 : V) : Option V :=
  pr (.len true) [v0] fun v1 =>
  pr (.bin (.gtr) (.no)) [v1, (.int .i64 1024)] fun v2 =>
  vif v2 (
    some (.tup [(.sl false 1 []), (.int .i64 3)])) (
    pr (.cat [none]) [v0] fun v3 =>
    pr (.cat [none, none, none, none]) [v0, (.int .i64 0), (.sl false 1 []), (.int .i64 0)] fun v4 =>
    ch Γ 10608 [v0, (.int .i64 0), (.sl false 1 []), (.int .i64 0)] fun v5 =>
    pr (.ext 0) [v5] fun v6 =>
    pr (.ext 1) [v5] fun v7 =>
    pr (.ext 2) [v5] fun v8 =>
    pr (.ext 3) [v5] fun v9 =>
    pr (.ext 4) [v5] fun v10 =>
    pr (.bin (.neq) (.no)) [v6, (.int .i64 0)] fun v11 =>
    vif v11 (
      some (.tup [(.sl false 1 []), v6])) (
      ch Γ 10624 [v7, v8, v9, v10] fun v12 =>
      pr (.ext 0) [v12] fun v13 =>
      pr (.ext 1) [v12] fun v14 =>
      pr (.ext 2) [v12] fun v15 =>
      pr (.ext 3) [v12] fun v16 =>
      pr (.len true) [v13] fun v17 =>
      pr (.bin (.lss) (.no)) [v14, v17] fun v18 =>
      vif v18 (
        some (.tup [(.sl false 1 []), (.int .i64 4)])) (
        some (.tup [v15, (.int .i64 0)]))))
theorem w.expr_Parse (e : Nat → List V → Option V) (v0 : V) : vl e 18 0 [v0] = y.expr_Parse (vl e) v0 := val_of (by kernel_rfl)
noncomputable def y.strings_HasPrefix (Γ : Gam) (v0 v1 : V) : Option V :=
  ca Γ 53 [v0, v1] fun v2 =>
  some v2
theorem w.strings_HasPrefix (e : Nat → List V → Option V) (v0 v1 : V) : vl e 28 0 [v0, v1] = y.strings_HasPrefix (vl e) v0 v1 := val_of (by kernel_rfl)
noncomputable def y.seicheref14_Lines (Γ : Gam) (v0 : V) : Option V :=
  pr (.len false) [v0] fun v1 =>
  Γ 33 10 [(.sl false 1 []), v0, v1, (.int .i64 0)]
theorem w.seicheref14_Lines (e : Nat → List V → Option V) (v0 : V) : vl e 33 0 [v0] = y.seicheref14_Lines (vl e) v0 := val_of (by kernel_rfl)
noncomputable def y.seicheref14_Lines_10 (Γ : Gam) (v0 v1 v2 v3 : V) : Option V :=
  pr (.bin (.lss) (.no)) [v3, v2] fun v4 =>
  vif v4 (
    pr (.elem 1) [v1, v3] fun v5 =>
    pr (.ld none 0) [v5] fun v6 =>
    ca Γ 58 [v6] fun v7 =>
    pr (.un (.not)) [v7] fun v8 =>
    vif v8 (
      some (.tup [(.str []), (.bool false)])) (
      ca Γ 59 [v6] fun v9 =>
      pr (.bsl 1) [v9] fun v10 =>
      pr (.app 1) [v0, v10] fun v11 =>
      pr (.bin (.add) (.no)) [v3, (.int .i64 1)] fun v12 =>
      Γ 33 10 [v11, v1, v2, v12])) (
    pr (.len false) [v0] fun v5 =>
    pr (.bin (.eql) (.no)) [v5, (.int .i64 0)] fun v6 =>
    vif v6 (
      some (.tup [(.str []), (.bool false)])) (
      ca Γ 60 [v0, (.str [32, 38, 38, 32])] fun v7 =>
      some (.tup [v7, (.bool true)])))
theorem w.seicheref14_Lines_10 (e : Nat → List V → Option V) (v0 v1 v2 v3 : V) : vl e 33 10 [v0, v1, v2, v3] = y.seicheref14_Lines_10 (vl e) v0 v1 v2 v3 := val_of (by kernel_rfl)
noncomputable def y.seicheref13_In (Γ : Gam) (v0 v1 : V) : Option V :=
  pr (.len false) [v0] fun v2 =>
  Γ 43 8 [v1, v0, v2, (.int .i64 0)]
theorem w.seicheref13_In (e : Nat → List V → Option V) (v0 v1 : V) : vl e 43 0 [v0, v1] = y.seicheref13_In (vl e) v0 v1 := val_of (by kernel_rfl)
noncomputable def y.seicheref13_In_8 (Γ : Gam) (v0 v1 v2 v3 : V) : Option V :=
  pr (.bin (.lss) (.no)) [v3, v2] fun v4 =>
  vif v4 (
    pr (.elem 1) [v1, v3] fun v5 =>
    pr (.ld none 0) [v5] fun v6 =>
    pr (.bin (.eql) (.no)) [v6, v0] fun v7 =>
    vif v7 (
      some (.bool true)) (
      pr (.bin (.add) (.no)) [v3, (.int .i64 1)] fun v8 =>
      Γ 43 8 [v0, v1, v2, v8])) (
    some (.bool false))
theorem w.seicheref13_In_8 (e : Nat → List V → Option V) (v0 v1 v2 v3 : V) : vl e 43 8 [v0, v1, v2, v3] = y.seicheref13_In_8 (vl e) v0 v1 v2 v3 := val_of (by kernel_rfl)
end Go.Proofs.YtghjeddphkmciaaDoor
/-
  What functions of the program come to, over values alone. Printed by programs of this seat (wip/y/tool.lean, asm.py).
-/
namespace Go.Proofs.YtghjeddphkmciaaDoor
open Go.Abs

noncomputable def y.internal_stringslite_HasPrefix (Γ : Gam) (v0 v1 : V) : Option V :=
  pr (.len true) [v0] fun v2 =>
  pr (.len true) [v1] fun v3 =>
  pr (.bin (.geq) (.no)) [v2, v3] fun v4 =>
  vif v4 (
    pr (.len true) [v1] fun v5 =>
    pr (.sls false true) [v0, v5] fun v6 =>
    pr (.bin (.eql) (.no)) [v6, v1] fun v7 =>
    some v7) (
    some (.bool false))
theorem w.internal_stringslite_HasPrefix (e : Nat → List V → Option V) (v0 v1 : V) : vl e 53 0 [v0, v1] = y.internal_stringslite_HasPrefix (vl e) v0 v1 := val_of (by kernel_rfl)
noncomputable def y.seicheref14_Good (Γ : Gam) (v0 : V) : Option V :=
  ca Γ 16 [v0] fun v1 =>
  pr (.len false) [v1] fun v2 =>
  Γ 58 8 [v0, v1, v2, (.int .i64 0)]
theorem w.seicheref14_Good (e : Nat → List V → Option V) (v0 : V) : vl e 58 0 [v0] = y.seicheref14_Good (vl e) v0 := val_of (by kernel_rfl)
noncomputable def y.seicheref14_Good_8 (Γ : Gam) (v0 v1 v2 v3 : V) : Option V :=
  pr (.bin (.lss) (.no)) [v3, v2] fun v4 =>
  vif v4 (
    pr (.elem 1) [v1, v3] fun v5 =>
    pr (.ld none 0) [v5] fun v6 =>
    ca Γ 32 [v6, (.int .u8 44)] fun v7 =>
    pr (.len false) [v7] fun v8 =>
    Γ 58 22 [v0, v1, v2, v3, v7, v8, (.int .i64 0)]) (
    ca Γ 16 [v0] fun v5 =>
    pr (.len false) [v5] fun v6 =>
    pr (.bin (.gtr) (.no)) [v6, (.int .i64 0)] fun v7 =>
    some v7)
theorem w.seicheref14_Good_8 (e : Nat → List V → Option V) (v0 v1 v2 v3 : V) : vl e 58 8 [v0, v1, v2, v3] = y.seicheref14_Good_8 (vl e) v0 v1 v2 v3 := val_of (by kernel_rfl)
noncomputable def y.seicheref14_Good_22 (Γ : Gam) (v0 v1 v2 v3 v4 v5 v6 : V) : Option V :=
  pr (.bin (.lss) (.no)) [v6, v5] fun v7 =>
  vif v7 (
    pr (.elem 1) [v4, v6] fun v8 =>
    pr (.ld none 0) [v8] fun v9 =>
    ca Γ 42 [v9] fun v10 =>
    pr (.ext 0) [v10] fun v11 =>
    pr (.ext 1) [v10] fun v12 =>
    pr (.ext 2) [v10] fun v13 =>
    pr (.un (.not)) [v13] fun v14 =>
    vif v14 (
      some (.bool false)) (
      pr (.bin (.add) (.no)) [v6, (.int .i64 1)] fun v15 =>
      Γ 58 22 [v0, v1, v2, v3, v4, v5, v15])) (
    pr (.bin (.add) (.no)) [v3, (.int .i64 1)] fun v8 =>
    Γ 58 8 [v0, v1, v2, v8])
theorem w.seicheref14_Good_22 (e : Nat → List V → Option V) (v0 v1 v2 v3 v4 v5 v6 : V) : vl e 58 22 [v0, v1, v2, v3, v4, v5, v6] = y.seicheref14_Good_22 (vl e) v0 v1 v2 v3 v4 v5 v6 := val_of (by kernel_rfl)
noncomputable def y.slices_Index_Lstring_string (Γ : Gam) (v0 v1 : V) : Option V :=
  pr (.len false) [v0] fun v2 =>
  Γ 68 8 [v0, v1, v2, (.int .i64 0)]
theorem w.slices_Index_Lstring_string (e : Nat → List V → Option V) (v0 v1 : V) : vl e 68 0 [v0, v1] = y.slices_Index_Lstring_string (vl e) v0 v1 := val_of (by kernel_rfl)
noncomputable def y.slices_Index_Lstring_string_8 (Γ : Gam) (v0 v1 v2 v3 : V) : Option V :=
  pr (.bin (.lss) (.no)) [v3, v2] fun v4 =>
  vif v4 (
    pr (.elem 1) [v0, v3] fun v5 =>
    pr (.ld none 0) [v5] fun v6 =>
    pr (.bin (.eql) (.no)) [v1, v6] fun v7 =>
    vif v7 (
      some v3) (
      pr (.bin (.add) (.no)) [v3, (.int .i64 1)] fun v8 =>
      Γ 68 8 [v0, v1, v2, v8])) (
    some (.int .i64 (-1)))
theorem w.slices_Index_Lstring_string_8 (e : Nat → List V → Option V) (v0 v1 v2 v3 : V) : vl e 68 8 [v0, v1, v2, v3] = y.slices_Index_Lstring_string_8 (vl e) v0 v1 v2 v3 := val_of (by kernel_rfl)
noncomputable def y.internal_stringslite_CutPrefix (Γ : Gam) (v0 v1 : V) : Option V :=
  ca Γ 53 [v0, v1] fun v2 =>
  pr (.un (.not)) [v2] fun v3 =>
  vif v3 (
    some (.tup [v0, (.bool false)])) (
    pr (.len true) [v1] fun v4 =>
    pr (.sls true false) [v0, v4] fun v5 =>
    some (.tup [v5, (.bool true)]))
theorem w.internal_stringslite_CutPrefix (e : Nat → List V → Option V) (v0 v1 : V) : vl e 103 0 [v0, v1] = y.internal_stringslite_CutPrefix (vl e) v0 v1 := val_of (by kernel_rfl)
noncomputable def y.seichelaw14_PlusParses (Γ : Gam) (v0 : V) : Option V :=
  ca Γ 12 [] fun v1 =>
  pr (.un (.not)) [v1] fun v2 =>
  vif v2 (
    some (.bool false)) (
    pr (.len true) [v0] fun v3 =>
    pr (.bin (.gtr) (.no)) [v3, (.int .i64 2048)] fun v4 =>
    vif v4 (
      some (.bool true)) (
      ca Γ 13 [v0] fun v5 =>
      pr (.ext 0) [v5] fun v6 =>
      pr (.ext 1) [v5] fun v7 =>
      ca Γ 14 [v0] fun v8 =>
      pr (.ext 0) [v8] fun v9 =>
      pr (.ext 1) [v8] fun v10 =>
      pr (.bin (.eql) (.no)) [v7, v10] fun v11 =>
      vif v11 (
        ca Γ 15 [v6, v9] fun v12 =>
        some v12) (
        some (.bool false))))
theorem w.seichelaw14_PlusParses (e : Nat → List V → Option V) (v0 : V) : vl e 4 0 [v0] = y.seichelaw14_PlusParses (vl e) v0 := val_of (by kernel_rfl)
noncomputable def y.seicheref14_Parse (Γ : Gam) (v0 : V) : Option V :=
  pr (.bin (.eql) (.no)) [v0, (.str [])] fun v1 =>
  vif v1 (
    ca Γ 31 [v0] fun v2 =>
    pr (.ext 0) [v2] fun v3 =>
    pr (.ext 1) [v2] fun v4 =>
    some (.tup [v3, v4])) (
    pr .idx [v0, (.int .i64 0)] fun v2 =>
    pr (.bin (.neq) (.no)) [v2, (.int .u8 43)] fun v3 =>
    vif v3 (
      ca Γ 31 [v0] fun v4 =>
      pr (.ext 0) [v4] fun v5 =>
      pr (.ext 1) [v4] fun v6 =>
      some (.tup [v5, v6])) (
      ca Γ 32 [v0, (.int .u8 10)] fun v4 =>
      pr (.len false) [v4] fun v5 =>
      Γ 14 18 [(.sl false 1 []), v4, v5, (.int .i64 0)]))
theorem w.seicheref14_Parse (e : Nat → List V → Option V) (v0 : V) : vl e 14 0 [v0] = y.seicheref14_Parse (vl e) v0 := val_of (by kernel_rfl)
noncomputable def y.seicheref14_Parse_18 (Γ : Gam) (v0 v1 v2 v3 : V) : Option V :=
  pr (.bin (.lss) (.no)) [v3, v2] fun v4 =>
  vif v4 (
    pr (.elem 1) [v1, v3] fun v5 =>
    pr (.ld none 0) [v5] fun v6 =>
    pr (.len true) [v6] fun v7 =>
    pr (.bin (.gtr) (.no)) [v7, (.int .i64 0)] fun v8 =>
    vif v8 (
      pr .idx [v6, (.int .i64 0)] fun v9 =>
      pr (.bin (.eql) (.no)) [v9, (.int .u8 43)] fun v10 =>
      vif v10 (
        pr (.sls true false) [v6, (.int .i64 1)] fun v11 =>
        pr (.bsl 1) [v11] fun v12 =>
        pr (.app 1) [v0, v12] fun v13 =>
        pr (.bin (.add) (.no)) [v3, (.int .i64 1)] fun v14 =>
        Γ 14 18 [v13, v1, v2, v14]) (
        pr (.bsl 1) [v6] fun v11 =>
        pr (.app 1) [v0, v11] fun v12 =>
        pr (.bin (.add) (.no)) [v3, (.int .i64 1)] fun v13 =>
        Γ 14 18 [v12, v1, v2, v13])) (
      pr (.bsl 1) [v6] fun v9 =>
      pr (.app 1) [v0, v9] fun v10 =>
      pr (.bin (.add) (.no)) [v3, (.int .i64 1)] fun v11 =>
      Γ 14 18 [v10, v1, v2, v11])) (
    ca Γ 33 [v0] fun v5 =>
    pr (.ext 0) [v5] fun v6 =>
    pr (.ext 1) [v5] fun v7 =>
    pr (.un (.not)) [v7] fun v8 =>
    vif v8 (
      some (.tup [(.sl false 1 []), (.int .i64 4)])) (
      ca Γ 31 [v6] fun v9 =>
      pr (.ext 0) [v9] fun v10 =>
      pr (.ext 1) [v9] fun v11 =>
      some (.tup [v10, v11])))
theorem w.seicheref14_Parse_18 (e : Nat → List V → Option V) (v0 v1 v2 v3 : V) : vl e 14 18 [v0, v1, v2, v3] = y.seicheref14_Parse_18 (vl e) v0 v1 v2 v3 := val_of (by kernel_rfl)
noncomputable def y.expr_Eval (Γ : Gam) (v0 v1 : V) : Option V :=
  pr (.len false) [v0] fun v3 =>
  Γ 19 10 [v1, (.int .i64 0), v0, v3, (.int .i64 0), (.agg [])]
theorem w.expr_Eval (e : Nat → List V → Option V) (v0 v1 : V) : vl e 19 0 [v0, v1] = y.expr_Eval (vl e) v0 v1 := val_of (by kernel_rfl)
noncomputable def y.expr_Eval_10 (Γ : Gam) (v0 v1 v2 v3 v4 v5 : V) : Option V :=
  pr (.bin (.lss) (.no)) [v4, v3] fun v6 =>
  vif v6 (
    pr (.elem 1) [v2, v4] fun v7 =>
    pr (.ld none 0) [v7] fun v8 =>
    pr (.bin (.eql) (.no)) [v8, (.str [33])] fun v9 =>
    vif v9 (
      pr (.bin (.gtr) (.no)) [v1, (.int .i64 0)] fun v10 =>
      Γ 19 26 [v0, v1, v8, v1, v2, v3, v4, v10, v5]) (
      Γ 19 26 [v0, v1, v8, v1, v2, v3, v4, (.bool false), v5])) (
    pr (.bin (.neq) (.no)) [v1, (.int .i64 1)] fun v7 =>
    vif v7 (
      some (.tup [(.bool false), (.int .i64 4)])) (
      pr .chkd [v1, (.int .i64 0)] fun v8 =>
      pr (.ldd none 0 1) [v5, v8] fun v9 =>
      some (.tup [v9, (.int .i64 0)])))
theorem w.expr_Eval_10 (e : Nat → List V → Option V) (v0 v1 v2 v3 v4 v5 : V) : vl e 19 10 [v0, v1, v2, v3, v4, v5] = y.expr_Eval_10 (vl e) v0 v1 v2 v3 v4 v5 := val_of (by kernel_rfl)
noncomputable def y.expr_Eval_26 (Γ : Gam) (v0 v1 v2 v3 v4 v5 v6 v7 v8 : V) : Option V :=
  vif v7 (
    pr (.bin (.sub) (.no)) [v3, (.int .i64 1)] fun v9 =>
    pr (.bin (.sub) (.no)) [v3, (.int .i64 1)] fun v10 =>
    pr .chkd [v1, v10] fun v11 =>
    pr (.ldd none 0 1) [v8, v11] fun v12 =>
    pr (.un (.not)) [v12] fun v13 =>
    pr .chkd [v1, v9] fun v14 =>
    pr (.std 1 0 1) [v8, v14, v13] fun v15 =>
    pr (.bin (.add) (.no)) [v6, (.int .i64 1)] fun v16 =>
    Γ 19 10 [v0, v1, v4, v5, v16, v15]) (
    pr (.bin (.eql) (.no)) [v2, (.str [38, 38])] fun v9 =>
    vif v9 (
      pr (.bin (.gtr) (.no)) [v3, (.int .i64 1)] fun v10 =>
      vif v10 (
        pr (.bin (.sub) (.no)) [v3, (.int .i64 2)] fun v11 =>
        pr .chkl [v1, v11] fun v12 =>
        pr (.bin (.sub) (.no)) [v3, (.int .i64 2)] fun v13 =>
        pr .chkd [v1, v13] fun v14 =>
        pr (.ldd none 0 1) [v8, v14] fun v15 =>
        vif v15 (
          pr (.bin (.sub) (.no)) [v3, (.int .i64 1)] fun v16 =>
          pr .chkd [v1, v16] fun v17 =>
          pr (.ldd none 0 1) [v8, v17] fun v18 =>
          pr (.bsl 1) [v18] fun v19 =>
          pr (.rapp 1) [v8, v12, v19] fun v20 =>
          pr (.rlen 1) [v12, v19] fun v21 =>
          pr (.bin (.add) (.no)) [v6, (.int .i64 1)] fun v22 =>
          Γ 19 10 [v0, v21, v4, v5, v22, v20]) (
          pr (.bsl 1) [(.bool false)] fun v16 =>
          pr (.rapp 1) [v8, v12, v16] fun v17 =>
          pr (.rlen 1) [v12, v16] fun v18 =>
          pr (.bin (.add) (.no)) [v6, (.int .i64 1)] fun v19 =>
          Γ 19 10 [v0, v18, v4, v5, v19, v17])) (
        pr (.bin (.eql) (.no)) [v2, (.str [124, 124])] fun v11 =>
        vif v11 (
          pr (.bin (.gtr) (.no)) [v3, (.int .i64 1)] fun v12 =>
          vif v12 (
            pr (.bin (.sub) (.no)) [v3, (.int .i64 2)] fun v13 =>
            pr .chkl [v1, v13] fun v14 =>
            pr (.bin (.sub) (.no)) [v3, (.int .i64 2)] fun v15 =>
            pr .chkd [v1, v15] fun v16 =>
            pr (.ldd none 0 1) [v8, v16] fun v17 =>
            vif v17 (
              pr (.bsl 1) [(.bool true)] fun v18 =>
              pr (.rapp 1) [v8, v14, v18] fun v19 =>
              pr (.rlen 1) [v14, v18] fun v20 =>
              pr (.bin (.add) (.no)) [v6, (.int .i64 1)] fun v21 =>
              Γ 19 10 [v0, v20, v4, v5, v21, v19]) (
              pr (.bin (.sub) (.no)) [v3, (.int .i64 1)] fun v18 =>
              pr .chkd [v1, v18] fun v19 =>
              pr (.ldd none 0 1) [v8, v19] fun v20 =>
              pr (.bsl 1) [v20] fun v21 =>
              pr (.rapp 1) [v8, v14, v21] fun v22 =>
              pr (.rlen 1) [v14, v21] fun v23 =>
              pr (.bin (.add) (.no)) [v6, (.int .i64 1)] fun v24 =>
              Γ 19 10 [v0, v23, v4, v5, v24, v22])) (
            ca Γ 40 [v2] fun v13 =>
            vif v13 (
              ca Γ 41 [v0, v2] fun v14 =>
              pr (.bsl 1) [v14] fun v15 =>
              pr (.rapp 1) [v8, v1, v15] fun v16 =>
              pr (.rlen 1) [v1, v15] fun v17 =>
              pr (.bin (.add) (.no)) [v6, (.int .i64 1)] fun v18 =>
              Γ 19 10 [v0, v17, v4, v5, v18, v16]) (
              some (.tup [(.bool false), (.int .i64 4)])))) (
          ca Γ 40 [v2] fun v12 =>
          vif v12 (
            ca Γ 41 [v0, v2] fun v13 =>
            pr (.bsl 1) [v13] fun v14 =>
            pr (.rapp 1) [v8, v1, v14] fun v15 =>
            pr (.rlen 1) [v1, v14] fun v16 =>
            pr (.bin (.add) (.no)) [v6, (.int .i64 1)] fun v17 =>
            Γ 19 10 [v0, v16, v4, v5, v17, v15]) (
            some (.tup [(.bool false), (.int .i64 4)]))))) (
      pr (.bin (.eql) (.no)) [v2, (.str [124, 124])] fun v10 =>
      vif v10 (
        pr (.bin (.gtr) (.no)) [v3, (.int .i64 1)] fun v11 =>
        vif v11 (
          pr (.bin (.sub) (.no)) [v3, (.int .i64 2)] fun v12 =>
          pr .chkl [v1, v12] fun v13 =>
          pr (.bin (.sub) (.no)) [v3, (.int .i64 2)] fun v14 =>
          pr .chkd [v1, v14] fun v15 =>
          pr (.ldd none 0 1) [v8, v15] fun v16 =>
          vif v16 (
            pr (.bsl 1) [(.bool true)] fun v17 =>
            pr (.rapp 1) [v8, v13, v17] fun v18 =>
            pr (.rlen 1) [v13, v17] fun v19 =>
            pr (.bin (.add) (.no)) [v6, (.int .i64 1)] fun v20 =>
            Γ 19 10 [v0, v19, v4, v5, v20, v18]) (
            pr (.bin (.sub) (.no)) [v3, (.int .i64 1)] fun v17 =>
            pr .chkd [v1, v17] fun v18 =>
            pr (.ldd none 0 1) [v8, v18] fun v19 =>
            pr (.bsl 1) [v19] fun v20 =>
            pr (.rapp 1) [v8, v13, v20] fun v21 =>
            pr (.rlen 1) [v13, v20] fun v22 =>
            pr (.bin (.add) (.no)) [v6, (.int .i64 1)] fun v23 =>
            Γ 19 10 [v0, v22, v4, v5, v23, v21])) (
          ca Γ 40 [v2] fun v12 =>
          vif v12 (
            ca Γ 41 [v0, v2] fun v13 =>
            pr (.bsl 1) [v13] fun v14 =>
            pr (.rapp 1) [v8, v1, v14] fun v15 =>
            pr (.rlen 1) [v1, v14] fun v16 =>
            pr (.bin (.add) (.no)) [v6, (.int .i64 1)] fun v17 =>
            Γ 19 10 [v0, v16, v4, v5, v17, v15]) (
            some (.tup [(.bool false), (.int .i64 4)])))) (
        ca Γ 40 [v2] fun v11 =>
        vif v11 (
          ca Γ 41 [v0, v2] fun v12 =>
          pr (.bsl 1) [v12] fun v13 =>
          pr (.rapp 1) [v8, v1, v13] fun v14 =>
          pr (.rlen 1) [v1, v13] fun v15 =>
          pr (.bin (.add) (.no)) [v6, (.int .i64 1)] fun v16 =>
          Γ 19 10 [v0, v15, v4, v5, v16, v14]) (
          some (.tup [(.bool false), (.int .i64 4)])))))
theorem w.expr_Eval_26 (e : Nat → List V → Option V) (v0 v1 v2 v3 v4 v5 v6 v7 v8 : V) : vl e 19 26 [v0, v1, v2, v3, v4, v5, v6, v7, v8] = y.expr_Eval_26 (vl e) v0 v1 v2 v3 v4 v5 v6 v7 v8 := val_of (by kernel_rfl)
noncomputable def y.seicheref14_Line (Γ : Gam) (v0 : V) : Option V :=
  ca Γ 16 [v0] fun v1 =>
  pr (.len false) [v1] fun v2 =>
  Γ 59 10 [(.sl false 1 []), v1, v2, (.int .i64 0)]
theorem w.seicheref14_Line (e : Nat → List V → Option V) (v0 : V) : vl e 59 0 [v0] = y.seicheref14_Line (vl e) v0 := val_of (by kernel_rfl)
noncomputable def y.seicheref14_Line_10 (Γ : Gam) (v0 v1 v2 v3 : V) : Option V :=
  pr (.bin (.lss) (.no)) [v3, v2] fun v4 =>
  vif v4 (
    pr (.elem 1) [v1, v3] fun v5 =>
    pr (.ld none 0) [v5] fun v6 =>
    ca Γ 32 [v6, (.int .u8 44)] fun v7 =>
    ca Γ 60 [v7, (.str [32, 38, 38, 32])] fun v8 =>
    pr (.bsl 1) [v8] fun v9 =>
    pr (.app 1) [v0, v9] fun v10 =>
    pr (.bin (.add) (.no)) [v3, (.int .i64 1)] fun v11 =>
    Γ 59 10 [v10, v1, v2, v11]) (
    ca Γ 60 [v0, (.str [32, 124, 124, 32])] fun v5 =>
    some v5)
theorem w.seicheref14_Line_10 (e : Nat → List V → Option V) (v0 v1 v2 v3 : V) : vl e 59 10 [v0, v1, v2, v3] = y.seicheref14_Line_10 (vl e) v0 v1 v2 v3 := val_of (by kernel_rfl)
noncomputable def y.seicheref13_Tag (Γ : Gam) (v0 : V) : Option V :=
  Γ 69 8 [v0, (.int .i64 0)]
theorem w.seicheref13_Tag (e : Nat → List V → Option V) (v0 : V) : vl e 69 0 [v0] = y.seicheref13_Tag (vl e) v0 := val_of (by kernel_rfl)
noncomputable def y.seicheref13_Tag_8 (Γ : Gam) (v0 v1 : V) : Option V :=
  pr (.len true) [v0] fun v2 =>
  pr (.bin (.lss) (.no)) [v1, v2] fun v3 =>
  vif v3 (
    pr .idx [v0, v1] fun v4 =>
    ca Γ 80 [v4] fun v5 =>
    pr (.un (.not)) [v5] fun v6 =>
    vif v6 (
      some (.bool false)) (
      pr (.bin (.add) (.no)) [v1, (.int .i64 1)] fun v7 =>
      Γ 69 8 [v0, v7])) (
    pr (.bin (.neq) (.no)) [v0, (.str [])] fun v4 =>
    some v4)
theorem w.seicheref13_Tag_8 (e : Nat → List V → Option V) (v0 v1 : V) : vl e 69 8 [v0, v1] = y.seicheref13_Tag_8 (vl e) v0 v1 := val_of (by kernel_rfl)
noncomputable def y.slices_IndexFunc_Lbyte_byte (Γ : Gam) (v0 v1 : V) : Option V :=
  pr (.len false) [v0] fun v2 =>
  Γ 89 8 [v0, v1, v2, (.int .i64 0)]
theorem w.slices_IndexFunc_Lbyte_byte (e : Nat → List V → Option V) (v0 v1 : V) : vl e 89 0 [v0, v1] = y.slices_IndexFunc_Lbyte_byte (vl e) v0 v1 := val_of (by kernel_rfl)
noncomputable def y.slices_IndexFunc_Lbyte_byte_8 (Γ : Gam) (v0 v1 v2 v3 : V) : Option V :=
  pr (.bin (.lss) (.no)) [v3, v2] fun v4 =>
  vif v4 (
    pr (.elem 1) [v0, v3] fun v5 =>
    pr (.ld none 0) [v5] fun v6 =>
    cv Γ v1 [v6] fun v7 =>
    vif v7 (
      some v3) (
      pr (.bin (.add) (.no)) [v3, (.int .i64 1)] fun v8 =>
      Γ 89 8 [v0, v1, v2, v8])) (
    some (.int .i64 (-1)))
theorem w.slices_IndexFunc_Lbyte_byte_8 (e : Nat → List V → Option V) (v0 v1 v2 v3 : V) : vl e 89 8 [v0, v1, v2, v3] = y.slices_IndexFunc_Lbyte_byte_8 (vl e) v0 v1 v2 v3 := val_of (by kernel_rfl)
noncomputable def y.seiche_seicheref13_Read_Or_h0 (Γ : Gam) (v0 v1 v2 : V) : Option V :=
  ch Γ 11296 [v0, v1, v2] fun v3 =>
  pr (.ext 0) [v3] fun v4 =>
  pr (.ext 1) [v3] fun v5 =>
  pr (.ext 2) [v3] fun v6 =>
  pr (.ext 3) [v3] fun v7 =>
  Γ 10912 8 [v4, v5, v6, v7]
theorem w.seiche_seicheref13_Read_Or_h0 (e : Nat → List V → Option V) (v0 v1 v2 : V) : vl e 10912 1 [v0, v1, v2] = y.seiche_seicheref13_Read_Or_h0 (vl e) v0 v1 v2 := val_of (by kernel_rfl)
noncomputable def y.seiche_seicheref13_Read_Or_h0_8 (Γ : Gam) (v0 v1 v2 v3 : V) : Option V :=
  pr (.bin (.eql) (.no)) [v0, (.int .i64 0)] fun v4 =>
  vif v4 (
    ch Γ 11312 [(.str [124, 124]), v1, v2, v3] fun v5 =>
    pr (.ext 0) [v5] fun v6 =>
    pr (.ext 1) [v5] fun v7 =>
    pr (.ext 2) [v5] fun v8 =>
    pr (.ext 3) [v5] fun v9 =>
    vif v6 (
      ch Γ 11296 [v7, v8, v9] fun v10 =>
      pr (.ext 0) [v10] fun v11 =>
      pr (.ext 1) [v10] fun v12 =>
      pr (.ext 2) [v10] fun v13 =>
      pr (.ext 3) [v10] fun v14 =>
      pr (.bsl 1) [(.str [124, 124])] fun v15 =>
      pr (.app 1) [v13, v15] fun v16 =>
      Γ 10912 8 [v11, v12, v16, v14]) (
      some (.tup [v0, v7, v8, v9]))) (
    some (.tup [v0, v1, v2, v3]))
theorem w.seiche_seicheref13_Read_Or_h0_8 (e : Nat → List V → Option V) (v0 v1 v2 v3 : V) : vl e 10912 8 [v0, v1, v2, v3] = y.seiche_seicheref13_Read_Or_h0_8 (vl e) v0 v1 v2 v3 := val_of (by kernel_rfl)
noncomputable def y.seiche_expr_parser_or_h0 (Γ : Gam) (v0 v1 v2 v3 : V) : Option V :=
  ch Γ 11008 [(.str [124, 124]), v0, v1, v2, v3] fun v4 =>
  pr (.ext 0) [v4] fun v5 =>
  pr (.ext 1) [v4] fun v6 =>
  pr (.ext 2) [v4] fun v7 =>
  pr (.ext 3) [v4] fun v8 =>
  pr (.ext 4) [v4] fun v9 =>
  some (.tup [v5, v6, v7, v8, v9])
theorem w.seiche_expr_parser_or_h0 (e : Nat → List V → Option V) (v0 v1 v2 v3 : V) : vl e 10608 1 [v0, v1, v2, v3] = y.seiche_expr_parser_or_h0 (vl e) v0 v1 v2 v3 := val_of (by kernel_rfl)
noncomputable def y.seiche_seicheref13_Read_And_h0 (Γ : Gam) (v0 v1 v2 : V) : Option V :=
  ch Γ 11600 [v0, v1, v2] fun v3 =>
  pr (.ext 0) [v3] fun v4 =>
  pr (.ext 1) [v3] fun v5 =>
  pr (.ext 2) [v3] fun v6 =>
  pr (.ext 3) [v3] fun v7 =>
  Γ 11296 8 [v4, v5, v6, v7]
theorem w.seiche_seicheref13_Read_And_h0 (e : Nat → List V → Option V) (v0 v1 v2 : V) : vl e 11296 1 [v0, v1, v2] = y.seiche_seicheref13_Read_And_h0 (vl e) v0 v1 v2 := val_of (by kernel_rfl)
noncomputable def y.seiche_seicheref13_Read_And_h0_8 (Γ : Gam) (v0 v1 v2 v3 : V) : Option V :=
  pr (.bin (.eql) (.no)) [v0, (.int .i64 0)] fun v4 =>
  vif v4 (
    ch Γ 11312 [(.str [38, 38]), v1, v2, v3] fun v5 =>
    pr (.ext 0) [v5] fun v6 =>
    pr (.ext 1) [v5] fun v7 =>
    pr (.ext 2) [v5] fun v8 =>
    pr (.ext 3) [v5] fun v9 =>
    vif v6 (
      ch Γ 11600 [v7, v8, v9] fun v10 =>
      pr (.ext 0) [v10] fun v11 =>
      pr (.ext 1) [v10] fun v12 =>
      pr (.ext 2) [v10] fun v13 =>
      pr (.ext 3) [v10] fun v14 =>
      pr (.bsl 1) [(.str [38, 38])] fun v15 =>
      pr (.app 1) [v13, v15] fun v16 =>
      Γ 11296 8 [v11, v12, v16, v14]) (
      some (.tup [v0, v7, v8, v9]))) (
    some (.tup [v0, v1, v2, v3]))
theorem w.seiche_seicheref13_Read_And_h0_8 (e : Nat → List V → Option V) (v0 v1 v2 v3 : V) : vl e 11296 8 [v0, v1, v2, v3] = y.seiche_seicheref13_Read_And_h0_8 (vl e) v0 v1 v2 v3 := val_of (by kernel_rfl)
noncomputable def y.seiche_expr_parser_list_h0 (Γ : Gam) (v0 v1 v2 v3 v4 : V) : Option V :=
  ch Γ 11024 [v1, v2, v3, v4] fun v5 =>
  pr (.ext 0) [v5] fun v6 =>
  pr (.ext 1) [v5] fun v7 =>
  pr (.ext 2) [v5] fun v8 =>
  pr (.ext 3) [v5] fun v9 =>
  pr (.ext 4) [v5] fun v10 =>
  pr (.bin (.neq) (.no)) [v6, (.int .i64 0)] fun v11 =>
  vif v11 (
    some (.tup [v6, v7, v8, v9, v10])) (
    Γ 11008 16 [v0, v7, v8, v9, v10])
theorem w.seiche_expr_parser_list_h0 (e : Nat → List V → Option V) (v0 v1 v2 v3 v4 : V) : vl e 11008 1 [v0, v1, v2, v3, v4] = y.seiche_expr_parser_list_h0 (vl e) v0 v1 v2 v3 v4 := val_of (by kernel_rfl)
noncomputable def y.seiche_expr_parser_list_h0_16 (Γ : Gam) (v0 v1 v2 v3 v4 : V) : Option V :=
  ch Γ 11392 [v0, v1, v2, v3, v4] fun v5 =>
  pr (.ext 0) [v5] fun v6 =>
  pr (.ext 1) [v5] fun v7 =>
  pr (.ext 2) [v5] fun v8 =>
  pr (.ext 3) [v5] fun v9 =>
  pr (.ext 4) [v5] fun v10 =>
  vif v6 (
    ch Γ 11024 [v7, v8, v9, v10] fun v11 =>
    pr (.ext 0) [v11] fun v12 =>
    pr (.ext 1) [v11] fun v13 =>
    pr (.ext 2) [v11] fun v14 =>
    pr (.ext 3) [v11] fun v15 =>
    pr (.ext 4) [v11] fun v16 =>
    pr (.bin (.neq) (.no)) [v12, (.int .i64 0)] fun v17 =>
    vif v17 (
      some (.tup [v12, v13, v14, v15, v16])) (
      pr (.bsl 1) [v0] fun v18 =>
      pr (.app 1) [v15, v18] fun v19 =>
      Γ 11008 16 [v0, v13, v14, v19, v16])) (
    some (.tup [(.int .i64 0), v7, v8, v9, v10]))
theorem w.seiche_expr_parser_list_h0_16 (e : Nat → List V → Option V) (v0 v1 v2 v3 v4 : V) : vl e 11008 16 [v0, v1, v2, v3, v4] = y.seiche_expr_parser_list_h0_16 (vl e) v0 v1 v2 v3 v4 := val_of (by kernel_rfl)
noncomputable def y.seiche_seicheref13_Read_Not_h0 (Γ : Gam) (v0 v1 v2 : V) : Option V :=
  ch Γ 11312 [(.str [33]), v0, v1, v2] fun v3 =>
  pr (.ext 0) [v3] fun v4 =>
  pr (.ext 1) [v3] fun v5 =>
  pr (.ext 2) [v3] fun v6 =>
  pr (.ext 3) [v3] fun v7 =>
  ch Γ 11808 [v5, v6, v7] fun v8 =>
  pr (.ext 0) [v8] fun v9 =>
  pr (.ext 1) [v8] fun v10 =>
  pr (.ext 2) [v8] fun v11 =>
  pr (.ext 3) [v8] fun v12 =>
  pr (.bin (.eql) (.no)) [v9, (.int .i64 0)] fun v13 =>
  vif v13 (
    vif v4 (
      pr (.bsl 1) [(.str [33])] fun v14 =>
      pr (.app 1) [v11, v14] fun v15 =>
      some (.tup [v9, v10, v15, v12])) (
      some (.tup [v9, v10, v11, v12]))) (
    some (.tup [v9, v10, v11, v12]))
theorem w.seiche_seicheref13_Read_Not_h0 (e : Nat → List V → Option V) (v0 v1 v2 : V) : vl e 11600 1 [v0, v1, v2] = y.seiche_seicheref13_Read_Not_h0 (vl e) v0 v1 v2 := val_of (by kernel_rfl)
noncomputable def y.seiche_expr_parser_and_h0 (Γ : Gam) (v0 v1 v2 v3 : V) : Option V :=
  ch Γ 11009 [(.str [38, 38]), v0, v1, v2, v3] fun v4 =>
  pr (.ext 0) [v4] fun v5 =>
  pr (.ext 1) [v4] fun v6 =>
  pr (.ext 2) [v4] fun v7 =>
  pr (.ext 3) [v4] fun v8 =>
  pr (.ext 4) [v4] fun v9 =>
  some (.tup [v5, v6, v7, v8, v9])
theorem w.seiche_expr_parser_and_h0 (e : Nat → List V → Option V) (v0 v1 v2 v3 : V) : vl e 11024 1 [v0, v1, v2, v3] = y.seiche_expr_parser_and_h0 (vl e) v0 v1 v2 v3 := val_of (by kernel_rfl)
noncomputable def y.seiche_seicheref13_Read_Take_h0 (Γ : Gam) (v0 v1 v2 v3 : V) : Option V :=
  pr (.len false) [v1] fun v4 =>
  pr (.bin (.eql) (.no)) [v4, (.int .i64 0)] fun v5 =>
  vif v5 (
    some (.tup [(.bool false), v1, v2, v3])) (
    pr (.elem 1) [v1, (.int .i64 0)] fun v6 =>
    pr (.ld none 0) [v6] fun v7 =>
    pr (.bin (.neq) (.no)) [v7, v0] fun v8 =>
    vif v8 (
      some (.tup [(.bool false), v1, v2, v3])) (
      pr (.slc 1 true false false) [v1, (.int .i64 1)] fun v9 =>
      some (.tup [(.bool true), v9, v2, v3])))
theorem w.seiche_seicheref13_Read_Take_h0 (e : Nat → List V → Option V) (v0 v1 v2 v3 : V) : vl e 11312 1 [v0, v1, v2, v3] = y.seiche_seicheref13_Read_Take_h0 (vl e) v0 v1 v2 v3 := val_of (by kernel_rfl)
noncomputable def y.seiche_expr_parser_list_h1 (Γ : Gam) (v0 v1 v2 v3 v4 : V) : Option V :=
  ch Γ 11408 [v1, v2, v3, v4] fun v5 =>
  pr (.ext 0) [v5] fun v6 =>
  pr (.ext 1) [v5] fun v7 =>
  pr (.ext 2) [v5] fun v8 =>
  pr (.ext 3) [v5] fun v9 =>
  pr (.ext 4) [v5] fun v10 =>
  pr (.bin (.neq) (.no)) [v6, (.int .i64 0)] fun v11 =>
  vif v11 (
    some (.tup [v6, v7, v8, v9, v10])) (
    Γ 11009 16 [v0, v7, v8, v9, v10])
theorem w.seiche_expr_parser_list_h1 (e : Nat → List V → Option V) (v0 v1 v2 v3 v4 : V) : vl e 11009 1 [v0, v1, v2, v3, v4] = y.seiche_expr_parser_list_h1 (vl e) v0 v1 v2 v3 v4 := val_of (by kernel_rfl)
noncomputable def y.seiche_expr_parser_list_h1_16 (Γ : Gam) (v0 v1 v2 v3 v4 : V) : Option V :=
  ch Γ 11392 [v0, v1, v2, v3, v4] fun v5 =>
  pr (.ext 0) [v5] fun v6 =>
  pr (.ext 1) [v5] fun v7 =>
  pr (.ext 2) [v5] fun v8 =>
  pr (.ext 3) [v5] fun v9 =>
  pr (.ext 4) [v5] fun v10 =>
  vif v6 (
    ch Γ 11408 [v7, v8, v9, v10] fun v11 =>
    pr (.ext 0) [v11] fun v12 =>
    pr (.ext 1) [v11] fun v13 =>
    pr (.ext 2) [v11] fun v14 =>
    pr (.ext 3) [v11] fun v15 =>
    pr (.ext 4) [v11] fun v16 =>
    pr (.bin (.neq) (.no)) [v12, (.int .i64 0)] fun v17 =>
    vif v17 (
      some (.tup [v12, v13, v14, v15, v16])) (
      pr (.bsl 1) [v0] fun v18 =>
      pr (.app 1) [v15, v18] fun v19 =>
      Γ 11009 16 [v0, v13, v14, v19, v16])) (
    some (.tup [(.int .i64 0), v7, v8, v9, v10]))
theorem w.seiche_expr_parser_list_h1_16 (e : Nat → List V → Option V) (v0 v1 v2 v3 v4 : V) : vl e 11009 16 [v0, v1, v2, v3, v4] = y.seiche_expr_parser_list_h1_16 (vl e) v0 v1 v2 v3 v4 := val_of (by kernel_rfl)
noncomputable def y.seiche_expr_parser_not_h0 (Γ : Gam) (v0 v1 v2 v3 : V) : Option V :=
  ch Γ 11392 [(.str [33]), v0, v1, v2, v3] fun v4 =>
  pr (.ext 0) [v4] fun v5 =>
  pr (.ext 1) [v4] fun v6 =>
  pr (.ext 2) [v4] fun v7 =>
  pr (.ext 3) [v4] fun v8 =>
  pr (.ext 4) [v4] fun v9 =>
  pr (.un (.not)) [v5] fun v10 =>
  vif v10 (
    ch Γ 11664 [v6, v7, v8, v9] fun v11 =>
    pr (.ext 0) [v11] fun v12 =>
    pr (.ext 1) [v11] fun v13 =>
    pr (.ext 2) [v11] fun v14 =>
    pr (.ext 3) [v11] fun v15 =>
    pr (.ext 4) [v11] fun v16 =>
    some (.tup [v12, v13, v14, v15, v16])) (
    ch Γ 11392 [(.str [33]), v6, v7, v8, v9] fun v11 =>
    pr (.ext 0) [v11] fun v12 =>
    pr (.ext 1) [v11] fun v13 =>
    pr (.ext 2) [v11] fun v14 =>
    pr (.ext 3) [v11] fun v15 =>
    pr (.ext 4) [v11] fun v16 =>
    vif v12 (
      some (.tup [(.int .i64 4), v13, v14, v15, v16])) (
      ch Γ 11664 [v13, v14, v15, v16] fun v17 =>
      pr (.ext 0) [v17] fun v18 =>
      pr (.ext 1) [v17] fun v19 =>
      pr (.ext 2) [v17] fun v20 =>
      pr (.ext 3) [v17] fun v21 =>
      pr (.ext 4) [v17] fun v22 =>
      pr (.bin (.neq) (.no)) [v18, (.int .i64 0)] fun v23 =>
      vif v23 (
        some (.tup [v18, v19, v20, v21, v22])) (
        pr (.bsl 1) [(.str [33])] fun v24 =>
        pr (.app 1) [v21, v24] fun v25 =>
        some (.tup [(.int .i64 0), v19, v20, v25, v22]))))
theorem w.seiche_expr_parser_not_h0 (e : Nat → List V → Option V) (v0 v1 v2 v3 : V) : vl e 11408 1 [v0, v1, v2, v3] = y.seiche_expr_parser_not_h0 (vl e) v0 v1 v2 v3 := val_of (by kernel_rfl)
noncomputable def y.seiche_expr_parser_takes_h0 (Γ : Gam) (v0 v1 v2 v3 v4 : V) : Option V :=
  ch Γ 10624 [v1, v2, v3, v4] fun v5 =>
  pr (.ext 0) [v5] fun v6 =>
  pr (.ext 1) [v5] fun v7 =>
  pr (.ext 2) [v5] fun v8 =>
  pr (.ext 3) [v5] fun v9 =>
  pr (.len true) [v6] fun v10 =>
  pr (.bin (.sub) (.no)) [v10, v7] fun v11 =>
  pr (.len true) [v0] fun v12 =>
  pr (.bin (.lss) (.no)) [v11, v12] fun v13 =>
  vif v13 (
    some (.tup [(.bool false), v6, v7, v8, v9])) (
    pr (.len true) [v0] fun v14 =>
    pr (.bin (.add) (.no)) [v7, v14] fun v15 =>
    pr (.sls true true) [v6, v7, v15] fun v16 =>
    pr (.bin (.neq) (.no)) [v16, v0] fun v17 =>
    vif v17 (
      some (.tup [(.bool false), v6, v7, v8, v9])) (
      pr (.len true) [v0] fun v18 =>
      pr (.bin (.add) (.no)) [v7, v18] fun v19 =>
      some (.tup [(.bool true), v6, v19, v8, v9])))
theorem w.seiche_expr_parser_takes_h0 (e : Nat → List V → Option V) (v0 v1 v2 v3 v4 : V) : vl e 11392 1 [v0, v1, v2, v3, v4] = y.seiche_expr_parser_takes_h0 (vl e) v0 v1 v2 v3 v4 := val_of (by kernel_rfl)
noncomputable def y.seiche_expr_parser_blanks_h0 (Γ : Gam) (v0 v1 v2 v3 : V) : Option V :=
  Γ 10624 3 [v0, v1, v2, v3]
theorem w.seiche_expr_parser_blanks_h0 (e : Nat → List V → Option V) (v0 v1 v2 v3 : V) : vl e 10624 1 [v0, v1, v2, v3] = y.seiche_expr_parser_blanks_h0 (vl e) v0 v1 v2 v3 := val_of (by kernel_rfl)
noncomputable def y.seiche_expr_parser_blanks_h0_3 (Γ : Gam) (v0 v1 v2 v3 : V) : Option V :=
  pr (.len true) [v0] fun v4 =>
  pr (.bin (.lss) (.no)) [v1, v4] fun v5 =>
  vif v5 (
    pr .idx [v0, v1] fun v6 =>
    pr (.bin (.eql) (.no)) [v6, (.int .u8 32)] fun v7 =>
    vif v7 (
      pr (.bin (.add) (.no)) [v1, (.int .i64 1)] fun v8 =>
      Γ 10624 3 [v0, v8, v2, v3]) (
      pr .idx [v0, v1] fun v8 =>
      pr (.bin (.eql) (.no)) [v8, (.int .u8 9)] fun v9 =>
      vif v9 (
        pr (.bin (.add) (.no)) [v1, (.int .i64 1)] fun v10 =>
        Γ 10624 3 [v0, v10, v2, v3]) (
        some (.tup [v0, v1, v2, v3])))) (
    some (.tup [v0, v1, v2, v3]))
theorem w.seiche_expr_parser_blanks_h0_3 (e : Nat → List V → Option V) (v0 v1 v2 v3 : V) : vl e 10624 3 [v0, v1, v2, v3] = y.seiche_expr_parser_blanks_h0_3 (vl e) v0 v1 v2 v3 := val_of (by kernel_rfl)
noncomputable def y.seiche_seicheref13_Read_Part_h0 (Γ : Gam) (v0 v1 v2 : V) : Option V :=
  ch Γ 11312 [(.str [40]), v0, v1, v2] fun v3 =>
  pr (.ext 0) [v3] fun v4 =>
  pr (.ext 1) [v3] fun v5 =>
  pr (.ext 2) [v3] fun v6 =>
  pr (.ext 3) [v3] fun v7 =>
  vif v4 (
    pr (.bin (.add) (.no)) [v7, (.int .i64 1)] fun v8 =>
    pr (.bin (.gtr) (.no)) [v8, (.int .i64 64)] fun v9 =>
    vif v9 (
      some (.tup [(.int .i64 8), v5, v6, v8])) (
      ch Γ 10912 [v5, v6, v8] fun v10 =>
      pr (.ext 0) [v10] fun v11 =>
      pr (.ext 1) [v10] fun v12 =>
      pr (.ext 2) [v10] fun v13 =>
      pr (.ext 3) [v10] fun v14 =>
      pr (.bin (.neq) (.no)) [v11, (.int .i64 0)] fun v15 =>
      vif v15 (
        some (.tup [v11, v12, v13, v14])) (
        pr (.bin (.sub) (.no)) [v14, (.int .i64 1)] fun v16 =>
        ch Γ 11312 [(.str [41]), v12, v13, v16] fun v17 =>
        pr (.ext 0) [v17] fun v18 =>
        pr (.ext 1) [v17] fun v19 =>
        pr (.ext 2) [v17] fun v20 =>
        pr (.ext 3) [v17] fun v21 =>
        pr (.un (.not)) [v18] fun v22 =>
        vif v22 (
          some (.tup [(.int .i64 4), v19, v20, v21])) (
          some (.tup [(.int .i64 0), v19, v20, v21]))))) (
    pr (.len false) [v5] fun v8 =>
    pr (.bin (.eql) (.no)) [v8, (.int .i64 0)] fun v9 =>
    vif v9 (
      some (.tup [(.int .i64 4), v5, v6, v7])) (
      pr (.elem 1) [v5, (.int .i64 0)] fun v10 =>
      pr (.ld none 0) [v10] fun v11 =>
      ca Γ 69 [v11] fun v12 =>
      pr (.un (.not)) [v12] fun v13 =>
      vif v13 (
        some (.tup [(.int .i64 4), v5, v6, v7])) (
        pr (.elem 1) [v5, (.int .i64 0)] fun v14 =>
        pr (.ld none 0) [v14] fun v15 =>
        pr (.bsl 1) [v15] fun v16 =>
        pr (.app 1) [v6, v16] fun v17 =>
        pr (.slc 1 true false false) [v5, (.int .i64 1)] fun v18 =>
        some (.tup [(.int .i64 0), v18, v17, v7]))))
theorem w.seiche_seicheref13_Read_Part_h0 (e : Nat → List V → Option V) (v0 v1 v2 : V) : vl e 11808 1 [v0, v1, v2] = y.seiche_seicheref13_Read_Part_h0 (vl e) v0 v1 v2 := val_of (by kernel_rfl)
noncomputable def y.seiche_expr_parser_part_h0 (Γ : Gam) (v0 v1 v2 v3 : V) : Option V :=
  ch Γ 11392 [(.str [40]), v0, v1, v2, v3] fun v4 =>
  pr (.ext 0) [v4] fun v5 =>
  pr (.ext 1) [v4] fun v6 =>
  pr (.ext 2) [v4] fun v7 =>
  pr (.ext 3) [v4] fun v8 =>
  pr (.ext 4) [v4] fun v9 =>
  vif v5 (
    pr (.bin (.add) (.no)) [v9, (.int .i64 1)] fun v10 =>
    pr (.bin (.gtr) (.no)) [v10, (.int .i64 64)] fun v11 =>
    vif v11 (
      some (.tup [(.int .i64 8), v6, v7, v8, v10])) (
      ch Γ 10608 [v6, v7, v8, v10] fun v12 =>
      pr (.ext 0) [v12] fun v13 =>
      pr (.ext 1) [v12] fun v14 =>
      pr (.ext 2) [v12] fun v15 =>
      pr (.ext 3) [v12] fun v16 =>
      pr (.ext 4) [v12] fun v17 =>
      pr (.bin (.neq) (.no)) [v13, (.int .i64 0)] fun v18 =>
      vif v18 (
        some (.tup [v13, v14, v15, v16, v17])) (
        pr (.bin (.sub) (.no)) [v17, (.int .i64 1)] fun v19 =>
        ch Γ 11392 [(.str [41]), v14, v15, v16, v19] fun v20 =>
        pr (.ext 0) [v20] fun v21 =>
        pr (.ext 1) [v20] fun v22 =>
        pr (.ext 2) [v20] fun v23 =>
        pr (.ext 3) [v20] fun v24 =>
        pr (.ext 4) [v20] fun v25 =>
        pr (.un (.not)) [v21] fun v26 =>
        vif v26 (
          some (.tup [(.int .i64 4), v22, v23, v24, v25])) (
          some (.tup [(.int .i64 0), v22, v23, v24, v25]))))) (
    ch Γ 10624 [v6, v7, v8, v9] fun v10 =>
    pr (.ext 0) [v10] fun v11 =>
    pr (.ext 1) [v10] fun v12 =>
    pr (.ext 2) [v10] fun v13 =>
    pr (.ext 3) [v10] fun v14 =>
    Γ 11664 48 [v12, v11, v12, v13, v14])
theorem w.seiche_expr_parser_part_h0 (e : Nat → List V → Option V) (v0 v1 v2 v3 : V) : vl e 11664 1 [v0, v1, v2, v3] = y.seiche_expr_parser_part_h0 (vl e) v0 v1 v2 v3 := val_of (by kernel_rfl)
noncomputable def y.seiche_expr_parser_part_h0_48 (Γ : Gam) (v0 v1 v2 v3 v4 : V) : Option V :=
  pr (.len true) [v1] fun v5 =>
  pr (.bin (.lss) (.no)) [v2, v5] fun v6 =>
  vif v6 (
    pr .idx [v1, v2] fun v7 =>
    ca Γ 67 [v7] fun v8 =>
    vif v8 (
      pr (.bin (.add) (.no)) [v2, (.int .i64 1)] fun v9 =>
      Γ 11664 48 [v0, v1, v9, v3, v4]) (
      pr (.bin (.eql) (.no)) [v2, v0] fun v9 =>
      vif v9 (
        some (.tup [(.int .i64 4), v1, v2, v3, v4])) (
        pr (.sls true true) [v1, v0, v2] fun v10 =>
        pr (.bsl 1) [v10] fun v11 =>
        pr (.app 1) [v3, v11] fun v12 =>
        some (.tup [(.int .i64 0), v1, v2, v12, v4])))) (
    pr (.bin (.eql) (.no)) [v2, v0] fun v7 =>
    vif v7 (
      some (.tup [(.int .i64 4), v1, v2, v3, v4])) (
      pr (.sls true true) [v1, v0, v2] fun v8 =>
      pr (.bsl 1) [v8] fun v9 =>
      pr (.app 1) [v3, v9] fun v10 =>
      some (.tup [(.int .i64 0), v1, v2, v10, v4])))
theorem w.seiche_expr_parser_part_h0_48 (e : Nat → List V → Option V) (v0 v1 v2 v3 v4 : V) : vl e 11664 48 [v0, v1, v2, v3, v4] = y.seiche_expr_parser_part_h0_48 (vl e) v0 v1 v2 v3 v4 := val_of (by kernel_rfl)
end Go.Proofs.YtghjeddphkmciaaDoor
/-
  What functions of the program come to: all of them. Printed by programs of this seat.
-/
/-
  Q13: tags: what the program's functions and the document's come to. Own work of this seat.
-/
namespace Go.Proofs.YtghjeddphkmciaaDoor
open Go.Abs
set_option maxRecDepth 10000
variable {e : Nat → List V → Option V}
def sign (c : UInt8) : Bool := decide ((97 ≤ c.toNat ∧ c.toNat ≤ 122) ∨ (65 ≤ c.toNat ∧ c.toNat ≤ 90) ∨ (48 ≤ c.toNat ∧ c.toNat ≤ 57) ∨ c.toNat = 95 ∨ c.toNat = 46)
def isTag (x : Bytes) : Bool := x.all sign && !x.isEmpty
theorem next64 {i n : Nat} (h : i < n) (hn : n ≤ 1152921504606846976) : IntKind.i64.wrap ((i : Int) + 1) = ((i + 1 : Nat) : Int) := w64 _ (by omega)
theorem v.Sign (c : UInt8) : vl e 80 0 [byteV c] = some (.bool (sign c)) := by
  rw [w.seicheref13_Sign]; unfold y.seicheref13_Sign sign
  simp only [yy, byteV]
  repeat' split
  all_goals first | exact some_t (by omega) | exact some_f (by omega) | exact some_d (by omega)
theorem v.tag (c : UInt8) : vl e 67 0 [byteV c] = some (.bool (sign c)) := by
  rw [w.expr_tag]; unfold y.expr_tag sign
  simp only [yy, byteV]
  repeat' split
  all_goals first | exact some_t (by omega) | exact some_f (by omega) | exact some_d (by omega)
theorem v.Tag13_8 (x : Bytes) (hs : x.length ≤ 1152921504606846976) : ∀ (n i : Nat), i + n = x.length → vl e 69 8 [.str x, .int .i64 i] = some (.bool ((x.drop i).all sign && !x.isEmpty))
  | 0, i, h => by
    rw [w.seicheref13_Tag_8]; unfold y.seicheref13_Tag_8
    simp only [yy, if_neg (show ¬ ((i : Int) < (x.length : Int)) by omega)]
    rw [List.drop_eq_nil_of_le (by omega)]
    cases x <;> simp
  | n + 1, i, h => by
    rw [w.seicheref13_Tag_8]; unfold y.seicheref13_Tag_8
    have h1 : (i : Int) < (x.length : Int) := by omega
    rw [List.drop_eq_getElem_cons (by omega), List.all_cons]
    cases hc : sign x[i] <;> simp only [yy, if_pos h1, v_idx (List.getElem?_eq_getElem (show i < x.length by omega)), v.Sign, hc, next64 (show i < x.length by omega) hs, v.Tag13_8 x hs n (i + 1) (by omega)]
    · rfl
    · simp
theorem v.Tag13 (x : Bytes) (hs : x.length ≤ 1152921504606846976) : vl e 69 0 [.str x] = some (.bool (isTag x)) := by
  rw [w.seicheref13_Tag]; exact v.Tag13_8 x hs x.length 0 (by omega)

/-! ## slices.IndexFunc over bytes -/
theorem v_s2b {x : Bytes} : evp .s2b [.str x] = some (.sl false 1 (encB x)) := rfl
theorem v_ld0 {x : V} (h : x.sc = true) : evp (.ld none 0) [x] = some x := by cases x <;> first | rfl | cases h
theorem encB_get (x : Bytes) (i : Nat) : (encB x)[i]? = (x[i]?).map byteV := by simp [encB]
theorem encB_len (x : Bytes) : (encB x).length = x.length := by simp [encB]
theorem v.notSign (c : UInt8) : vl e 66 0 [byteV c] = some (.bool !(sign c)) := by
  rw [w.expr_Tag_1]; unfold y.expr_Tag_1
  simp only [yy, v.tag]
theorem v.idxF_8 (x : Bytes) (hs : x.length ≤ 1152921504606846976) : ∀ (n i : Nat), i + n = x.length → ∃ r : Int, vl e 89 8 [.sl false 1 (encB x), .fn 66 [], .int .i64 x.length, .int .i64 i] = some (.int .i64 r) ∧ (0 ≤ r ↔ (x.drop i).all sign = false)
  | 0, i, h => by
    refine ⟨-1, ?_, ?_⟩
    · rw [w.slices_IndexFunc_Lbyte_byte_8]; unfold y.slices_IndexFunc_Lbyte_byte_8
      simp only [yy, if_neg (show ¬ ((i : Int) < (x.length : Int)) by omega)]
    · rw [List.drop_eq_nil_of_le (by omega)]; simp
  | n + 1, i, h => by
    have h1 : (i : Int) < (x.length : Int) := by omega
    have h2 : (encB x)[i]? = some (byteV x[i]) := by rw [encB_get, List.getElem?_eq_getElem (by omega)]; rfl
    have hv : vApply (vl e) (.fn 66 []) [byteV x[i]] = some (.bool !(sign x[i])) := v.notSign _
    obtain ⟨r, hr, hr2⟩ := v.idxF_8 x hs n (i + 1) (by omega)
    rw [w.slices_IndexFunc_Lbyte_byte_8]; unfold y.slices_IndexFunc_Lbyte_byte_8
    rw [List.drop_eq_getElem_cons (by omega), List.all_cons]
    cases hc : sign x[i] with
    | false =>
      refine ⟨i, ?_, by simp⟩
      simp only [yy, cv, if_pos h1, v_elem h2, v_ld0 (show (byteV x[i]).sc = true from rfl), hv, hc]
    | true =>
      refine ⟨r, ?_, by simpa using hr2⟩
      simp only [yy, cv, if_pos h1, v_elem h2, v_ld0 (show (byteV x[i]).sc = true from rfl), hv, hc, next64 (show i < x.length by omega) hs, hr]
theorem v.Tag (x : Bytes) (hs : x.length ≤ 1152921504606846976) : vl e 40 0 [.str x] = some (.bool (isTag x)) := by
  rw [w.expr_Tag]; unfold y.expr_Tag isTag
  have hC : vl e 65 0 [.sl false 1 (encB x), .fn 66 []] = some (.bool !(x.all sign)) := by
    rw [w.slices_ContainsFunc_Lbyte_byte]; unfold y.slices_ContainsFunc_Lbyte_byte
    have hI : ∃ r : Int, vl e 89 0 [.sl false 1 (encB x), .fn 66 []] = some (.int .i64 r) ∧ (0 ≤ r ↔ x.all sign = false) := by
      obtain ⟨r, h1, h2⟩ := v.idxF_8 (e := e) x hs x.length 0 (by omega)
      refine ⟨r, ?_, by simpa using h2⟩
      rw [w.slices_IndexFunc_Lbyte_byte]; unfold y.slices_IndexFunc_Lbyte_byte
      simp only [yy, encB_len]; exact h1
    obtain ⟨r, h1, h2⟩ := hI
    simp only [yy, h1]
    cases hx : x.all sign
    · rw [decide_eq_true (h2.2 hx)]; rfl
    · rw [decide_eq_false (fun h => by rw [h2.1 h] at hx; cases hx)]; rfl
  simp only [yy, v_s2b, hC]
  cases x with
  | nil => rfl
  | cons a r => simp
end Go.Proofs.YtghjeddphkmciaaDoor
/-
  Q13b: the parser of constraints: blanks and signs. Own work of this seat.
-/
namespace Go.Proofs.YtghjeddphkmciaaDoor
open Go.Abs
set_option maxRecDepth 10000
variable {e : Nat → List V → Option V}
def blank (c : UInt8) : Bool := decide (c.toNat = 32 ∨ c.toNat = 9)
/-- the parser, as values -/
abbrev st4 (s : Bytes) (i : Nat) (o d : V) : List V := [.str s, .int .i64 i, o, d]
def skipN (s : Bytes) (i : Nat) : Nat := i + ((s.drop i).takeWhile blank).length
theorem skipN_le (s : Bytes) {i : Nat} (h : i ≤ s.length) : skipN s i ≤ s.length := by
  have := (List.takeWhile_sublist blank (l := s.drop i)).length_le
  simp only [List.length_drop] at this
  unfold skipN; omega
theorem skipN_t {s : Bytes} {i : Nat} (h : i < s.length) (hb : blank s[i] = true) : skipN s i = skipN s (i + 1) := by
  unfold skipN; rw [List.drop_eq_getElem_cons h, List.takeWhile_cons, hb]; simp; omega
theorem skipN_f {s : Bytes} {i : Nat} (h : i < s.length) (hb : blank s[i] = false) : skipN s i = i := by
  unfold skipN; rw [List.drop_eq_getElem_cons h, List.takeWhile_cons, hb]; simp
theorem skipN_end {s : Bytes} {i : Nat} (h : s.length ≤ i) : skipN s i = i := by
  unfold skipN; rw [List.drop_eq_nil_of_le h]; simp
theorem v.blanks_3 (s : Bytes) (hs : s.length ≤ 1152921504606846976) (o d : V) : ∀ (n i : Nat), i + n = s.length → vl e 10624 3 (st4 s i o d) = some (.tup (st4 s (skipN s i) o d))
  | 0, i, h => by
    rw [w.seiche_expr_parser_blanks_h0_3, skipN_end (by omega)]; unfold y.seiche_expr_parser_blanks_h0_3
    simp only [yy, if_neg (show ¬ ((i : Int) < (s.length : Int)) by omega)]
  | n + 1, i, h => by
    have h1 : (i : Int) < (s.length : Int) := by omega
    rw [w.seiche_expr_parser_blanks_h0_3]; unfold y.seiche_expr_parser_blanks_h0_3
    have ih := v.blanks_3 s hs o d n (i + 1) (by omega)
    simp only [yy, if_pos h1, v_idx (List.getElem?_eq_getElem (show i < s.length by omega)), byteV, next64 (show i < s.length by omega) hs, ih]
    by_cases hb : blank s[i] = true
    · rw [skipN_t (by omega) hb]
      by_cases h2 : (s[i].toNat : Int) = 32
      · rw [if_pos h2]
      · have : (s[i].toNat : Int) = 9 := by have := of_decide_eq_true hb; omega
        rw [if_neg h2, if_pos this]
    · have hb' : blank s[i] = false := by simpa using hb
      have := of_decide_eq_false hb'
      rw [skipN_f (by omega) hb', if_neg (by omega), if_neg (by omega)]
theorem v.blanks (s : Bytes) (hs : s.length ≤ 1152921504606846976) (o d : V) (i : Nat) (hi : i ≤ s.length) : vl e 10624 1 (st4 s i o d) = some (.tup (st4 s (skipN s i) o d)) := by
  rw [w.seiche_expr_parser_blanks_h0]; exact v.blanks_3 s hs o d (s.length - i) i (by omega)
/-- does a sign stand behind the blanks? -/
def here (s g : Bytes) (i : Nat) : Bool := decide ((s.drop (skipN s i)).take g.length = g)
theorem v.takes (s g : Bytes) (hs : s.length ≤ 1152921504606846976) (hg : g.length ≤ 8) (o d : V) (i : Nat) (hi : i ≤ s.length) :
    vl e 11392 1 (.str g :: st4 s i o d) = some (.tup (.bool (here s g i) :: st4 s (if here s g i = true then skipN s i + g.length else skipN s i) o d)) := by
  rw [w.seiche_expr_parser_takes_h0]; unfold y.seiche_expr_parser_takes_h0
  have hj := skipN_le s hi
  have hb := v.blanks (e := e) s hs o d i hi
  generalize hjj : skipN s i = j at hj hb
  have e1 : IntKind.i64.wrap ((s.length : Int) - (j : Int)) = (s.length : Int) - (j : Int) := w64 _ (by omega)
  have e2 : IntKind.i64.wrap ((j : Int) + (g.length : Int)) = ((j + g.length : Nat) : Int) := by rw [w64 _ (by omega)]; omega
  simp only [yy, hb, e1, e2]
  by_cases h1 : s.length - j < g.length
  · rw [if_pos (by omega)]
    have : here s g i = false := by
      unfold here; rw [hjj]
      refine decide_eq_false fun h => ?_
      have := congrArg List.length h
      simp at this; omega
    rw [this]; rfl
  · rw [if_neg (by omega)]
    have hdt : (s.take (j + g.length)).drop j = (s.drop j).take g.length := by rw [List.drop_take]; congr 1; omega
    rw [v_sls2 (by omega) (by omega), hdt]
    simp only [yy]
    unfold here; rw [hjj]
    by_cases h2 : (s.drop j).take g.length = g
    · rw [if_pos h2, decide_eq_true h2]; rfl
    · rw [if_neg h2, decide_eq_false h2]; rfl

/-! ## tags -/
def runN (s : Bytes) (i : Nat) : Nat := i + ((s.drop i).takeWhile sign).length
theorem runN_le (s : Bytes) {i : Nat} (h : i ≤ s.length) : i ≤ runN s i ∧ runN s i ≤ s.length := by
  have := (List.takeWhile_sublist sign (l := s.drop i)).length_le
  simp only [List.length_drop] at this
  unfold runN; omega
theorem runN_t {s : Bytes} {i : Nat} (h : i < s.length) (hb : sign s[i] = true) : runN s i = runN s (i + 1) := by
  unfold runN; rw [List.drop_eq_getElem_cons h, List.takeWhile_cons, hb]; simp; omega
theorem runN_f {s : Bytes} {i : Nat} (h : i < s.length) (hb : sign s[i] = false) : runN s i = i := by
  unfold runN; rw [List.drop_eq_getElem_cons h, List.takeWhile_cons, hb]; simp
theorem runN_end {s : Bytes} {i : Nat} (h : s.length ≤ i) : runN s i = i := by
  unfold runN; rw [List.drop_eq_nil_of_le h]; simp
abbrev strs (l : List Bytes) : V := .sl false 1 (l.map .str)
theorem v_push {l : List Bytes} {x : Bytes} (h : l.length + 1 ≤ Lim) : evp (.app 1) [strs l, .sl false 1 [.str x]] = some (strs (l ++ [x])) := by
  rw [strs, v_app (by simpa using h)]; simp
theorem v_bsl1 {x : Bytes} : evp (.bsl 1) [.str x] = some (.sl false 1 [.str x]) := rfl
theorem v.part_48 (s : Bytes) (hs : s.length ≤ 1152921504606846976) (os : List Bytes) (ho : os.length + 1 ≤ Lim) (d : V) (i0 : Nat) : ∀ (n i : Nat), i + n = s.length → i0 ≤ i →
    vl e 11664 48 (.int .i64 i0 :: st4 s i (strs os) d) = some (.tup (if runN s i = i0 then .int .i64 4 :: st4 s (runN s i) (strs os) d else .int .i64 0 :: st4 s (runN s i) (strs (os ++ [(s.take (runN s i)).drop i0])) d)) := by
  have fin : ∀ i, i ≤ s.length → i0 ≤ i → (if (i : Int) = (i0 : Int) then some (V.tup [.int .i64 4, .str s, .int .i64 i, strs os, d]) else pr (.sls true true) [.str s, .int .i64 i0, .int .i64 i] fun v8 => pr (.bsl 1) [v8] fun v9 => pr (.app 1) [strs os, v9] fun v10 => some (.tup [.int .i64 0, .str s, .int .i64 i, v10, d])) =
      some (.tup (if i = i0 then .int .i64 4 :: st4 s i (strs os) d else .int .i64 0 :: st4 s i (strs (os ++ [(s.take i).drop i0])) d)) := by
    intro i h1 h2
    by_cases h3 : i = i0
    · rw [if_pos (by omega), if_pos h3]
    · rw [if_neg (by omega), if_neg h3]
      simp only [yy, v_sls2 h2 h1, v_bsl1, v_push ho]
  intro n
  induction n with
  | zero =>
    intro i h h0
    rw [w.seiche_expr_parser_part_h0_48, runN_end (by omega)]; unfold y.seiche_expr_parser_part_h0_48
    simp only [yy, if_neg (show ¬ ((i : Int) < (s.length : Int)) by omega)]
    exact fin i (by omega) h0
  | succ n ih =>
    intro i h h0
    rw [w.seiche_expr_parser_part_h0_48]; unfold y.seiche_expr_parser_part_h0_48
    have h1 : (i : Int) < (s.length : Int) := by omega
    cases hb : sign s[i] with
    | true =>
      rw [runN_t (by omega) hb]
      simp only [yy, if_pos h1, v_idx (List.getElem?_eq_getElem (show i < s.length by omega)), v.tag, hb, next64 (show i < s.length by omega) hs]
      exact ih (i + 1) (by omega) (by omega)
    | false =>
      rw [runN_f (by omega) hb]
      simp only [yy, if_pos h1, v_idx (List.getElem?_eq_getElem (show i < s.length by omega)), v.tag, hb]
      exact fin i (by omega) h0
end Go.Proofs.YtghjeddphkmciaaDoor
/-
  Q13c: the pieces of a constraint. Own work of this seat.
-/
namespace Go.Proofs.YtghjeddphkmciaaDoor
open Go.Abs
set_option maxRecDepth 10000
variable {e : Nat → List V → Option V}
/-- how many bytes the piece has with which a text begins; 0: there is none -/
def tokLen : Bytes → Nat
  | [] => 0
  | c :: r => if sign c = true then ((c :: r).takeWhile sign).length else if c.toNat = 33 ∨ c.toNat = 40 ∨ c.toNat = 41 then 1 else if (c :: r).take 2 = [38, 38] ∨ (c :: r).take 2 = [124, 124] then 2 else 0
/-- the pieces, of so many rounds -/
def pcs : Nat → Bytes → List Bytes
  | 0, _ => []
  | _ + 1, [] => []
  | n + 1, c :: r => if blank c = true then pcs n r else if tokLen (c :: r) = 0 then [[]] else (c :: r).take (tokLen (c :: r)) :: pcs n ((c :: r).drop (tokLen (c :: r)))
theorem sign_not_blank {c : UInt8} (h : sign c = true) : blank c = false := by
  have := of_decide_eq_true h
  exact decide_eq_false (by omega)
theorem v.P22 (s : Bytes) (hs : s.length ≤ 1152921504606846976) (o : V) (i : Nat) : ∀ (m n : Nat), i + n + m = s.length → vl e 56 22 [.str s, o, .int .i64 i, .int .i64 n] = vl e 56 31 [.str s, o, .int .i64 i, .int .i64 ((runN s (i + n) - i : Nat) : Int)] := by
  intro m
  induction m with
  | zero =>
    intro n h
    rw [w.seicheref13_Pieces_22, runN_end (by omega)]; unfold y.seicheref13_Pieces_22
    have e1 : IntKind.i64.wrap ((i : Int) + (n : Int)) = ((i + n : Nat) : Int) := by rw [w64 _ (by omega)]; omega
    simp only [yy, e1, if_neg (show ¬ (((i + n : Nat) : Int) < (s.length : Int)) by omega)]
    rw [show i + n - i = n by omega]
  | succ m ih =>
    intro n h
    rw [w.seicheref13_Pieces_22]; unfold y.seicheref13_Pieces_22
    have e1 : IntKind.i64.wrap ((i : Int) + (n : Int)) = ((i + n : Nat) : Int) := by rw [w64 _ (by omega)]; omega
    have hlt : i + n < s.length := by omega
    cases hb : sign s[i + n] with
    | true =>
      rw [runN_t hlt hb]
      simp only [yy, e1, if_pos (show ((i + n : Nat) : Int) < (s.length : Int) by omega), v_idx (List.getElem?_eq_getElem hlt), v.Sign, hb, next64 (show n < s.length by omega) hs]
      rw [show i + n + 1 = i + (n + 1) by omega]
      exact ih (n + 1) (by omega)
    | false =>
      rw [runN_f hlt hb]
      simp only [yy, e1, if_pos (show ((i + n : Nat) : Int) < (s.length : Int) by omega), v_idx (List.getElem?_eq_getElem hlt), v.Sign, hb]
      rw [show i + n - i = n by omega]
theorem drop_take_eq (s : Bytes) (i k : Nat) : (s.take (i + k)).drop i = (s.drop i).take k := by rw [List.drop_take]; congr 1; omega
theorem v.P51 (s : Bytes) (hs : s.length ≤ 1152921504606846976) (os : List Bytes) (ho : os.length + 1 ≤ Lim) (i k : Nat) (h : i + k ≤ s.length) :
    vl e 56 51 [.str s, strs os, .int .i64 i, .int .i64 k] = if k = 0 then some (strs (os ++ [[]])) else vl e 56 10 [.str s, strs (os ++ [(s.drop i).take k]), .int .i64 ((i + k : Nat) : Int)] := by
  rw [w.seicheref13_Pieces_51]; unfold y.seicheref13_Pieces_51
  have e1 : IntKind.i64.wrap ((i : Int) + (k : Int)) = ((i + k : Nat) : Int) := by rw [w64 _ (by omega)]; omega
  by_cases hk : k = 0
  · subst hk
    simp only [yy, if_true, Int.natCast_zero, v_bsl1, v_push ho]
  · simp only [yy, e1, if_neg hk, if_neg (show ¬ ((k : Int) = 0) by omega), v_sls2 (show i ≤ i + k by omega) h, drop_take_eq, v_bsl1, v_push ho]
theorem v.P42 (s : Bytes) (hs : s.length ≤ 1152921504606846976) (o : V) (i n : Nat) (hi : i < s.length) (b : Bool) :
    vl e 56 42 [.str s, o, .int .i64 i, .int .i64 n, .bool b] = vl e 56 51 [.str s, o, .int .i64 i, .int .i64 ((if b = true then 1 else if n = 0 ∧ ((s.drop i).take 2 = [38, 38] ∨ (s.drop i).take 2 = [124, 124]) then 2 else n : Nat) : Int)] := by
  rw [w.seicheref13_Pieces_42]; unfold y.seicheref13_Pieces_42
  cases b with
  | true => simp only [yy]; rfl
  | false =>
    have e2 : IntKind.i64.wrap ((s.length : Int) - 1) = ((s.length - 1 : Nat) : Int) := by rw [w64 _ (by omega)]; omega
    have e3 : IntKind.i64.wrap ((i : Int) + 2) = ((i + 2 : Nat) : Int) := by rw [w64 _ (by omega)]; omega
    simp only [yy, e2, e3]
    by_cases hn : n = 0
    · rw [if_pos (by omega)]
      by_cases hl : i < s.length - 1
      · rw [if_pos (by omega), v_sls2 (by omega) (by omega), drop_take_eq]
        simp only [yy]
        by_cases h1 : (s.drop i).take 2 = [38, 38]
        · rw [if_pos h1, if_neg (by decide), if_pos ⟨hn, .inl h1⟩]; rfl
        · rw [if_neg h1]
          by_cases h2 : (s.drop i).take 2 = [124, 124]
          · rw [if_pos h2, if_neg (by decide), if_pos ⟨hn, .inr h2⟩]; rfl
          · rw [if_neg h2, if_neg (by decide), if_neg (fun h => h.2.elim h1 h2)]
      · rw [if_neg (by omega), if_neg (by decide), if_neg]
        rintro ⟨_, h | h⟩ <;> (have := congrArg List.length h; simp at this; omega)
    · rw [if_neg (by omega), if_neg (by decide), if_neg (fun h => hn h.1)]
theorem tokLen_cons (c : UInt8) (r : Bytes) : tokLen (c :: r) = if sign c = true then ((c :: r).takeWhile sign).length else if c.toNat = 33 ∨ c.toNat = 40 ∨ c.toNat = 41 then 1 else if (c :: r).take 2 = [38, 38] ∨ (c :: r).take 2 = [124, 124] then 2 else 0 := rfl
theorem tokLen_le (x : Bytes) : tokLen x ≤ x.length := by
  unfold tokLen
  split
  · exact Nat.le_refl _
  · rename_i c r
    split
    · exact (List.takeWhile_sublist _).length_le
    · split
      · simp
      · split
        · rename_i h
          rcases h with h | h <;> (have := congrArg List.length h; simp at this ⊢; omega)
        · exact Nat.zero_le _
theorem v.P31 (s : Bytes) (hs : s.length ≤ 1152921504606846976) (os : List Bytes) (ho : os.length + 1 ≤ Lim) (i : Nat) (hi : i < s.length) :
    vl e 56 31 [.str s, strs os, .int .i64 i, .int .i64 ((runN s i - i : Nat) : Int)] = if blank s[i] = true then vl e 56 10 [.str s, strs os, .int .i64 ((i + 1 : Nat) : Int)]
      else if tokLen (s.drop i) = 0 then some (strs (os ++ [[]])) else vl e 56 10 [.str s, strs (os ++ [(s.drop i).take (tokLen (s.drop i))]), .int .i64 ((i + tokLen (s.drop i) : Nat) : Int)] := by
  have hd : s.drop i = s[i] :: s.drop (i + 1) := List.drop_eq_getElem_cons hi
  have hle := tokLen_le (s.drop i)
  simp only [List.length_drop] at hle
  have fin : ∀ (b : Bool), (if b = true then 1 else if runN s i - i = 0 ∧ ((s.drop i).take 2 = [38, 38] ∨ (s.drop i).take 2 = [124, 124]) then 2 else runN s i - i) = tokLen (s.drop i) →
      vl e 56 42 [.str s, strs os, .int .i64 i, .int .i64 ((runN s i - i : Nat) : Int), .bool b] = if tokLen (s.drop i) = 0 then some (strs (os ++ [[]])) else vl e 56 10 [.str s, strs (os ++ [(s.drop i).take (tokLen (s.drop i))]), .int .i64 ((i + tokLen (s.drop i) : Nat) : Int)] := by
    intro b hb
    rw [v.P42 s hs _ i _ hi b, hb, v.P51 s hs os ho i _ (by omega)]
  rw [w.seicheref13_Pieces_31]; unfold y.seicheref13_Pieces_31
  simp only [yy, v_idx (List.getElem?_eq_getElem hi), byteV, next64 hi hs]
  by_cases hb : blank s[i] = true
  · rw [if_pos hb]
    by_cases h2 : (s[i].toNat : Int) = 32
    · rw [if_pos h2]
    · have : (s[i].toNat : Int) = 9 := by have := of_decide_eq_true hb; omega
      rw [if_neg h2, if_pos this]
  · rw [if_neg hb]
    have hb' := of_decide_eq_false (show blank s[i] = false by simpa using hb)
    rw [if_neg (by omega), if_neg (by omega)]
    cases hsg : sign s[i] with
    | true =>
      have hlen : runN s i - i = ((s.drop i).takeWhile sign).length := by unfold runN; omega
      have hpos : 0 < ((s.drop i).takeWhile sign).length := by rw [hd, List.takeWhile_cons, hsg]; simp
      have htok : tokLen (s.drop i) = ((s.drop i).takeWhile sign).length := by
        rw [hd, tokLen_cons, if_pos hsg]
      rw [if_neg (by omega)]
      exact fin false (by rw [if_neg (by decide), if_neg (by omega), htok, hlen])
    | false =>
      have hrun : runN s i - i = 0 := by rw [runN_f hi hsg]; omega
      have htok : tokLen (s.drop i) = if s[i].toNat = 33 ∨ s[i].toNat = 40 ∨ s[i].toNat = 41 then 1 else if (s.drop i).take 2 = [38, 38] ∨ (s.drop i).take 2 = [124, 124] then 2 else 0 := by
        rw [hd, tokLen_cons, hsg, if_neg (by decide)]
      rw [if_pos (by omega)]
      by_cases h1 : (s[i].toNat : Int) = 33
      · rw [if_pos h1]; exact fin true (by rw [if_pos rfl, htok, if_pos (by omega)])
      · rw [if_neg h1]
        by_cases h2 : (s[i].toNat : Int) = 40
        · rw [if_pos h2]; exact fin true (by rw [if_pos rfl, htok, if_pos (by omega)])
        · rw [if_neg h2]
          by_cases h3 : (s[i].toNat : Int) = 41
          · rw [decide_eq_true h3]; exact fin true (by rw [if_pos rfl, htok, if_pos (by omega)])
          · rw [decide_eq_false h3]
            refine fin false ?_
            rw [if_neg (by decide), htok, if_neg (show ¬ (s[i].toNat = 33 ∨ s[i].toNat = 40 ∨ s[i].toNat = 41) by omega), hrun]
            by_cases h4 : (s.drop i).take 2 = [38, 38] ∨ (s.drop i).take 2 = [124, 124]
            · rw [if_pos ⟨rfl, h4⟩, if_pos h4]
            · rw [if_neg (fun h => h4 h.2), if_neg h4]
theorem v.P10 (s : Bytes) (hs : s.length ≤ 1048576) : ∀ (n i : Nat) (os : List Bytes), i ≤ s.length → s.length - i < n → os.length ≤ i → vl e 56 10 [.str s, strs os, .int .i64 i] = some (strs (os ++ pcs n (s.drop i)))
  | 0, i, os, _, h, _ => by omega
  | n + 1, i, os, hi, h, ho => by
    rw [w.seicheref13_Pieces_10]; unfold y.seicheref13_Pieces_10
    by_cases hl : i < s.length
    · have hd : s.drop i = s[i] :: s.drop (i + 1) := List.drop_eq_getElem_cons hl
      have hle := tokLen_le (s.drop i)
      simp only [List.length_drop] at hle
      have hL : Lim = 4294967296 := rfl
      simp only [yy, if_pos (show (i : Int) < (s.length : Int) by omega)]
      have h22 := v.P22 (e := e) s (by omega) (strs os) i (s.length - i) 0 (by omega)
      rw [Int.natCast_zero, Nat.add_zero] at h22
      rw [h22, v.P31 s (by omega) os (by omega) i hl]
      have hp : pcs (n + 1) (s.drop i) = if blank s[i] = true then pcs n (s.drop (i + 1)) else if tokLen (s.drop i) = 0 then [[]] else (s.drop i).take (tokLen (s.drop i)) :: pcs n ((s.drop i).drop (tokLen (s.drop i))) := by rw [hd]; rfl
      rw [hp]
      by_cases hb : blank s[i] = true
      · rw [if_pos hb, if_pos hb]; exact v.P10 s hs n (i + 1) os (by omega) (by omega) (by omega)
      · rw [if_neg hb, if_neg hb]
        by_cases ht : tokLen (s.drop i) = 0
        · rw [if_pos ht, if_pos ht]
        · rw [if_neg ht, if_neg ht, v.P10 s hs n (i + tokLen (s.drop i)) _ (by omega) (by omega) (by simp; omega), List.drop_drop]
          simp
    · simp only [yy, if_neg (show ¬ ((i : Int) < (s.length : Int)) by omega)]
      rw [List.drop_eq_nil_of_le (by omega)]
      simp [pcs]
def pieces (s : Bytes) : List Bytes := pcs (s.length + 1) s
theorem v.Pieces (s : Bytes) (hs : s.length ≤ 1048576) : vl e 56 0 [.str s] = some (strs (pieces s)) := by
  rw [w.seicheref13_Pieces]; unfold y.seicheref13_Pieces
  exact (v.P10 (e := e) s hs (s.length + 1) 0 [] (by omega) (by omega) (by simp)).trans (by simp [pieces])
end Go.Proofs.YtghjeddphkmciaaDoor
/-
  Q13d: pieces, and where the parser stands. Own work of this seat.
-/
namespace Go.Proofs.YtghjeddphkmciaaDoor
open Go.Abs
theorem pcs_fuel : ∀ (n m : Nat) (x : Bytes), x.length < n → x.length < m → pcs n x = pcs m x
  | 0, _, x, h, _ => by omega
  | _ + 1, 0, x, _, h => by omega
  | n + 1, m + 1, [], _, _ => rfl
  | n + 1, m + 1, c :: r, h, k => by
    simp only [List.length_cons] at h k
    unfold pcs
    have := tokLen_le (c :: r)
    by_cases hb : blank c = true
    · rw [if_pos hb, if_pos hb]; exact pcs_fuel n m r (by omega) (by omega)
    · rw [if_neg hb, if_neg hb]
      by_cases ht : tokLen (c :: r) = 0
      · rw [if_pos ht, if_pos ht]
      · rw [if_neg ht, if_neg ht, pcs_fuel n m _ (by simp; omega) (by simp; omega)]
theorem pieces_nil : pieces [] = [] := rfl
theorem pieces_cons (c : UInt8) (r : Bytes) : pieces (c :: r) = if blank c = true then pieces r else if tokLen (c :: r) = 0 then [[]] else (c :: r).take (tokLen (c :: r)) :: pieces ((c :: r).drop (tokLen (c :: r))) := by
  unfold pieces
  rw [show pcs ((c :: r).length + 1) (c :: r) = if blank c = true then pcs (c :: r).length r else if tokLen (c :: r) = 0 then [[]] else (c :: r).take (tokLen (c :: r)) :: pcs (c :: r).length ((c :: r).drop (tokLen (c :: r))) from rfl]
  by_cases hb : blank c = true
  · rw [if_pos hb, if_pos hb]; rfl
  · rw [if_neg hb, if_neg hb]
    by_cases ht : tokLen (c :: r) = 0
    · rw [if_pos ht, if_pos ht]
    · rw [if_neg ht, if_neg ht]
      congr 1
      exact pcs_fuel _ _ _ (by simp; omega) (by simp)
/-- blanks ahead change nothing -/
theorem pieces_skip : ∀ x : Bytes, pieces x = pieces (x.dropWhile blank)
  | [] => rfl
  | c :: r => by
    by_cases hb : blank c = true
    · rw [pieces_cons, if_pos hb, List.dropWhile_cons, if_pos hb]; exact pieces_skip r
    · rw [List.dropWhile_cons, if_neg hb]
theorem drop_skip (s : Bytes) (i : Nat) : s.drop (skipN s i) = (s.drop i).dropWhile blank := by
  unfold skipN
  rw [← List.drop_drop]
  generalize s.drop i = x
  induction x with
  | nil => rfl
  | cons c r ih =>
    rw [List.takeWhile_cons, List.dropWhile_cons]
    by_cases hb : blank c = true
    · rw [if_pos hb, if_pos hb]; simpa using ih
    · rw [if_neg hb, if_neg hb]; rfl
theorem pieces_at (s : Bytes) (i : Nat) : pieces (s.drop i) = pieces (s.drop (skipN s i)) := by rw [drop_skip, ← pieces_skip]
/-- behind blanks stands no blank -/
theorem skip_head {x : Bytes} {c : UInt8} {r : Bytes} (h : x.dropWhile blank = c :: r) : blank c = false := by
  induction x with
  | nil => cases h
  | cons a x ih =>
    rw [List.dropWhile_cons] at h
    by_cases hb : blank a = true
    · rw [if_pos hb] at h; exact ih h
    · rw [if_neg hb] at h; cases h; simpa using hb
/-- the signs -/
def Sg (g : Bytes) : Prop := g = [33] ∨ g = [40] ∨ g = [41] ∨ g = [38, 38] ∨ g = [124, 124]
theorem pieces_tok {x : Bytes} {c : UInt8} {r : Bytes} (e : x = c :: r) (hb : blank c = false) (ht : tokLen x ≠ 0) : pieces x = x.take (tokLen x) :: pieces (x.drop (tokLen x)) := by
  subst e; rw [pieces_cons, hb, if_neg (by decide), if_neg ht]
theorem tok_sign {g : Bytes} (hg : Sg g) {x : Bytes} (h : x.take g.length = g) : tokLen x = g.length := by
  have sn : ∀ c : UInt8, (c = 33 ∨ c = 40 ∨ c = 41 ∨ c = 38 ∨ c = 124) → sign c = false := by rintro c (rfl | rfl | rfl | rfl | rfl) <;> rfl
  cases x with
  | nil => rcases hg with rfl | rfl | rfl | rfl | rfl <;> simp at h
  | cons c r =>
    rcases hg with rfl | rfl | rfl | rfl | rfl
    · simp at h; subst h; rw [tokLen_cons, sn _ (by simp), if_neg (by decide), if_pos (by decide)]; rfl
    · simp at h; subst h; rw [tokLen_cons, sn _ (by simp), if_neg (by decide), if_pos (by decide)]; rfl
    · simp at h; subst h; rw [tokLen_cons, sn _ (by simp), if_neg (by decide), if_pos (by decide)]; rfl
    · have hc : c = 38 := by cases r <;> simp at h; exact h.1
      subst hc
      rw [tokLen_cons, sn _ (by simp), if_neg (by decide), if_neg (by decide), if_pos (.inl h)]; rfl
    · have hc : c = 124 := by cases r <;> simp at h; exact h.1
      subst hc
      rw [tokLen_cons, sn _ (by simp), if_neg (by decide), if_neg (by decide), if_pos (.inr h)]; rfl
theorem here_t {s g : Bytes} (hg : Sg g) {i : Nat} (h : here s g i = true) : pieces (s.drop i) = g :: pieces (s.drop (skipN s i + g.length)) := by
  have h := of_decide_eq_true h
  rw [pieces_at]
  have ht := tok_sign hg h
  have hg0 : g.length ≠ 0 := by rcases hg with rfl | rfl | rfl | rfl | rfl <;> simp
  cases hx : s.drop (skipN s i) with
  | nil => rw [hx] at h; rcases hg with rfl | rfl | rfl | rfl | rfl <;> simp at h
  | cons c r =>
    have hb := skip_head (x := s.drop i) (by rw [← drop_skip, hx])
    rw [← hx, pieces_tok hx hb (by rw [ht]; exact hg0), ht, h, List.drop_drop]
theorem here_f {s g : Bytes} (hg : Sg g) {i : Nat} (h : here s g i = false) (t : List Bytes) : pieces (s.drop i) ≠ g :: t := by
  have h := of_decide_eq_false h
  rw [pieces_at]
  intro e
  have hg0 : g ≠ [] := by rcases hg with rfl | rfl | rfl | rfl | rfl <;> simp
  cases hx : s.drop (skipN s i) with
  | nil => rw [hx] at e; cases e
  | cons c r =>
    have hb := skip_head (x := s.drop i) (by rw [← drop_skip, hx])
    by_cases ht : tokLen (s.drop (skipN s i)) = 0
    · rw [hx] at e ht; rw [pieces_cons, hb, if_neg (by decide), if_pos ht] at e
      exact hg0 (List.cons.inj e).1.symm
    · rw [pieces_tok hx hb ht] at e
      have e1 := (List.cons.inj e).1
      have hl : g.length = tokLen (s.drop (skipN s i)) := by
        rw [← e1, List.length_take]; have := tokLen_le (s.drop (skipN s i)); omega
      exact h (by rw [hl]; exact e1)
end Go.Proofs.YtghjeddphkmciaaDoor
/-
  Q13e: both parsers. Own work of this seat.
-/
namespace Go.Proofs.YtghjeddphkmciaaDoor
open Go.Abs
set_option maxRecDepth 10000
variable {e : Nat → List V → Option V}
theorem v_slc1 {x : V} {l : List V} : evp (.slc 1 true false false) [.sl false 1 (x :: l), .int .i64 1] = some (.sl false 1 l) := by
  simp only [evp, vSlcC, vSlc, vOpt]
  simp [cut3]
def headIs (L : List Bytes) (g : Bytes) : Bool := match L with | x :: _ => decide (x = g) | [] => false
theorem v.RTake (L : List Bytes) (g : Bytes) (o d : V) : vl e 11312 1 [.str g, strs L, o, d] = some (.tup [.bool (headIs L g), strs (if headIs L g = true then L.tail else L), o, d]) := by
  rw [w.seiche_seicheref13_Read_Take_h0]; unfold y.seiche_seicheref13_Read_Take_h0
  cases L with
  | nil => simp only [yy, strs, List.map_nil, List.length_nil, Int.natCast_zero, if_true]; rfl
  | cons x r =>
    have h0 : evp (.elem 1) [strs (x :: r), .int .i64 0] = some (.str x) := v_elem (i := 0) rfl
    simp only [yy, h0, v_ld0 (show (V.str x).sc = true from rfl)]
    rw [if_neg (by simp)]
    by_cases hx : x = g
    · rw [if_pos hx, strs, List.map_cons, v_slc1]
      simp [headIs, hx]
    · rw [if_neg hx]
      simp [headIs, hx]
theorem pieces_len : ∀ (n : Nat) (x : Bytes), x.length ≤ n → (pieces x).length ≤ x.length
  | 0, [], _ => by simp [pieces_nil]
  | 0, c :: r, h => by simp at h
  | n + 1, [], _ => by simp [pieces_nil]
  | n + 1, c :: r, h => by
    rw [pieces_cons]
    simp only [List.length_cons] at h
    by_cases hb : blank c = true
    · rw [if_pos hb]; have := pieces_len n r (by omega); simp only [List.length_cons]; omega
    · rw [if_neg hb]
      by_cases ht : tokLen (c :: r) = 0
      · rw [if_pos ht]; simp
      · rw [if_neg ht]
        have := pieces_len n ((c :: r).drop (tokLen (c :: r))) (by simp; omega)
        simp only [List.length_cons, List.length_drop] at this ⊢
        omega
abbrev I (n : Int) : V := .int .i64 n
/-- two rows come to the same, of at most n pieces -/
def Same2 (e : Nat → List V → Option V) (kp kr : Nat) (s : Bytes) (n : Nat) : Prop :=
  ∀ (i : Nat) (out : List Bytes) (d : Nat), i ≤ s.length → (pieces (s.drop i)).length ≤ n → out.length + (pieces (s.drop i)).length ≤ 1048577 → d ≤ 64 →
    ∃ (er : Int) (i' : Nat) (out' : List Bytes) (d' : Int) (L' outR : List Bytes) (dR : Int),
      vl e kp 1 (st4 s i (strs out) (I d)) = some (.tup (I er :: st4 s i' (strs out') (I d'))) ∧ vl e kr 1 [strs (pieces (s.drop i)), strs out, I d] = some (.tup [I er, strs L', strs outR, I dR]) ∧
      outR.length + L'.length ≤ out.length + (pieces (s.drop i)).length ∧
      (er = 0 → i' ≤ s.length ∧ L' = pieces (s.drop i') ∧ outR = out' ∧ d' = d ∧ dR = d ∧ L'.length < (pieces (s.drop i)).length)
theorem skip_skip (s : Bytes) (i : Nat) : skipN s (skipN s i) = skipN s i := by
  have : (s.drop (skipN s i)).takeWhile blank = [] := by
    rw [drop_skip]
    cases hx : (s.drop i).dropWhile blank with
    | nil => rfl
    | cons c r => rw [List.takeWhile_cons, skip_head hx]; rfl
  show skipN s i + ((s.drop (skipN s i)).takeWhile blank).length = _
  rw [this]; rfl
theorem headIs_t {g : Bytes} {t : List Bytes} : headIs (g :: t) g = true := decide_eq_true rfl
theorem headIs_f {L : List Bytes} {g : Bytes} (h : ∀ t, L ≠ g :: t) : headIs L g = false := by
  cases L with
  | nil => rfl
  | cons x r => exact decide_eq_false fun e => h r (by rw [e])
/-- a sign: both take it, or none does -/
theorem both_take (s : Bytes) (hs : s.length ≤ 1048576) {g : Bytes} (hg : Sg g) (o d : V) (i : Nat) (hi : i ≤ s.length) :
    (∃ i', vl e 11392 1 (.str g :: st4 s i o d) = some (.tup (.bool true :: st4 s i' o d)) ∧ vl e 11312 1 [.str g, strs (pieces (s.drop i)), o, d] = some (.tup [.bool true, strs (pieces (s.drop i')), o, d]) ∧ i' ≤ s.length ∧ pieces (s.drop i) = g :: pieces (s.drop i')) ∨
    (vl e 11392 1 (.str g :: st4 s i o d) = some (.tup (.bool false :: st4 s (skipN s i) o d)) ∧ vl e 11312 1 [.str g, strs (pieces (s.drop i)), o, d] = some (.tup [.bool false, strs (pieces (s.drop i)), o, d]) ∧ ∀ t, pieces (s.drop i) ≠ g :: t) := by
  have hgl : g.length ≤ 8 := by rcases hg with rfl | rfl | rfl | rfl | rfl <;> decide
  have h1 := v.takes (e := e) s g (by omega) hgl o d i hi
  have h2 := v.RTake (e := e) (pieces (s.drop i)) g o d
  cases hh : here s g i with
  | true =>
    left
    rw [hh, if_pos rfl] at h1
    have hp := here_t hg hh
    refine ⟨_, h1, ?_, ?_, hp⟩
    · rw [h2, hp, headIs_t, if_pos rfl]; rfl
    · have := of_decide_eq_true hh
      have := congrArg List.length this
      rw [List.length_take, List.length_drop] at this
      have hj := skipN_le s hi
      omega
  | false =>
    right
    rw [hh, if_neg (by decide)] at h1
    have hp := here_f hg hh
    exact ⟨h1, by rw [h2, headIs_f hp, if_neg (by decide)], hp⟩
theorem tag_no (s : Bytes) (i : Nat) (h : runN s (skipN s i) = skipN s i) : pieces (s.drop i) = [] ∨ ∃ t r, pieces (s.drop i) = t :: r ∧ isTag t = false ∧ t.length ≤ s.length := by
  rw [pieces_at]
  cases hx : s.drop (skipN s i) with
  | nil => exact .inl rfl
  | cons c r =>
    have hb := skip_head (x := s.drop i) (by rw [← drop_skip, hx])
    have hsc : sign c = false := by
      cases hc : sign c with
      | false => rfl
      | true => unfold runN at h; rw [hx, List.takeWhile_cons, hc] at h; simp at h
    have hl : (c :: r).length ≤ s.length := by rw [← hx]; simp
    right
    by_cases ht : tokLen (c :: r) = 0
    · exact ⟨[], [], by rw [pieces_cons, hb, if_neg (by decide), if_pos ht], rfl, by simp⟩
    · refine ⟨_, _, pieces_tok rfl hb ht, ?_, by rw [List.length_take]; omega⟩
      obtain ⟨m, hm⟩ := Nat.exists_eq_succ_of_ne_zero ht
      rw [hm, List.take_succ_cons]; simp [isTag, hsc]
theorem tag_yes (s : Bytes) (i : Nat) (h : runN s (skipN s i) ≠ skipN s i) : pieces (s.drop i) = (s.take (runN s (skipN s i))).drop (skipN s i) :: pieces (s.drop (runN s (skipN s i))) ∧ isTag ((s.take (runN s (skipN s i))).drop (skipN s i)) = true := by
  rw [pieces_at]
  have hr : runN s (skipN s i) = skipN s i + ((s.drop (skipN s i)).takeWhile sign).length := rfl
  rw [hr, drop_take_eq, ← List.drop_drop]
  cases hx : s.drop (skipN s i) with
  | nil => rw [hr, hx] at h; simp at h
  | cons c r =>
    have hb := skip_head (x := s.drop i) (by rw [← drop_skip, hx])
    have hsc : sign c = true := by
      cases hc : sign c with
      | true => rfl
      | false => rw [hr, hx, List.takeWhile_cons, hc] at h; simp at h
    have ht : tokLen (c :: r) = ((c :: r).takeWhile sign).length := by rw [tokLen_cons, if_pos hsc]
    have hp := pieces_tok (x := c :: r) rfl hb (by rw [ht, List.takeWhile_cons, hsc]; simp)
    rw [ht] at hp
    refine ⟨hp, ?_⟩
    have htw : (c :: r).take ((c :: r).takeWhile sign).length = (c :: r).takeWhile sign := by
      exact (List.prefix_iff_eq_take.1 (List.takeWhile_prefix sign)).symm
    rw [htw, List.takeWhile_cons, hsc]
    simp [isTag, hsc]
theorem nat1 {d : Nat} (h : d ≤ 64) : IntKind.i64.wrap ((d : Int) + 1) = ((d + 1 : Nat) : Int) := w64 _ (by omega)
theorem nat1' {d : Nat} (h : d ≤ 64) : IntKind.i64.wrap (((d + 1 : Nat) : Int) - 1) = (d : Int) := by rw [w64 _ (by omega)]; omega
theorem part_ok (s : Bytes) (hs : s.length ≤ 1048576) (n : Nat) (hor : ∀ k, k + 1 = n → Same2 e 10608 10912 s k) : Same2 e 11664 11808 s n := by
  intro i out d hi hn hout hd
  rw [w.seiche_expr_parser_part_h0, w.seiche_seicheref13_Read_Part_h0]
  unfold y.seiche_expr_parser_part_h0 y.seiche_seicheref13_Read_Part_h0
  rcases both_take (e := e) s hs (g := [40]) (.inr (.inl rfl)) (strs out) (I d) i hi with ⟨j, p1, p2, hj, hp⟩ | ⟨p1, p2, hp⟩
  · have hlen : (pieces (s.drop i)).length = (pieces (s.drop j)).length + 1 := by rw [hp]; rfl
    by_cases hd64 : d = 64
    · refine ⟨8, j, out, ((d + 1 : Nat) : Int), pieces (s.drop j), out, ((d + 1 : Nat) : Int), ?_, ?_, by omega, fun h => by omega⟩
      · simp only [yy, p1, nat1 hd, if_pos (show (64 : Int) < ((d + 1 : Nat) : Int) by omega)]
      · simp only [yy, p2, nat1 hd, if_pos (show (64 : Int) < ((d + 1 : Nat) : Int) by omega)]
    · obtain ⟨er, i1, out1, d1, L1, outR, dR, q1, q2, q3, q4⟩ := hor (n - 1) (by omega) j out (d + 1) hj (by omega) (by omega) (by omega)
      by_cases her : er = 0
      · obtain ⟨r1, r2, r3, r4, r5, r6⟩ := q4 her
        subst her; subst r2; subst r3; subst r4; subst r5
        rcases both_take (e := e) s hs (g := [41]) (.inr (.inr (.inl rfl))) (strs outR) (I d) i1 r1 with ⟨j2, p3, p4, hj2, hp2⟩ | ⟨p3, p4, hp2⟩
        · have hlen2 : (pieces (s.drop i1)).length = (pieces (s.drop j2)).length + 1 := by rw [hp2]; rfl
          refine ⟨0, j2, outR, d, pieces (s.drop j2), outR, d, ?_, ?_, by omega, fun _ => ⟨hj2, rfl, rfl, rfl, rfl, by omega⟩⟩
          · simp only [yy, p1, nat1 hd, if_neg (show ¬ ((64 : Int) < ((d + 1 : Nat) : Int)) by omega), q1, decide_true, nat1' hd, p3, if_true]
          · simp only [yy, p2, nat1 hd, if_neg (show ¬ ((64 : Int) < ((d + 1 : Nat) : Int)) by omega), q2, decide_true, nat1' hd, p4, if_true]
        · refine ⟨4, skipN s i1, outR, d, pieces (s.drop i1), outR, d, ?_, ?_, by omega, fun h => by omega⟩
          · simp only [yy, p1, nat1 hd, if_neg (show ¬ ((64 : Int) < ((d + 1 : Nat) : Int)) by omega), q1, decide_true, nat1' hd, p3, if_true]
          · simp only [yy, p2, nat1 hd, if_neg (show ¬ ((64 : Int) < ((d + 1 : Nat) : Int)) by omega), q2, decide_true, nat1' hd, p4, if_true]
      · refine ⟨er, i1, out1, d1, L1, outR, dR, ?_, ?_, by omega, fun h => absurd h her⟩
        · simp only [yy, p1, nat1 hd, if_neg (show ¬ ((64 : Int) < ((d + 1 : Nat) : Int)) by omega), q1, if_neg her]
        · simp only [yy, p2, nat1 hd, if_neg (show ¬ ((64 : Int) < ((d + 1 : Nat) : Int)) by omega), q2, if_neg her]
  · have hj := skipN_le s hi
    have hb := v.blanks (e := e) s (by omega) (strs out) (I d) (skipN s i) hj
    rw [skip_skip] at hb
    have h48 := v.part_48 (e := e) s (by omega) out (by have : Lim = 4294967296 := rfl; omega) (I d) (skipN s i) (s.length - skipN s i) (skipN s i) (by omega) (Nat.le_refl _)
    by_cases hr : runN s (skipN s i) = skipN s i
    · rw [if_pos hr] at h48
      refine ⟨4, runN s (skipN s i), out, d, pieces (s.drop i), out, d, ?_, ?_, by omega, fun h => by omega⟩
      · simp only [yy, p1, hb]
        exact h48
      · rcases tag_no s i hr with hL | ⟨t, r, hL, ht, htl⟩
        · rw [hL] at p2 ⊢
          simp only [yy, p2, List.map_nil, List.length_nil, Int.natCast_zero, if_true]
        · rw [hL] at p2 ⊢
          have h0 : evp (.elem 1) [strs (t :: r), .int .i64 0] = some (.str t) := v_elem (i := 0) rfl
          simp only [yy, p2, h0, v_ld0 (show (V.str t).sc = true from rfl), v.Tag13 t (by omega), ht]
          rw [if_neg (by simp)]
    · rw [if_neg hr] at h48
      obtain ⟨hL, ht⟩ := tag_yes s i hr
      have hrl := (runN_le s hj).2
      generalize htt : (s.take (runN s (skipN s i))).drop (skipN s i) = t at hL ht h48
      have htl : t.length ≤ s.length := by rw [← htt]; simp; omega
      have hlen : (pieces (s.drop i)).length = (pieces (s.drop (runN s (skipN s i)))).length + 1 := by rw [hL]; rfl
      refine ⟨0, runN s (skipN s i), out ++ [t], d, pieces (s.drop (runN s (skipN s i))), out ++ [t], d, ?_, ?_, by simp; omega, fun _ => ⟨hrl, rfl, rfl, rfl, rfl, by omega⟩⟩
      · simp only [yy, p1, hb]
        exact h48
      · rw [hL] at p2 ⊢
        have h0 : ∀ r, evp (.elem 1) [strs (t :: r), .int .i64 0] = some (.str t) := fun r => v_elem (i := 0) rfl
        have hs1 : ∀ r, evp (.slc 1 true false false) [strs (t :: r), .int .i64 1] = some (strs r) := fun r => v_slc1
        simp only [yy, p2, h0, v_ld0 (show (V.str t).sc = true from rfl), v.Tag13 t (by omega), ht, v_bsl1, v_push (show out.length + 1 ≤ Lim by have : Lim = 4294967296 := rfl; omega), hs1]
        rw [if_neg (by simp)]
theorem part_bang (L : List Bytes) (g : Bytes) (hg : Sg g) (h40 : g ≠ [40]) (t : List Bytes) (hL : L = g :: t) (o d : V) : vl e 11808 1 [strs L, o, d] = some (.tup [I 4, strs L, o, d]) := by
  subst hL
  rw [w.seiche_seicheref13_Read_Part_h0]; unfold y.seiche_seicheref13_Read_Part_h0
  have p2 := v.RTake (e := e) (g :: t) [40] o d
  rw [headIs_f (fun r h => h40 (List.cons.inj h).1), if_neg (by decide)] at p2
  have h0 : evp (.elem 1) [strs (g :: t), .int .i64 0] = some (.str g) := v_elem (i := 0) rfl
  have hl : g.length ≤ 8 := by rcases hg with rfl | rfl | rfl | rfl | rfl <;> decide
  have ht : isTag g = false := by rcases hg with rfl | rfl | rfl | rfl | rfl <;> rfl
  simp only [yy, p2, h0, v_ld0 (show (V.str g).sc = true from rfl), v.Tag13 g (by omega), ht]
  rw [if_neg (by simp)]
theorem not_ok (s : Bytes) (hs : s.length ≤ 1048576) (n : Nat) (hpt : Same2 e 11664 11808 s n) : Same2 e 11408 11600 s n := by
  have hLim : Lim = 4294967296 := rfl
  intro i out d hi hn hout hd
  rw [w.seiche_expr_parser_not_h0, w.seiche_seicheref13_Read_Not_h0]
  unfold y.seiche_expr_parser_not_h0 y.seiche_seicheref13_Read_Not_h0
  rcases both_take (e := e) s hs (g := [33]) (.inl rfl) (strs out) (I d) i hi with ⟨j, p1, p2, hj, hp⟩ | ⟨p1, p2, hp⟩
  · have hlen : (pieces (s.drop i)).length = (pieces (s.drop j)).length + 1 := by rw [hp]; rfl
    rcases both_take (e := e) s hs (g := [33]) (.inl rfl) (strs out) (I d) j hj with ⟨j2, p3, p4, hj2, hp2⟩ | ⟨p3, p4, hp2⟩
    · have hb := part_bang (e := e) (pieces (s.drop j)) [33] (.inl rfl) (by decide) _ hp2 (strs out) (I d)
      refine ⟨4, j2, out, d, pieces (s.drop j), out, d, ?_, ?_, by omega, fun h => by omega⟩
      · simp only [yy, p1, p3]
      · simp only [yy, p2, hb]
        rw [if_neg (by decide)]
    · have hle := skipN_le s hj
      obtain ⟨er, i1, out1, d1, L1, outR, dR, q1, q2, q3, q4⟩ := hpt (skipN s j) out d hle (by rw [← pieces_at]; omega) (by rw [← pieces_at]; omega) hd
      rw [← pieces_at] at q2 q3 q4
      by_cases her : er = 0
      · obtain ⟨r1, r2, r3, r4, r5, r6⟩ := q4 her
        subst her; subst r2; subst r3; subst r4; subst r5
        refine ⟨0, i1, outR ++ [[33]], d, pieces (s.drop i1), outR ++ [[33]], d, ?_, ?_, by simp; omega, fun _ => ⟨r1, rfl, rfl, rfl, rfl, by omega⟩⟩
        · simp only [yy, p1, p3, q1, decide_true, v_bsl1, v_push (show outR.length + 1 ≤ Lim by omega), if_true]
        · simp only [yy, p2, q2, if_true, v_bsl1, v_push (show outR.length + 1 ≤ Lim by omega)]
      · refine ⟨er, i1, out1, d1, L1, outR, dR, ?_, ?_, by omega, fun h => absurd h her⟩
        · simp only [yy, p1, p3, q1, if_neg her]
        · simp only [yy, p2, q2, if_neg her]
  · have hle := skipN_le s hi
    obtain ⟨er, i1, out1, d1, L1, outR, dR, q1, q2, q3, q4⟩ := hpt (skipN s i) out d hle (by rw [← pieces_at]; omega) (by rw [← pieces_at]; omega) hd
    rw [← pieces_at] at q2 q3 q4
    refine ⟨er, i1, out1, d1, L1, outR, dR, ?_, ?_, q3, q4⟩
    · simp only [yy, p1, q1]
    · simp only [yy, p2, q2]
      by_cases her : er = 0
      · rw [if_pos her]
      · rw [if_neg her]
end Go.Proofs.YtghjeddphkmciaaDoor
/-
  Q13f: both parsers come to the same. Own work of this seat.
-/
namespace Go.Proofs.YtghjeddphkmciaaDoor
open Go.Abs
set_option maxRecDepth 10000
variable {e : Nat → List V → Option V}
noncomputable def lst16 (Γ : Gam) (kp kl : Nat) (v0 v1 v2 v3 v4 : V) : Option V :=
  ch Γ 11392 [v0, v1, v2, v3, v4] fun v5 =>
  pr (.ext 0) [v5] fun v6 =>
  pr (.ext 1) [v5] fun v7 =>
  pr (.ext 2) [v5] fun v8 =>
  pr (.ext 3) [v5] fun v9 =>
  pr (.ext 4) [v5] fun v10 =>
  vif v6 (
    ch Γ kp [v7, v8, v9, v10] fun v11 =>
    pr (.ext 0) [v11] fun v12 =>
    pr (.ext 1) [v11] fun v13 =>
    pr (.ext 2) [v11] fun v14 =>
    pr (.ext 3) [v11] fun v15 =>
    pr (.ext 4) [v11] fun v16 =>
    pr (.bin (.neq) (.no)) [v12, (.int .i64 0)] fun v17 =>
    vif v17 (
      some (.tup [v12, v13, v14, v15, v16])) (
      pr (.bsl 1) [v0] fun v18 =>
      pr (.app 1) [v15, v18] fun v19 =>
      Γ kl 16 [v0, v13, v14, v19, v16])) (
    some (.tup [(.int .i64 0), v7, v8, v9, v10]))
noncomputable def lst1 (Γ : Gam) (kp kl : Nat) (v0 v1 v2 v3 v4 : V) : Option V :=
  ch Γ kp [v1, v2, v3, v4] fun v5 =>
  pr (.ext 0) [v5] fun v6 =>
  pr (.ext 1) [v5] fun v7 =>
  pr (.ext 2) [v5] fun v8 =>
  pr (.ext 3) [v5] fun v9 =>
  pr (.ext 4) [v5] fun v10 =>
  pr (.bin (.neq) (.no)) [v6, (.int .i64 0)] fun v11 =>
  vif v11 (
    some (.tup [v6, v7, v8, v9, v10])) (
    Γ kl 16 [v0, v7, v8, v9, v10])
noncomputable def rls8 (Γ : Gam) (g : V) (kq kr : Nat) (v0 v1 v2 v3 : V) : Option V :=
  pr (.bin (.eql) (.no)) [v0, (.int .i64 0)] fun v4 =>
  vif v4 (
    ch Γ 11312 [g, v1, v2, v3] fun v5 =>
    pr (.ext 0) [v5] fun v6 =>
    pr (.ext 1) [v5] fun v7 =>
    pr (.ext 2) [v5] fun v8 =>
    pr (.ext 3) [v5] fun v9 =>
    vif v6 (
      ch Γ kq [v7, v8, v9] fun v10 =>
      pr (.ext 0) [v10] fun v11 =>
      pr (.ext 1) [v10] fun v12 =>
      pr (.ext 2) [v10] fun v13 =>
      pr (.ext 3) [v10] fun v14 =>
      pr (.bsl 1) [g] fun v15 =>
      pr (.app 1) [v13, v15] fun v16 =>
      Γ kr 8 [v11, v12, v16, v14]) (
      some (.tup [v0, v7, v8, v9]))) (
    some (.tup [v0, v1, v2, v3]))
noncomputable def rls1 (Γ : Gam) (kq kr : Nat) (v0 v1 v2 : V) : Option V :=
  ch Γ kq [v0, v1, v2] fun v3 =>
  pr (.ext 0) [v3] fun v4 =>
  pr (.ext 1) [v3] fun v5 =>
  pr (.ext 2) [v3] fun v6 =>
  pr (.ext 3) [v3] fun v7 =>
  Γ kr 8 [v4, v5, v6, v7]
/-- parts with a sign between: both loops -/
structure Lst (e : Nat → List V → Option V) (g : Bytes) (kp kl kq kr : Nat) : Prop where
  sg : Sg g
  l1 : ∀ v0 v1 v2 v3 v4, vl e kl 1 [v0, v1, v2, v3, v4] = lst1 (vl e) kp kl v0 v1 v2 v3 v4
  l16 : ∀ v0 v1 v2 v3 v4, vl e kl 16 [v0, v1, v2, v3, v4] = lst16 (vl e) kp kl v0 v1 v2 v3 v4
  r1 : ∀ v0 v1 v2, vl e kr 1 [v0, v1, v2] = rls1 (vl e) kq kr v0 v1 v2
  r8 : ∀ v0 v1 v2 v3, vl e kr 8 [v0, v1, v2, v3] = rls8 (vl e) (.str g) kq kr v0 v1 v2 v3
theorem lst_or : Lst e [124, 124] 11024 11008 11296 10912 :=
  ⟨.inr (.inr (.inr (.inr rfl))), w.seiche_expr_parser_list_h0 e, w.seiche_expr_parser_list_h0_16 e, w.seiche_seicheref13_Read_Or_h0 e, w.seiche_seicheref13_Read_Or_h0_8 e⟩
theorem lst_and : Lst e [38, 38] 11408 11009 11600 11296 :=
  ⟨.inr (.inr (.inr (.inl rfl))), w.seiche_expr_parser_list_h1 e, w.seiche_expr_parser_list_h1_16 e, w.seiche_seicheref13_Read_And_h0 e, w.seiche_seicheref13_Read_And_h0_8 e⟩
theorem v_bslS {g : Bytes} : evp (.bsl 1) [.str g] = some (.sl false 1 [.str g]) := rfl
section
variable {g : Bytes} {kp kl kq kr : Nat}
theorem r8_err (hL : Lst e g kp kl kq kr) {er : Int} (h : er ≠ 0) (a b c : V) : vl e kr 8 [I er, a, b, c] = some (.tup [I er, a, b, c]) := by
  rw [hL.r8]; unfold rls8
  simp only [yy, if_neg h]
theorem lst_loop (hL : Lst e g kp kl kq kr) (s : Bytes) (hs : s.length ≤ 1048576) (n : Nat) (hS : Same2 e kp kq s n) : ∀ (m i : Nat) (out : List Bytes) (d : Nat), m ≤ n → i ≤ s.length → (pieces (s.drop i)).length ≤ m → out.length + (pieces (s.drop i)).length ≤ 1048577 → d ≤ 64 →
    ∃ (er : Int) (i' : Nat) (out' : List Bytes) (d' : Int) (L' outR : List Bytes) (dR : Int),
      vl e kl 16 (.str g :: st4 s i (strs out) (I d)) = some (.tup (I er :: st4 s i' (strs out') (I d'))) ∧ vl e kr 8 [I 0, strs (pieces (s.drop i)), strs out, I d] = some (.tup [I er, strs L', strs outR, I dR]) ∧
      outR.length + L'.length ≤ out.length + (pieces (s.drop i)).length ∧
      (er = 0 → i' ≤ s.length ∧ L' = pieces (s.drop i') ∧ outR = out' ∧ d' = d ∧ dR = d ∧ L'.length ≤ (pieces (s.drop i)).length) := by
  have hLim : Lim = 4294967296 := rfl
  intro m
  induction m with
  | zero =>
    intro i out d hm hi hn hout hd
    rcases both_take (e := e) s hs hL.sg (strs out) (I d) i hi with ⟨j, p1, p2, hj, hp⟩ | ⟨p1, p2, hp⟩
    · rw [hp] at hn; simp at hn
    · refine ⟨0, skipN s i, out, d, pieces (s.drop i), out, d, ?_, ?_, by omega, fun _ => ⟨skipN_le s hi, by rw [← pieces_at], rfl, rfl, rfl, by omega⟩⟩
      · rw [hL.l16]; unfold lst16
        simp only [yy, p1]
      · rw [hL.r8]; unfold rls8
        simp only [yy, p2, if_true]
  | succ m ih =>
    intro i out d hm hi hn hout hd
    rcases both_take (e := e) s hs hL.sg (strs out) (I d) i hi with ⟨j, p1, p2, hj, hp⟩ | ⟨p1, p2, hp⟩
    · have hlen : (pieces (s.drop i)).length = (pieces (s.drop j)).length + 1 := by rw [hp]; rfl
      obtain ⟨er, i1, out1, d1, L1, outR, dR, q1, q2, q3, q4⟩ := hS j out d hj (by omega) (by omega) hd
      have hb : outR.length + 1 ≤ Lim := by omega
      by_cases her : er = 0
      · obtain ⟨r1, r2, r3, r4, r5, r6⟩ := q4 her
        subst her; subst r2; subst r3; subst r4; subst r5
        obtain ⟨er2, i2, out2, d2, L2, outR2, dR2, t1, t2, t3, t4⟩ := ih i1 (outR ++ [g]) d (by omega) r1 (by omega) (by simp; omega) hd
        simp only [List.length_append, List.length_cons, List.length_nil] at t3
        refine ⟨er2, i2, out2, d2, L2, outR2, dR2, ?_, ?_, by omega, fun h => ?_⟩
        · rw [hL.l16]; unfold lst16
          simp only [yy, p1, q1, decide_true, v_bslS, v_push hb]
          exact t1
        · rw [hL.r8]; unfold rls8
          simp only [yy, p2, q2, if_true, v_bslS, v_push hb]
          exact t2
        · obtain ⟨u1, u2, u3, u4, u5, u6⟩ := t4 h
          exact ⟨u1, u2, u3, u4, u5, by omega⟩
      · refine ⟨er, i1, out1, d1, L1, outR ++ [g], dR, ?_, ?_, by simp; omega, fun h => absurd h her⟩
        · rw [hL.l16]; unfold lst16
          simp only [yy, p1, q1, if_neg her]
        · rw [hL.r8]; unfold rls8
          simp only [yy, p2, q2, if_true, v_bslS, v_push hb, r8_err hL her]
    · refine ⟨0, skipN s i, out, d, pieces (s.drop i), out, d, ?_, ?_, by omega, fun _ => ⟨skipN_le s hi, by rw [← pieces_at], rfl, rfl, rfl, by omega⟩⟩
      · rw [hL.l16]; unfold lst16
        simp only [yy, p1]
      · rw [hL.r8]; unfold rls8
        simp only [yy, p2, if_true]
theorem lst_ok (hL : Lst e g kp kl kq kr) (s : Bytes) (hs : s.length ≤ 1048576) (n : Nat) (hS : Same2 e kp kq s n) (i : Nat) (out : List Bytes) (d : Nat) (hi : i ≤ s.length) (hn : (pieces (s.drop i)).length ≤ n) (hout : out.length + (pieces (s.drop i)).length ≤ 1048577) (hd : d ≤ 64) :
    ∃ (er : Int) (i' : Nat) (out' : List Bytes) (d' : Int) (L' outR : List Bytes) (dR : Int),
      vl e kl 1 (.str g :: st4 s i (strs out) (I d)) = some (.tup (I er :: st4 s i' (strs out') (I d'))) ∧ vl e kr 1 [strs (pieces (s.drop i)), strs out, I d] = some (.tup [I er, strs L', strs outR, I dR]) ∧
      outR.length + L'.length ≤ out.length + (pieces (s.drop i)).length ∧
      (er = 0 → i' ≤ s.length ∧ L' = pieces (s.drop i') ∧ outR = out' ∧ d' = d ∧ dR = d ∧ L'.length < (pieces (s.drop i)).length) := by
  obtain ⟨er, i1, out1, d1, L1, outR, dR, q1, q2, q3, q4⟩ := hS i out d hi hn hout hd
  by_cases her : er = 0
  · obtain ⟨r1, r2, r3, r4, r5, r6⟩ := q4 her
    subst her; subst r2; subst r3; subst r4; subst r5
    obtain ⟨er2, i2, out2, d2, L2, outR2, dR2, t1, t2, t3, t4⟩ := lst_loop hL s hs n hS n i1 outR d (Nat.le_refl _) r1 (by omega) (by omega) hd
    refine ⟨er2, i2, out2, d2, L2, outR2, dR2, ?_, ?_, by omega, fun h => ?_⟩
    · rw [hL.l1]; unfold lst1
      simp only [yy, q1, decide_true]
      exact t1
    · rw [hL.r1]; unfold rls1
      simp only [yy, q2]
      exact t2
    · obtain ⟨u1, u2, u3, u4, u5, u6⟩ := t4 h
      exact ⟨u1, u2, u3, u4, u5, by omega⟩
  · refine ⟨er, i1, out1, d1, L1, outR, dR, ?_, ?_, q3, fun h => absurd h her⟩
    · rw [hL.l1]; unfold lst1
      simp only [yy, q1, if_neg her]
    · rw [hL.r1]; unfold rls1
      simp only [yy, q2, r8_err hL her]
end
theorem and_ok (s : Bytes) (hs : s.length ≤ 1048576) (n : Nat) (hS : Same2 e 11408 11600 s n) : Same2 e 11024 11296 s n := by
  intro i out d hi hn hout hd
  obtain ⟨er, i1, out1, d1, L1, outR, dR, q1, q2, q3, q4⟩ := lst_ok lst_and s hs n hS i out d hi hn hout hd
  refine ⟨er, i1, out1, d1, L1, outR, dR, ?_, q2, q3, q4⟩
  rw [w.seiche_expr_parser_and_h0]; unfold y.seiche_expr_parser_and_h0
  simp only [yy, q1]
theorem or_ok (s : Bytes) (hs : s.length ≤ 1048576) (n : Nat) (hS : Same2 e 11024 11296 s n) : Same2 e 10608 10912 s n := by
  intro i out d hi hn hout hd
  obtain ⟨er, i1, out1, d1, L1, outR, dR, q1, q2, q3, q4⟩ := lst_ok lst_or s hs n hS i out d hi hn hout hd
  refine ⟨er, i1, out1, d1, L1, outR, dR, ?_, q2, q3, q4⟩
  rw [w.seiche_expr_parser_or_h0]; unfold y.seiche_expr_parser_or_h0
  simp only [yy, q1]
theorem same_or (s : Bytes) (hs : s.length ≤ 1048576) : ∀ n, Same2 e 10608 10912 s n
  | 0 => or_ok s hs 0 (and_ok s hs 0 (not_ok s hs 0 (part_ok s hs 0 fun k h => by omega)))
  | n + 1 => by
    have ih := same_or s hs n
    refine or_ok s hs _ (and_ok s hs _ (not_ok s hs _ (part_ok s hs (n + 1) fun k h => ?_)))
    obtain rfl : k = n := by omega
    exact ih
theorem pieces_end (s : Bytes) {i : Nat} (hi : i ≤ s.length) : pieces (s.drop i) = [] ↔ skipN s i = s.length := by
  have hle := skipN_le s hi
  rw [pieces_at]
  cases hx : s.drop (skipN s i) with
  | nil =>
    have := congrArg List.length hx
    simp at this
    exact ⟨fun _ => by omega, fun _ => rfl⟩
  | cons c r =>
    have hb := skip_head (x := s.drop i) (by rw [← drop_skip, hx])
    have := congrArg List.length hx
    simp at this
    constructor
    · intro h
      rw [pieces_cons, hb, if_neg (by decide)] at h
      split at h <;> cases h
    · intro h; omega
/-- BOTH PARSERS COME TO THE SAME -/
theorem v.Parses (s : Bytes) (hs : s.length ≤ 1048576) : ∃ (l : List Bytes) (er : Int), vl e 18 0 [.str s] = some (.tup [strs l, I er]) ∧ vl e 31 0 [.str s] = some (.tup [strs l, I er]) ∧ l.length ≤ s.length := by
  by_cases h1 : s.length ≤ 1024
  · have hpl := pieces_len s.length s (Nat.le_refl _)
    obtain ⟨er, i1, out1, d1, L1, outR, dR, q1, q2, q3, q4⟩ := same_or (e := e) s hs s.length 0 [] 0 (Nat.zero_le _) hpl (by simp at hpl ⊢; omega) (by omega)
    have hc1 : evp (.cat [none]) [.str s] = some (.agg [.str s]) := rfl
    have hc2 : evp (.cat [none, none, none, none]) [.str s, .int .i64 0, .sl false 1 [], .int .i64 0] = some (.agg [.str s, .int .i64 0, .sl false 1 [], .int .i64 0]) := rfl
    have hc3 : evp (.cat [none]) [strs (pieces s)] = some (.agg [strs (pieces s)]) := rfl
    have hc4 : evp (.cat [none, none, none]) [strs (pieces s), .sl false 1 [], .int .i64 0] = some (.agg [strs (pieces s), .sl false 1 [], .int .i64 0]) := rfl
    have q1' : vl e 10608 1 [.str s, .int .i64 0, .sl false 1 [], .int .i64 0] = _ := q1
    have q2' : vl e 10912 1 [strs (pieces s), .sl false 1 [], .int .i64 0] = _ := q2
    have hP := v.Pieces (e := e) s hs
    by_cases her : er = 0
    · obtain ⟨r1, r2, r3, r4, r5, r6⟩ := q4 her
      subst her; subst r2; subst r3; subst r4; subst r5
      have hb := v.blanks (e := e) s (by omega) (strs outR) (I ((0 : Nat) : Int)) i1 r1
      simp only [List.drop_zero, List.length_nil] at q3 r6 hpl
      have hle := skipN_le s r1
      by_cases he : skipN s i1 = s.length
      · have hpe := (pieces_end s r1).2 he
        refine ⟨outR, 0, ?_, ?_, by omega⟩
        · rw [w.expr_Parse]; unfold y.expr_Parse
          simp only [yy, if_neg (show ¬ ((1024 : Int) < (s.length : Int)) by omega), hc1, hc2, q1', decide_true, hb]
          rw [if_neg (by omega)]
        · rw [w.seicheref13_Parse]; unfold y.seicheref13_Parse
          simp only [yy, if_neg (show ¬ ((1024 : Int) < (s.length : Int)) by omega), hP, hc3, hc4, q2', if_true, decide_true, hpe]
          rw [if_neg (by simp)]
      · have hpe : (pieces (s.drop i1)).length ≠ 0 := fun h => he ((pieces_end s r1).1 (List.eq_nil_of_length_eq_zero h))
        refine ⟨[], 4, ?_, ?_, by simp⟩
        · rw [w.expr_Parse]; unfold y.expr_Parse
          simp only [yy, if_neg (show ¬ ((1024 : Int) < (s.length : Int)) by omega), hc1, hc2, q1', decide_true, hb]
          rw [if_pos (by omega)]; rfl
        · rw [w.seicheref13_Parse]; unfold y.seicheref13_Parse
          simp only [yy, if_neg (show ¬ ((1024 : Int) < (s.length : Int)) by omega), hP, hc3, hc4, q2', if_true, decide_true]
          rw [if_pos (by simp; omega)]; rfl
    · refine ⟨[], er, ?_, ?_, by simp⟩
      · rw [w.expr_Parse]; unfold y.expr_Parse
        simp only [yy, if_neg (show ¬ ((1024 : Int) < (s.length : Int)) by omega), hc1, hc2, q1', if_neg her]; rfl
      · rw [w.seicheref13_Parse]; unfold y.seicheref13_Parse
        simp only [yy, if_neg (show ¬ ((1024 : Int) < (s.length : Int)) by omega), hP, hc3, hc4, q2', if_neg her]; rfl
  · refine ⟨[], 3, ?_, ?_, by simp⟩
    · rw [w.expr_Parse]; unfold y.expr_Parse
      simp only [yy, if_pos (show (1024 : Int) < (s.length : Int) by omega)]; rfl
    · rw [w.seicheref13_Parse]; unfold y.seicheref13_Parse
      simp only [yy, if_pos (show (1024 : Int) < (s.length : Int) by omega)]; rfl
end Go.Proofs.YtghjeddphkmciaaDoor
/-
  R1: lines of constraints: words for them, in plain Lean. Own work of this seat.
-/
namespace Go.Proofs.YtghjeddphkmciaaDoor
open Go.Abs
theorem splitOn_ne (c : UInt8) (s : Bytes) : splitOn c s ≠ [] := by
  cases s with
  | nil => simp [splitOn]
  | cons b r => simp only [splitOn]; split <;> (try split) <;> simp
theorem splitOn_length (c : UInt8) : ∀ s : Bytes, (splitOn c s).length ≤ s.length + 1
  | [] => by simp [splitOn]
  | b :: r => by
    have := splitOn_length c r
    simp only [splitOn]
    split
    · simp; omega
    · split
      · simp
      · rename_i x xs h; rw [h] at this; simp at this ⊢; omega

def tot (k : Nat) : List Bytes → Nat
  | [] => 0
  | x :: r => x.length + k + tot k r
theorem tot_length (k : Nat) : ∀ l : List Bytes, l.length * k ≤ tot k l
  | [] => by simp [tot]
  | x :: r => by have := tot_length k r; simp only [tot, List.length_cons, Nat.succ_mul]; omega
theorem tot_mem (k : Nat) : ∀ {l : List Bytes} {x : Bytes}, x ∈ l → x.length + k ≤ tot k l
  | y :: r, x, h => by
    rcases List.mem_cons.1 h with rfl | h
    · simp [tot]
    · have := tot_mem k h; simp [tot]; omega
theorem tot_le (k : Nat) : ∀ l : List Bytes, tot (k + 1) l ≤ (k + 1) * tot 1 l
  | [] => by simp [tot]
  | x :: r => by
    have := tot_le k r
    simp only [tot, Nat.mul_add, Nat.add_mul] at this ⊢
    omega
theorem tot_splitOn (c : UInt8) : ∀ s : Bytes, tot 1 (splitOn c s) = s.length + 1
  | [] => by simp [splitOn, tot]
  | b :: r => by
    have ih := tot_splitOn c r
    simp only [splitOn]
    split
    · simp [tot, ih]; omega
    · split
      · rename_i h; exact absurd h (splitOn_ne _ _)
      · rename_i x xs h; rw [h] at ih; simp [tot] at ih ⊢; omega
/-- texts with a sign between -/
def joinS (sep : Bytes) : List Bytes → Bytes
  | [] => []
  | [x] => x
  | x :: y :: r => x ++ sep ++ joinS sep (y :: r)
theorem lib_joinS (sep : Bytes) : ∀ l : List Bytes, Lib.join l sep = joinS sep l
  | [] => rfl
  | [x] => by simp [Lib.join, List.intercalate, joinS]
  | x :: y :: r => by
    have ih := lib_joinS sep (y :: r)
    simp only [Lib.join, List.intercalate] at ih ⊢
    rw [joinS, ← ih]; simp [List.intersperse]
theorem joinS_length (sep : Bytes) : ∀ l : List Bytes, (joinS sep l).length ≤ tot sep.length l
  | [] => by simp [joinS, tot]
  | [x] => by simp [joinS, tot]
  | x :: y :: r => by
    have := joinS_length sep (y :: r)
    simp [joinS, tot] at this ⊢; omega
theorem joinS_cons (sep x : Bytes) : ∀ l : List Bytes, joinS sep (x :: l) = x ++ (l.map (sep ++ ·)).flatten
  | [] => by simp [joinS]
  | y :: r => by rw [joinS, joinS_cons sep y r]; simp
def wrapB (sep : Bytes) (l : List Bytes) : Bytes := if l.length = 1 then joinS sep l else 40 :: joinS sep l ++ [41]
theorem wrapB_length (sep : Bytes) (l : List Bytes) : (wrapB sep l).length ≤ tot sep.length l + 2 := by
  have := joinS_length sep l
  unfold wrapB; split
  · omega
  · simp; omega

def nameB (s : Bytes) : Bytes := if s.headD 0 = 33 then s.tail else s
def notB (s : Bytes) : Bool := decide (s.headD 0 = 33)
def termO (s : Bytes) : Option Bytes := if isTag (nameB s) then some s else none
def allO (po : Bytes → Option Bytes) : List Bytes → Option (List Bytes)
  | [] => some []
  | a :: r => match po a with
    | none => none
    | some x => (allO po r).map (x :: ·)
theorem allO_length {po : Bytes → Option Bytes} : ∀ {l m : List Bytes}, allO po l = some m → m.length = l.length
  | [], m, h => by simp [allO] at h; simp [← h]
  | a :: r, m, h => by
    simp only [allO] at h
    split at h
    · cases h
    · obtain ⟨m', h1, rfl⟩ := Option.map_eq_some_iff.1 h
      simp [allO_length h1]
theorem allO_tot {po : Bytes → Option Bytes} {a b k : Nat} (hp : ∀ s t, po s = some t → t.length + k ≤ a * (s.length + b)) : ∀ {l m : List Bytes}, allO po l = some m → tot k m ≤ a * tot b l
  | [], m, h => by
    obtain rfl : [] = m := by simpa [allO] using h
    simp [tot]
  | x :: r, m, h => by
    simp only [allO] at h
    split at h
    · cases h
    · rename_i y hy
      obtain ⟨m', h1, rfl⟩ := Option.map_eq_some_iff.1 h
      have := allO_tot hp h1
      have := hp x y hy
      simp only [tot, Nat.mul_add] at this ⊢
      omega
theorem allO_ne {po : Bytes → Option Bytes} {l m : List Bytes} (h : allO po l = some m) (hl : l ≠ []) : m ≠ [] := by
  intro e; subst e
  have := allO_length h
  exact hl (List.eq_nil_of_length_eq_zero (by simpa using this.symm))
def optionO (s : Bytes) : Option Bytes := (allO termO (splitOn 44 s)).map (wrapB [32, 38, 38, 32])
def lineO (s : Bytes) : Option Bytes := if fldB blankB s [] = [] then none else (allO optionO (fldB blankB s [])).map (wrapB [32, 124, 124, 32])
def linesO (l : List Bytes) : Option Bytes := if l = [] then none else (allO lineO l).map (wrapB [32, 38, 38, 32])
theorem termO_eq {s t : Bytes} (h : termO s = some t) : t = s := by
  unfold termO at h; split at h
  · exact (Option.some.inj h).symm
  · cases h
theorem option_tot {s : Bytes} {m : List Bytes} (h : allO termO (splitOn 44 s) = some m) : tot 4 m ≤ 4 * (s.length + 1) := by
  have := allO_tot (a := 4) (b := 1) (k := 4) (fun s t h => by rw [termO_eq h]; omega) h
  rwa [tot_splitOn] at this
theorem option_length {s t : Bytes} (h : optionO s = some t) : t.length ≤ 4 * s.length + 6 := by
  obtain ⟨m, h1, rfl⟩ := Option.map_eq_some_iff.1 h
  have := option_tot h1
  have : (wrapB [32, 38, 38, 32] m).length ≤ tot 4 m + 2 := wrapB_length _ m
  omega
theorem fld_tot (q : UInt8 → Bool) : ∀ (s cur : Bytes), tot 1 (fldB q s cur) ≤ s.length + cur.length + 1
  | [], cur => by
    unfold fldB; split <;> simp [tot]
  | b :: r, cur => by
    unfold fldB
    split
    · split
      · have := fld_tot q r []; simp at this ⊢; omega
      · have := fld_tot q r []; simp [tot] at this ⊢; omega
    · have := fld_tot q r (cur ++ [b]); simp at this ⊢; omega
theorem line_tot {s : Bytes} {m : List Bytes} (h : allO optionO (fldB blankB s []) = some m) : tot 4 m ≤ 10 * (s.length + 1) := by
  have h1 := allO_tot (a := 10) (b := 1) (k := 4) (fun s t h => by have := option_length h; omega) h
  have h2 := fld_tot blankB s []
  have : 10 * tot 1 (fldB blankB s []) ≤ 10 * (s.length + 1) := Nat.mul_le_mul_left _ (by simpa using h2)
  omega
theorem line_length {s t : Bytes} (h : lineO s = some t) : t.length ≤ 10 * s.length + 12 := by
  unfold lineO at h
  split at h
  · cases h
  · obtain ⟨m, h1, rfl⟩ := Option.map_eq_some_iff.1 h
    have := line_tot h1
    have : (wrapB [32, 124, 124, 32] m).length ≤ tot 4 m + 2 := wrapB_length _ m
    omega
def addH (cur : Bytes) : List Bytes → List Bytes
  | [] => [cur]
  | x :: xs => (cur ++ x) :: xs
theorem addH_nil {l : List Bytes} (h : l ≠ []) : addH [] l = l := by
  cases l with
  | nil => exact absurd rfl h
  | cons x xs => rfl
theorem splitOn_eq_c (c : UInt8) (r cur : Bytes) : addH cur (splitOn c (c :: r)) = cur :: splitOn c r := by simp [splitOn, addH]
theorem splitOn_ne_c {c b : UInt8} (h : b ≠ c) (r cur : Bytes) : addH cur (splitOn c (b :: r)) = addH (cur ++ [b]) (splitOn c r) := by
  simp only [splitOn, if_neg h]
  cases h' : splitOn c r with
  | nil => exact absurd h' (splitOn_ne _ _)
  | cons x xs => simp [addH]
theorem take_one {α : Type} {l : List α} {i f : Nat} (h : i < l.length) (hf : f ≤ i) : (l.take (i + 1)).drop f = (l.take i).drop f ++ [l[i]] := by
  rw [List.take_add_one, List.getElem?_eq_getElem h, Option.toList_some, List.drop_append_of_le_length (by simp; omega)]
def neB (l : List Bytes) : List Bytes := l.filter fun x => !x.isEmpty
def wordsOf (l : List Bytes) : List Bytes := l.flatMap fun x => neB (splitOn 9 x)
theorem splitOn_mid (c : UInt8) (b : Bytes) : ∀ a : Bytes, splitOn c (a ++ c :: b) = splitOn c a ++ splitOn c b
  | [] => by simp [splitOn]
  | x :: a => by
    have ih := splitOn_mid c b a
    simp only [List.cons_append, splitOn]
    split
    · rw [ih]; rfl
    · rw [ih]
      cases h : splitOn c a with
      | nil => exact absurd h (splitOn_ne _ _)
      | cons y ys => rfl
theorem splitOn_none {c : UInt8} : ∀ {s : Bytes}, c ∉ s → splitOn c s = [s]
  | [], _ => rfl
  | b :: r, h => by
    simp only [List.mem_cons, not_or] at h
    simp only [splitOn, if_neg (Ne.symm h.1), splitOn_none h.2]
theorem neB_one (x : Bytes) : neB [x] = if x = [] then [] else [x] := by cases x <;> simp [neB]
theorem neB_app (a b : List Bytes) : neB (a ++ b) = neB a ++ neB b := by simp [neB]
theorem words_eq : ∀ (s cur : Bytes), (9 : UInt8) ∉ cur → fldB blankB s cur = wordsOf (addH cur (splitOn 32 s))
  | [], cur, h => by
    simp only [splitOn, addH, wordsOf, List.flatMap_cons, List.flatMap_nil, List.append_nil, splitOn_none h, neB_one, fldB]
  | b :: r, cur, h => by
    rw [fldB]
    by_cases h1 : b = 32
    · subst h1
      have ih := words_eq r [] (by simp)
      rw [addH_nil (splitOn_ne _ _)] at ih
      rw [splitOn_eq_c, show blankB 32 = true from rfl, if_pos rfl, ih]
      simp only [wordsOf, List.flatMap_cons, splitOn_none h, neB_one]
      split <;> simp
    · by_cases h2 : b = 9
      · subst h2
        have ih := words_eq r [] (by simp)
        rw [addH_nil (splitOn_ne _ _)] at ih
        rw [splitOn_ne_c (by decide), show blankB 9 = true from rfl, if_pos rfl, ih]
        cases h' : splitOn 32 r with
        | nil => exact absurd h' (splitOn_ne _ _)
        | cons x xs =>
          simp only [addH, wordsOf, List.flatMap_cons, List.append_assoc, List.singleton_append, splitOn_mid, neB_app, splitOn_none h, neB_one]
          by_cases hc : cur = []
          · rw [if_pos hc, hc]; rfl
          · have e : neB (cur :: splitOn 9 x) = cur :: neB (splitOn 9 x) := by
              unfold neB; rw [List.filter_cons_of_pos]; cases cur <;> simp at hc ⊢
            rw [if_neg hc, e]; rfl
      · have hb : blankB b = false := by simp [blankB, h1, h2]
        rw [hb, if_neg (by simp), splitOn_ne_c h1]
        exact words_eq r (cur ++ [b]) (by simp [h, Ne.symm h2])
theorem words_all (s : Bytes) : wordsOf (splitOn 32 s) = fldB blankB s [] := by rw [words_eq s [] (by simp), addH_nil (splitOn_ne _ _)]
/-- is an option one? -/
theorem allO_some {po : Bytes → Option Bytes} : ∀ {l : List Bytes}, (allO po l).isSome = l.all fun x => (po x).isSome
  | [] => rfl
  | a :: r => by
    have ih := allO_some (po := po) (l := r)
    simp only [allO, List.all_cons]
    cases po a with
    | none => rfl
    | some x => simp [ih]
theorem allO_id {po : Bytes → Option Bytes} {f : Bytes → Bytes} (h : ∀ s t, po s = some t → t = f s) : ∀ {l m : List Bytes}, allO po l = some m → m = l.map f
  | [], m, e => by
    obtain rfl : [] = m := by simpa [allO] using e
    rfl
  | a :: r, m, e => by
    simp only [allO] at e
    split at e
    · cases e
    · rename_i x hx
      obtain ⟨m', h1, rfl⟩ := Option.map_eq_some_iff.1 e
      rw [allO_id h h1, h a x hx]; rfl
def optT (s : Bytes) : Bytes := wrapB [32, 38, 38, 32] (splitOn 44 s)
def lineT (s : Bytes) : Bytes := wrapB [32, 124, 124, 32] ((fldB blankB s []).map optT)
theorem optionO_eq {s t : Bytes} (h : optionO s = some t) : t = optT s := by
  obtain ⟨m, h1, rfl⟩ := Option.map_eq_some_iff.1 h
  rw [allO_id (f := id) (fun s t h => termO_eq h) h1, List.map_id]; rfl
theorem lineO_eq {s t : Bytes} (h : lineO s = some t) : t = lineT s := by
  unfold lineO at h
  split at h
  · cases h
  · obtain ⟨m, h1, rfl⟩ := Option.map_eq_some_iff.1 h
    rw [allO_id (f := optT) (fun s t h => optionO_eq h) h1]; rfl
theorem tot_optT : ∀ l : List Bytes, tot 4 (l.map optT) ≤ 10 * tot 1 l
  | [] => by simp [tot]
  | a :: r => by
    have ih := tot_optT r
    have h2 : tot 4 (splitOn 44 a) ≤ 4 * tot 1 (splitOn 44 a) := tot_le 3 _
    rw [tot_splitOn] at h2
    have : (optT a).length ≤ tot 4 (splitOn 44 a) + 2 := wrapB_length _ _
    simp only [List.map_cons, tot, Nat.mul_add] at h2 ⊢
    omega
theorem lineT_length (s : Bytes) : (lineT s).length ≤ 10 * s.length + 12 := by
  have h1 := tot_optT (fldB blankB s [])
  have h2 := fld_tot blankB s []
  have h3 : (lineT s).length ≤ tot 4 ((fldB blankB s []).map optT) + 2 := wrapB_length _ _
  simp only [List.length_nil] at h2
  omega
theorem tot_one (l : List Bytes) : tot 1 l = tot 0 l + l.length := by
  induction l with
  | nil => rfl
  | cons x r ih => simp only [tot, List.length_cons]; omega
end Go.Proofs.YtghjeddphkmciaaDoor
/-
  R2: lines of constraints: what the functions come to. Own work of this seat.
-/
namespace Go.Proofs.YtghjeddphkmciaaDoor
open Go.Abs
set_option maxRecDepth 10000
/-- functions of the library that are given by contracts -/
structure EnvX (e : Nat → List V → Option V) : Prop where
  split : ∀ (s : Bytes) (c : UInt8), s.length < 4294967281 → e 29 [.str s, .str [c]] = some (strs (splitOn c s))
  fields : ∀ s : Bytes, s.length ≤ 4294967296 → e 34 [.str s, .fn 35 []] = some (strs (fldB blankB s []))
  join : ∀ (l : List Bytes) (s : Bytes), l.length ≤ 1000000000 → (joinS s l).length ≤ 140737488355328 → e 61 [strs l, .str s] = some (.str (joinS s l))
variable {e : Nat → List V → Option V}
theorem v.split (he : EnvX e) (s : Bytes) (c : UInt8) (hs : s.length ≤ 4000000000) : vl e 29 0 [.str s, .str [c]] = some (strs (splitOn c s)) := val_ext (by kernel_rfl) (he.split s c (by omega))
theorem v.fields (he : EnvX e) (s : Bytes) (hs : s.length ≤ 4000000000) : vl e 34 0 [.str s, .fn 35 []] = some (strs (fldB blankB s [])) := val_ext (by kernel_rfl) (he.fields s (by omega))
theorem v.join (he : EnvX e) (l : List Bytes) (s : Bytes) (hl : l.length ≤ 1000000000) (hj : (joinS s l).length ≤ 140737488355328) : vl e 61 0 [strs l, .str s] = some (.str (joinS s l)) := val_ext (by kernel_rfl) (he.join l s hl hj)

theorem v_get {l : List Bytes} {i : Nat} (h : i < l.length) : evp (.elem 1) [strs l, .int .i64 i] = some (.str l[i]) := v_elem (by simp [h])
theorem v_get0 {x : Bytes} {l : List Bytes} : evp (.elem 1) [strs (x :: l), .int .i64 0] = some (.str x) := v_elem (i := 0) rfl
theorem v_lds {x : Bytes} : evp (.ld none 0) [.str x] = some (.str x) := rfl
theorem v_lenS {l : List Bytes} : evp (.len false) [strs l] = some (.int .i64 l.length) := by rw [strs, v_len, List.length_map]
theorem v_nil : V.sl false 1 [] = strs [] := rfl

/-! ## prefixes -/
theorem v.hasPrefix0 (s p : Bytes) : vl e 53 0 [.str s, .str p] = some (.bool (decide (s.take p.length = p))) := by
  rw [w.internal_stringslite_HasPrefix]; unfold y.internal_stringslite_HasPrefix
  by_cases h : p.length ≤ s.length
  · simp only [yy, if_pos (show (p.length : Int) ≤ (s.length : Int) by omega), v_sls0 h]
  · simp only [yy, if_neg (show ¬ ((p.length : Int) ≤ (s.length : Int)) by omega)]
    exact some_f fun h1 => by have := congrArg List.length h1; simp at this; omega
theorem v.hasPrefix (s p : Bytes) : vl e 28 0 [.str s, .str p] = some (.bool (decide (s.take p.length = p))) := by
  rw [w.strings_HasPrefix]; unfold y.strings_HasPrefix
  simp only [yy, v.hasPrefix0]
theorem take_le {s p : Bytes} (h : s.take p.length = p) : p.length ≤ s.length := by have := congrArg List.length h; simp at this; omega
theorem v.trimPrefix (s p : Bytes) : vl e 30 0 [.str s, .str p] = some (.str (if s.take p.length = p then s.drop p.length else s)) := by
  rw [w.strings_TrimPrefix]; unfold y.strings_TrimPrefix
  have h1 : vl e 55 0 [.str s, .str p] = some (.str (if s.take p.length = p then s.drop p.length else s)) := by
    rw [w.internal_stringslite_TrimPrefix]; unfold y.internal_stringslite_TrimPrefix
    by_cases h : s.take p.length = p
    · simp only [yy, v.hasPrefix0, if_pos h, v_sls1 (take_le h)]
    · simp only [yy, v.hasPrefix0, if_neg h]
  simp only [yy, h1]
theorem v.cutPrefix (s p : Bytes) : vl e 86 0 [.str s, .str p] = some (.tup [.str (if s.take p.length = p then s.drop p.length else s), .bool (decide (s.take p.length = p))]) := by
  rw [w.strings_CutPrefix]; unfold y.strings_CutPrefix
  have h1 : vl e 103 0 [.str s, .str p] = some (.tup [.str (if s.take p.length = p then s.drop p.length else s), .bool (decide (s.take p.length = p))]) := by
    rw [w.internal_stringslite_CutPrefix]; unfold y.internal_stringslite_CutPrefix
    by_cases h : s.take p.length = p
    · simp only [yy, v.hasPrefix0, if_pos h, v_sls1 (take_le h)]; rw [decide_eq_true h]
    · simp only [yy, v.hasPrefix0, if_neg h]; rw [decide_eq_false h]
  simp only [yy, h1]

/-! ## the program's lines -/
def resO (t : Option Bytes) : V := .tup [.str (t.getD []), I (if t.isSome then 0 else 4)]
theorem name_take (s : Bytes) : (if s.take ([33] : Bytes).length = [33] then s.drop ([33] : Bytes).length else s) = nameB s ∧ decide (s.take ([33] : Bytes).length = [33]) = notB s := by
  cases s with
  | nil => exact ⟨rfl, rfl⟩
  | cons b r => by_cases hb : b = 33 <;> simp [nameB, notB, hb]
theorem name_length (s : Bytes) : (nameB s).length ≤ s.length := by unfold nameB; split <;> simp
theorem not_name {s : Bytes} (h : notB s = true) : 33 :: nameB s = s := by
  have h := of_decide_eq_true h
  unfold nameB; rw [if_pos h]
  cases s with
  | nil => simp at h
  | cons b r => simp at h; simp [h]
theorem not_name_f {s : Bytes} (h : notB s = false) : nameB s = s := by unfold nameB; rw [if_neg (of_decide_eq_false h)]
theorem v.term (s : Bytes) (hs : s.length ≤ 1000000000) : vl e 62 0 [.str s] = some (resO (termO s)) := by
  rw [w.plus_term]; unfold y.plus_term
  have hc := v.cutPrefix (e := e) s [33]
  rw [(name_take s).1, (name_take s).2] at hc
  have hn := name_length s
  unfold termO
  cases ht : isTag (nameB s) with
  | false => simp only [yy, hc, v.Tag _ (show (nameB s).length ≤ 1152921504606846976 by omega), ht]; rfl
  | true =>
    cases hb : notB s with
    | false =>
      rw [not_name_f hb] at hc ht
      simp only [yy, hc, hb, v.Tag s (show s.length ≤ 1152921504606846976 by omega), ht]; rfl
    | true =>
      simp only [yy, hc, hb, v.Tag _ (show (nameB s).length ≤ 1152921504606846976 by omega), ht, v_sadd (show ([33] : Bytes).length + (nameB s).length ≤ 4611686018427387904 by simp; omega), List.singleton_append, not_name hb]; rfl
theorem joined_fin (he : EnvX e) (sep : Bytes) (m : List Bytes) (hm : tot sep.length m ≤ 1000000000) (hl : m.length ≤ 1000000000) :
    (pr (.len false) [strs m] fun v7 =>
    pr (.bin (.eql) (.no)) [v7, (.int .i64 1)] fun v8 =>
    vif v8 (
      pr (.elem 1) [strs m, (.int .i64 0)] fun v9 =>
      pr (.ld none 0) [v9] fun v10 =>
      some (.tup [v10, (.int .i64 0)])) (
      ca (vl e) 61 [strs m, .str sep] fun v9 =>
      pr (.bin (.add) (.no)) [(.str [40]), v9] fun v10 =>
      pr (.bin (.add) (.no)) [v10, (.str [41])] fun v11 =>
      some (.tup [v11, (.int .i64 0)]))) = some (resO (some (wrapB sep m))) := by
  have hj := joinS_length sep m
  unfold wrapB
  by_cases h1 : m.length = 1
  · match m, h1 with
    | [x], _ => simp only [yy, v_lenS, List.length_singleton, Int.natCast_one, if_true, v_get0, v_lds]; rfl
  · simp only [yy, v_lenS, if_neg (show ¬ ((m.length : Int) = 1) by omega), v.join he m sep hl (by omega), v_sadd (show ([40] : Bytes).length + (joinS sep m).length ≤ 4611686018427387904 by simp; omega), v_sadd (show ([40] ++ joinS sep m : Bytes).length + ([41] : Bytes).length ≤ 4611686018427387904 by simp; omega)]
    rw [if_neg h1]; rfl
theorem v.joined (he : EnvX e) (sep : Bytes) (fv : V) (po : Bytes → Option Bytes) (l : List Bytes) (hp : ∀ x ∈ l, vApply (vl e) fv [.str x] = some (resO (po x))) (hl : l.length ≤ 1000000000) (hB : ∀ m, allO po l = some m → tot sep.length m ≤ 1000000000) :
    vl e 36 0 [strs l, .str sep, fv] = some (resO ((allO po l).map (wrapB sep))) := by
  have hLim : Lim = 4294967296 := rfl
  have key : ∀ (n i : Nat) (acc : List Bytes), i + n = l.length → acc.length = i → allO po l = (allO po (l.drop i)).map (acc ++ ·) →
      vl e 36 10 [.str sep, fv, strs acc, strs l, I l.length, I i] = some (resO ((allO po l).map (wrapB sep))) := by
    intro n
    induction n with
    | zero =>
      intro i acc hi ha hall
      rw [w.plus_joined_10]; unfold y.plus_joined_10
      simp only [yy, if_neg (show ¬ ((i : Int) < (l.length : Int)) by omega)]
      rw [List.drop_eq_nil_of_le (by omega)] at hall
      have hall' : allO po l = some acc := by rw [hall]; simp [allO]
      rw [hall']
      have hf := joined_fin he sep acc (hB acc hall') (by omega)
      simp only [yy] at hf
      exact hf
    | succ n ih =>
      intro i acc hi ha hall
      have hlt : i < l.length := by omega
      rw [w.plus_joined_10]; unfold y.plus_joined_10
      rw [List.drop_eq_getElem_cons hlt, allO] at hall
      simp only [yy, if_pos (show (i : Int) < (l.length : Int) by omega), v_get hlt, v_lds, cv, hp l[i] (List.getElem_mem _), resO]
      cases hpo : po l[i] with
      | none =>
        rw [hpo] at hall
        rw [hall]; simp only [yy, Option.isSome_none]; rfl
      | some x =>
        rw [hpo] at hall
        simp only [yy, Option.isSome_some, if_true, Option.getD_some, decide_true, v_bsl1, v_push (show acc.length + 1 ≤ Lim by omega), next64 (show i < l.length by omega) (by omega)]
        refine ih (i + 1) _ (by omega) (by simp [ha]) ?_
        rw [hall]; cases allO po (l.drop (i + 1)) <;> simp
  rw [w.plus_joined]; unfold y.plus_joined
  simp only [yy, v_lenS]
  exact key l.length 0 [] (by omega) rfl (by cases h : allO po l <;> simp [h])
theorem v.option (he : EnvX e) (s : Bytes) (hs : s.length ≤ 1000000) : vl e 37 0 [.str s] = some (resO (optionO s)) := by
  have hl := splitOn_length 44 s
  have hb : ∀ x ∈ splitOn 44 s, x.length ≤ 1000000000 := fun x hx => by have := tot_mem 1 hx; rw [tot_splitOn] at this; omega
  rw [w.plus_option]; unfold y.plus_option
  have hj := v.joined he [32, 38, 38, 32] (.fn 62 []) termO (splitOn 44 s) (fun x hx => v.term x (hb x hx)) (by omega) (fun m hm => by have := option_tot hm; show tot 4 m ≤ _; omega)
  simp only [yy, v.split he s 44 (by omega), hj, resO]
  rfl
theorem v.Line (he : EnvX e) (s : Bytes) (hs : s.length ≤ 1000000) : vl e 17 0 [.str s] = some (resO (lineO s)) := by
  have h2 := fld_tot blankB s []
  have h3 := tot_length 1 (fldB blankB s [])
  simp only [List.length_nil] at h2
  have hb : ∀ x ∈ fldB blankB s [], x.length ≤ 1000000 := fun x hx => by have := tot_mem 1 hx; omega
  rw [w.plus_Line]; unfold y.plus_Line lineO
  by_cases h0 : fldB blankB s [] = []
  · rw [if_pos h0]
    simp only [yy, v.fields he s (by omega), h0, v_lenS, List.length_nil, Int.natCast_zero, if_true]; rfl
  · have h0' : (fldB blankB s []).length ≠ 0 := fun e => h0 (List.eq_nil_of_length_eq_zero e)
    have hj := v.joined he [32, 124, 124, 32] (.fn 37 []) optionO (fldB blankB s []) (fun x hx => v.option he x (hb x hx)) (by omega) (fun m hm => by have := line_tot hm; show tot 4 m ≤ _; omega)
    rw [if_neg h0]
    simp only [yy, v.fields he s (by omega), v_lenS, if_neg (show ¬ (((fldB blankB s []).length : Int) = 0) by omega), hj, resO]
theorem v.Lines (he : EnvX e) (l : List Bytes) (hs : tot 1 l ≤ 1000000) : vl e 20 0 [strs l] = some (resO (linesO l)) := by
  have h3 := tot_length 1 l
  have hb : ∀ x ∈ l, x.length ≤ 1000000 := fun x hx => by have := tot_mem 1 hx; omega
  rw [w.plus_Lines]; unfold y.plus_Lines linesO
  by_cases h0 : l = []
  · rw [if_pos h0]
    simp only [yy, h0, v_lenS, List.length_nil, Int.natCast_zero, if_true]; rfl
  · have h0' : l.length ≠ 0 := fun e => h0 (List.eq_nil_of_length_eq_zero e)
    have hj := v.joined he [32, 38, 38, 32] (.fn 17 []) lineO l (fun x hx => v.Line he x (hb x hx)) (by omega) (fun m hm => by
      have := allO_tot (a := 16) (b := 1) (k := 4) (fun s t h => by have := line_length h; omega) hm
      show tot 4 m ≤ _; omega)
    rw [if_neg h0]
    simp only [yy, v_lenS, if_neg (show ¬ ((l.length : Int) = 0) by omega), hj, resO]
end Go.Proofs.YtghjeddphkmciaaDoor
