/-
  Parts of the proof, one behind the other. Own work of this seat; some printed by its programs.
-/
import Derived.Test.YtghjeddphkmciaaDoorM3
import Derived.Test.YtghjeddphkmciaaDoorProg
import Derived.Test.YtghjeddphkmciaaDoorM1
import Derived.Shelf.Strings.Builder1
import Derived.Shelf.Strings.Builder2
import Derived.Shelf.Strings.OnBuilder
import Derived.Shelf.Small.Wraps
import Derived.Shelf.Strings.BuilderF
import Derived.Shelf.Strings.BuilderK
import Derived.Shelf.Strings.Search1
import Derived.Shelf.Strings.Search2
import Derived.Shelf.Strings.Search3
import Derived.Shelf.Strings.Count
import Derived.Shelf.LaysM
import Derived.Shelf.Strings.Shaped
import Derived.Shelf.Strings.LastIndex
import Derived.Shelf.Strings.Prefix
import Derived.Shelf.Strings.Split
import Derived.Shelf.Strings.SplitShaped
import Derived.Shelf.Unicode.Decode
import Derived.Shelf.Strings.RuneCount
import Derived.Shelf.Strings.Explode
import Derived.Shelf.Unicode.DecodeSlow
import Derived.Shelf.Unicode.DecodeAny
import Derived.Shelf.Strings.FieldsFuncAny
import Derived.Shelf.Strings.FieldsFuncGrows
import Derived.Ground.SlgfProg
import Derived.Shelf.SlicesE.IndexFunc
/-
  The functions of the program that are read: how many values they take, how objects look that they are given, and what their labels look like. Printed by programs of this seat (wip/y/tool.lean, asm.py).
-/
namespace Go.Proofs.YtghjeddphkmciaaDoor
open Go.Abs

def tabs0 : List FE := [
  ⟨10, 10, false, 1, ⟨0, [], [], 0⟩, none, []⟩,
  ⟨25, 25, false, 2, ⟨0, [], [], 0⟩, none, []⟩,
  ⟨45, 45, false, 1, ⟨0, [], [], 0⟩, none, [(10, ⟨5, [(0, .at (.n 0 false false)), (3, .at (.n 1 false true)), (9, .at (.n 2 false false)), (10, .at (.n 3 false true)), (11, .at (.n 4 false true))], [], 0⟩), (31, ⟨4, [(6, .at (.n 0 true true)), (28, .at (.n 1 false false)), (29, .at (.n 2 false true)), (30, .at (.n 3 false true))], [], 0⟩)]⟩,
  ⟨50, 50, false, 0, ⟨0, [], [], 0⟩, none, []⟩,
  ⟨70, 70, false, 1, ⟨0, [], [], 0⟩, none, []⟩,
  ⟨75, 75, false, 2, ⟨0, [], [], 0⟩, none, []⟩,
  ⟨90, 90, false, 2, ⟨0, [], [], 0⟩, none, []⟩,
  ⟨95, 95, false, 2, ⟨0, [], [], 0⟩, none, []⟩,
  ⟨105, 105, false, 2, ⟨0, [], [], 0⟩, none, [(8, ⟨4, [(0, .at (.n 0 false false)), (1, .at (.n 1 false false)), (7, .at (.n 2 false true)), (8, .at (.n 3 false true))], [], 0⟩)]⟩,
  ⟨11, 11, false, 2, ⟨0, [], [], 0⟩, none, []⟩,
  ⟨26, 26, false, 1, ⟨0, [], [], 0⟩, none, [(14, ⟨5, [(2, .at (.ptr 0 0)), (3, .at (.ptr 1 0)), (4, .at (.n 0 true false)), (5, .at (.ptr 2 0)), (6, .at (.n 1 false true))], [some [.many (some 32) (.n 2 false false)], some [.many (some 8) (.n 3 false false)], some [.many (some 64) (.n 4 false false)]], 0⟩), (31, ⟨4, [(2, .at (.ptr 0 0)), (7, .at (.ptr 1 0)), (29, .at (.n 0 false false)), (30, .at (.n 1 false true))], [some [.many (some 32) (.n 2 false false)], some [.many (some 32) (.n 3 false false)]], 0⟩), (45, ⟨7, [(2, .at (.ptr 0 0)), (7, .at (.ptr 1 0)), (8, .at (.n 0 false true)), (9, .at (.n 1 false false)), (10, .at (.n 2 false true)), (29, .at (.n 3 false false)), (30, .at (.n 4 false true))], [some [.many (some 32) (.n 5 false false)], some [.many (some 32) (.n 6 false false)]], 0⟩)]⟩,
  ⟨46, 46, false, 1, ⟨0, [], [], 0⟩, none, [(17, ⟨3, [(0, .at (.n 0 false false)), (4, .at (.n 1 false false)), (30, .at (.n 2 false true))], [], 0⟩), (30, ⟨4, [(6, .at (.n 0 true true)), (7, .at (.n 1 false true)), (36, .at (.n 2 false false)), (37, .at (.n 3 false true))], [], 0⟩)]⟩,
  ⟨51, 51, false, 3, ⟨0, [], [], 0⟩, none, [(10, ⟨6, [(1, .at (.n 0 false false)), (3, .at (.ptr 0 0)), (5, .at (.ptr 1 0)), (6, .at (.ptr 2 0)), (7, .at (.ptr 3 0)), (8, .at (.n 1 false true))], [some [.many none (.n 2 false false)], some [.many none (.n 3 false false)], some [.many (some 8) (.n 4 false false)], some [.many (some 64) (.n 5 false false)]], 0⟩), (25, ⟨5, [(3, .at (.ptr 0 0)), (5, .at (.ptr 1 0)), (6, .at (.ptr 2 0)), (7, .at (.ptr 3 0)), (9, .at (.n 0 false true))], [some [.many none (.n 1 false false)], some [.many none (.n 2 false false)], some [.many (some 8) (.n 3 false false)], some [.many (some 64) (.n 4 false false)]], 0⟩), (48, ⟨13, [(3, .at (.ptr 0 0)), (5, .at (.ptr 1 0)), (6, .at (.ptr 2 0)), (7, .at (.ptr 3 0)), (14, .at (.n 0 false false)), (15, .at (.n 1 false false)), (16, .at (.n 2 false false)), (17, .at (.n 3 false false)), (18, .at (.n 4 false false)), (19, .at (.n 5 false false)), (20, .at (.n 6 false false)), (21, .at (.n 7 false false)), (22, .at (.n 8 false true))], [some [.many none (.n 9 false false)], some [.many none (.n 10 false false)], some [.many (some 8) (.n 11 false false)], some [.many (some 64) (.n 12 false false)]], 0⟩)]⟩,
  ⟨71, 71, false, 1, ⟨0, [], [], 0⟩, none, []⟩,
  ⟨76, 76, false, 4, ⟨0, [], [], 0⟩, none, []⟩,
  ⟨91, 91, false, 1, ⟨0, [], [], 0⟩, none, []⟩,
  ⟨106, 106, false, 2, ⟨0, [], [], 0⟩, none, []⟩,
  ⟨7, 7, false, 0, ⟨0, [], [], 0⟩, none, []⟩,
  ⟨22, 22, false, 1, ⟨0, [], [], 0⟩, none, [(18, ⟨4, [(4, .at (.n 0 true true)), (11, .at (.n 1 false false)), (12, .at (.n 2 false true)), (13, .at (.n 3 false true))], [], 0⟩)]⟩,
  ⟨27, 27, false, 1, ⟨0, [], [], 0⟩, none, [(10, ⟨4, [(3, .at (.n 0 false false)), (9, .at (.n 1 false false)), (10, .at (.n 2 false true)), (11, .at (.n 3 false true))], [], 0⟩)]⟩,
  ⟨47, 47, false, 1, ⟨0, [], [], 0⟩, none, []⟩,
  ⟨52, 52, false, 1, ⟨0, [], [], 0⟩, none, [(12, ⟨3, [(3, .at (.n 0 false true)), (4, .at (.n 1 false true)), (5, .at (.n 2 false true))], [], 0⟩)]⟩,
  ⟨72, 72, false, 1, ⟨0, [], [], 0⟩, none, [(10, ⟨3, [(0, .at (.n 0 false false)), (3, .at (.ptr 0 0)), (5, .at (.n 1 false true))], [some [.many (some 8) (.n 2 false false)]], 0⟩)]⟩,
  ⟨92, 92, false, 1, ⟨0, [], [], 0⟩, none, []⟩,
  ⟨107, 107, false, 2, ⟨0, [], [], 0⟩, none, [(8, ⟨3, [(0, .at (.n 0 false false)), (1, .at (.n 1 false false)), (5, .at (.n 2 false true))], [], 0⟩)]⟩,
  ⟨8, 8, false, 1, ⟨0, [], [], 0⟩, none, []⟩,
  ⟨23, 23, false, 1, ⟨0, [], [], 0⟩, none, [(9, ⟨2, [(4, .at (.n 0 false false)), (21, .at (.n 1 false true))], [], 0⟩), (18, ⟨2, [(4, .at (.n 0 false false)), (6, .at (.n 1 true true))], [], 0⟩)]⟩,
  ⟨48, 48, false, 1, ⟨0, [], [], 0⟩, none, [(12, ⟨5, [(0, .at (.n 0 false false)), (2, .at (.ptr 0 0)), (3, .at (.ptr 1 0)), (4, .at (.ptr 2 0)), (5, .at (.n 1 false false))], [some [.many (some 32) (.n 2 false false)], some [.many (some 8) (.n 3 false false)], some [.many (some 64) (.n 4 false false)]], 0⟩), (39, ⟨4, [(0, .at (.n 0 false false)), (2, .at (.ptr 0 0)), (3, .at (.ptr 1 0)), (4, .at (.ptr 2 0))], [some [.many (some 32) (.n 1 false false)], some [.many (some 8) (.n 2 false false)], some [.many (some 64) (.n 3 false false)]], 0⟩), (43, ⟨5, [(0, .at (.n 0 false false)), (2, .at (.ptr 0 0)), (3, .at (.ptr 1 0)), (4, .at (.ptr 2 0)), (34, .at (.n 1 false true))], [some [.many (some 32) (.n 2 false false)], some [.many (some 8) (.n 3 false false)], some [.many (some 64) (.n 4 false false)]], 0⟩), (64, ⟨4, [(2, .at (.ptr 0 0)), (3, .at (.ptr 1 0)), (7, .at (.ptr 2 0)), (52, .at (.n 0 false true))], [some [.many (some 32) (.n 1 false false)], some [.many (some 8) (.n 2 false false)], some [.many (some 32) (.n 3 false false)]], 0⟩)]⟩,
  ⟨73, 73, false, 1, ⟨0, [], [], 0⟩, none, [(18, ⟨3, [(0, .at (.n 0 false false)), (4, .at (.n 1 false true)), (9, .at (.n 2 false true))], [], 0⟩)]⟩,
  ⟨93, 93, false, 2, ⟨0, [], [], 0⟩, none, []⟩,
  ⟨9, 9, false, 1, ⟨0, [], [], 0⟩, none, []⟩,
  ⟨24, 24, false, 1, ⟨0, [], [], 0⟩, none, []⟩,
  ⟨44, 44, false, 1, ⟨0, [], [], 0⟩, none, [(8, ⟨4, [(0, .at (.n 0 false false)), (5, .at (.n 1 false false)), (6, .at (.n 2 false true)), (7, .at (.n 3 false true))], [], 0⟩)]⟩,
  ⟨49, 49, true, 1, ⟨0, [], [], 0⟩, none, [(8, ⟨2, [(0, .at (.n 0 false false)), (3, .at (.n 1 true true))], [], 0⟩), (25, ⟨4, [(3, .at (.n 0 true true)), (4, .at (.n 1 false true)), (5, .at (.n 2 true true)), (6, .at (.n 3 false true))], [], 0⟩)]⟩,
  ⟨79, 79, false, 2, ⟨0, [], [], 0⟩, none, []⟩,
  ⟨94, 94, false, 1, ⟨0, [], [], 0⟩, none, []⟩,
  ⟨99, 99, false, 2, ⟨0, [], [], 0⟩, none, [(10, ⟨4, [(0, .at (.n 0 false false)), (1, .at (.n 1 false false)), (5, .at (.n 2 false true)), (16, .at (.n 3 false true))], [], 0⟩)]⟩,
  ⟨109, 109, false, 2, ⟨0, [], [], 0⟩, none, []⟩,
  ⟨3, 3, false, 2, ⟨0, [], [], 0⟩, none, [(25, ⟨6, [(0, .at (.n 0 false false)), (1, .at (.n 1 false false)), (5, .at (.ptr 0 0)), (6, .at (.ptr 1 0)), (7, .at (.ptr 2 0)), (45, .at (.n 2 false true))], [some [.many (some 32) (.n 3 false false)], some [.many (some 32) (.n 4 false false)], some [.many (some 32) (.n 5 false false)]], 0⟩), (36, ⟨8, [(0, .at (.n 0 false false)), (1, .at (.n 1 false false)), (5, .at (.ptr 0 0)), (6, .at (.ptr 1 0)), (7, .at (.ptr 2 0)), (8, .at (.n 2 true true)), (48, .at (.n 3 false false)), (49, .at (.n 4 false true))], [some [.many (some 32) (.n 5 false false)], some [.many (some 32) (.n 6 false false)], some [.many (some 32) (.n 7 false false)]], 0⟩), (50, ⟨11, [(0, .at (.n 0 false false)), (1, .at (.n 1 false false)), (5, .at (.ptr 0 0)), (6, .at (.ptr 1 0)), (7, .at (.ptr 2 0)), (8, .at (.n 2 true true)), (10, .at (.n 3 false false)), (48, .at (.n 4 false false)), (49, .at (.n 5 false true)), (52, .at (.n 6 false false)), (53, .at (.n 7 false true))], [some [.many (some 32) (.n 8 false false)], some [.many (some 32) (.n 9 false false)], some [.many (some 32) (.n 10 false false)]], 0⟩), (67, ⟨15, [(0, .at (.n 0 false false)), (1, .at (.n 1 false false)), (5, .at (.ptr 0 0)), (6, .at (.ptr 1 0)), (7, .at (.ptr 2 0)), (8, .at (.n 2 true true)), (10, .at (.n 3 false false)), (13, .at (.ptr 3 0)), (48, .at (.n 4 false false)), (49, .at (.n 5 false true)), (52, .at (.n 6 false false)), (53, .at (.n 7 false true)), (59, .at (.n 8 false true)), (60, .at (.n 9 false true)), (61, .at (.n 10 false true))], [some [.many (some 32) (.n 11 false false)], some [.many (some 32) (.n 12 false false)], some [.many (some 32) (.n 13 false false)], some [.many (some 32) (.n 14 false false)]], 0⟩)]⟩,
  ⟨11184, 74, false, 2, ⟨2, [(0, .at (.ptr 0 0)), (1, .at (.osl 1 0 64 64 1))], [some [.many (some 8) (.n 0 false false)], some [.many (some 64) (.n 1 false false)]], 2⟩, some [⟨2, [], [some [.many (some 8) (.n 0 false false)], some [.many (some 64) (.n 1 false false)]]⟩], [(8, ⟨4, [(0, .at (.ptr 0 0)), (1, .at (.osl 1 0 64 64 1)), (4, .at (.ptr 2 0)), (26, .at (.n 0 false true))], [some [.many (some 8) (.n 1 false false)], some [.many (some 64) (.n 2 false false)], some [.many (some 64) (.n 3 false false)]], 2⟩), (25, ⟨4, [(0, .at (.ptr 0 0)), (4, .at (.ptr 2 0)), (6, .at (.n 0 false true))], [some [.many (some 8) (.n 1 false false)], some [.many (some 64) (.n 2 false false)], some [.many (some 64) (.n 3 false false)]], 2⟩), (48, ⟨12, [(0, .at (.ptr 0 0)), (11, .at (.n 0 false false)), (12, .at (.n 1 false false)), (13, .at (.n 2 false false)), (14, .at (.n 3 false false)), (15, .at (.n 4 false false)), (16, .at (.n 5 false false)), (17, .at (.n 6 false false)), (18, .at (.n 7 false false)), (112, .at (.n 8 false false)), (113, .at (.n 9 false true))], [some [.many (some 8) (.n 10 false false)], some [.many (some 64) (.n 11 false false)]], 2⟩), (72, ⟨4, [(0, .at (.ptr 0 0)), (185, .at (.n 0 false false)), (186, .at (.n 1 false true))], [some [.many (some 8) (.n 2 false false)], some [.many (some 64) (.n 3 false false)]], 2⟩)]⟩]
def tabs : List FE := tabs0
def extO : Nat → Bool := fun f => [29, 34].any (Nat.beq f)
def tb0 : List V := [.int .u32 1116352408, .int .u32 1899447441, .int .u32 3049323471, .int .u32 3921009573, .int .u32 961987163, .int .u32 1508970993, .int .u32 2453635748, .int .u32 2870763221, .int .u32 3624381080, .int .u32 310598401, .int .u32 607225278, .int .u32 1426881987, .int .u32 1925078388, .int .u32 2162078206, .int .u32 2614888103, .int .u32 3248222580, .int .u32 3835390401, .int .u32 4022224774, .int .u32 264347078, .int .u32 604807628, .int .u32 770255983, .int .u32 1249150122, .int .u32 1555081692, .int .u32 1996064986, .int .u32 2554220882, .int .u32 2821834349, .int .u32 2952996808, .int .u32 3210313671, .int .u32 3336571891, .int .u32 3584528711, .int .u32 113926993, .int .u32 338241895, .int .u32 666307205, .int .u32 773529912, .int .u32 1294757372, .int .u32 1396182291, .int .u32 1695183700, .int .u32 1986661051, .int .u32 2177026350, .int .u32 2456956037, .int .u32 2730485921, .int .u32 2820302411, .int .u32 3259730800, .int .u32 3345764771, .int .u32 3516065817, .int .u32 3600352804, .int .u32 4094571909, .int .u32 275423344, .int .u32 430227734, .int .u32 506948616, .int .u32 659060556, .int .u32 883997877, .int .u32 958139571, .int .u32 1322822218, .int .u32 1537002063, .int .u32 1747873779, .int .u32 1955562222, .int .u32 2024104815, .int .u32 2227730452, .int .u32 2361852424, .int .u32 2428436474, .int .u32 2756734187, .int .u32 3204031479, .int .u32 3329325298]
def gls : Nat → Option (List V) := fun g => match Nat.beq g 0 with | true => some tb0 | false => none
def cfg : Cfg := cfgOf tabs extO gls
theorem keys : keysOK tabs = true := by kernel_rfl
noncomputable abbrev vl (e : Nat → List V → Option V) : Gam := val Tryd.prog tabs e cfg
end Go.Proofs.YtghjeddphkmciaaDoor
/-
  What functions of the program come to, over values alone. Printed by programs of this seat (wip/y/tool.lean, asm.py).
-/
namespace Go.Proofs.YtghjeddphkmciaaDoor
open Go.Abs

noncomputable def y.object_CommitName (Γ : Gam) (v0 : V) : Option V :=
  pr (.bsl 1) [v0] fun v1 =>
  ca Γ 25 [(.str [99, 111, 109, 109, 105, 116]), v1] fun v2 =>
  pr (.cat [some 32]) [v2] fun v3 =>
  some v3
theorem w.object_CommitName (e : Nat → List V → Option V) (v0 : V) : vl e 10 0 [v0] = y.object_CommitName (vl e) v0 := val_of (by kernel_rfl)
noncomputable def y.sha_Sum (Γ : Gam) (v0 v1 : V) : Option V :=
  pr (.bsl 1) [v0] fun v2 =>
  pr (.app 1) [v2, v1] fun v3 =>
  ca Γ 45 [v3] fun v4 =>
  ca Γ 48 [v4] fun v5 =>
  pr (.cat [some 32]) [v5] fun v6 =>
  some v6
theorem w.sha_Sum (e : Nat → List V → Option V) (v0 v1 : V) : vl e 25 0 [v0, v1] = y.sha_Sum (vl e) v0 v1 := val_of (by kernel_rfl)
noncomputable def y.code_Join (Γ : Gam) (v0 : V) : Option V :=
  pr (.len false) [v0] fun v1 =>
  Γ 45 10 [v0, (.int .i64 8), v0, v1, (.int .i64 0)]
theorem w.code_Join (e : Nat → List V → Option V) (v0 : V) : vl e 45 0 [v0] = y.code_Join (vl e) v0 := val_of (by kernel_rfl)
noncomputable def y.code_Join_10 (Γ : Gam) (v0 v1 v2 v3 v4 : V) : Option V :=
  pr (.bin (.lss) (.no)) [v4, v3] fun v5 =>
  vif v5 (
    pr (.elem 1) [v2, v4] fun v6 =>
    pr (.ld none 0) [v6] fun v7 =>
    pr (.len true) [v7] fun v8 =>
    pr (.bin (.add) (.no)) [(.int .i64 8), v8] fun v9 =>
    pr (.bin (.add) (.no)) [v1, v9] fun v10 =>
    pr (.bin (.add) (.no)) [v4, (.int .i64 1)] fun v11 =>
    Γ 45 10 [v0, v10, v2, v3, v11]) (
    pr (.mks 1) [(.int .i64 0), v1] fun v6 =>
    pr (.len false) [v0] fun v7 =>
    ca Γ 72 [v7] fun v8 =>
    pr (.app 1) [v6, v8] fun v9 =>
    pr (.len false) [v0] fun v10 =>
    Γ 45 31 [v9, v0, v10, (.int .i64 0)])
theorem w.code_Join_10 (e : Nat → List V → Option V) (v0 v1 v2 v3 v4 : V) : vl e 45 10 [v0, v1, v2, v3, v4] = y.code_Join_10 (vl e) v0 v1 v2 v3 v4 := val_of (by kernel_rfl)
noncomputable def y.code_Join_31 (Γ : Gam) (v0 v1 v2 v3 : V) : Option V :=
  pr (.bin (.lss) (.no)) [v3, v2] fun v4 =>
  vif v4 (
    pr (.elem 1) [v1, v3] fun v5 =>
    pr (.ld none 0) [v5] fun v6 =>
    pr (.len true) [v6] fun v7 =>
    ca Γ 72 [v7] fun v8 =>
    pr (.app 1) [v0, v8] fun v9 =>
    pr (.app 1) [v9, v6] fun v10 =>
    pr (.bin (.add) (.no)) [v3, (.int .i64 1)] fun v11 =>
    Γ 45 31 [v10, v1, v2, v11]) (
    pr .b2s [v0] fun v5 =>
    some v5)
theorem w.code_Join_31 (e : Nat → List V → Option V) (v0 v1 v2 v3 : V) : vl e 45 31 [v0, v1, v2, v3] = y.code_Join_31 (vl e) v0 v1 v2 v3 := val_of (by kernel_rfl)
noncomputable def y.seicheref02_Numbers (Γ : Gam) : Option V :=
  pr (.cat   [none,    none,    none,    none,    none,    none,    none,    none,    none,    none,    none,    none,    none,    none,    none,    none,    none,    none,    none,    none,    none,    none,    none,    none,    none,    none,    none,    none,    none,    none,    none,    none,    none,    none,    none,    none,    none,    none,    none,    none,    none,    none,    none,    none,    none,    none,    none,    none,    none,    none,    none,    none,    none,    none,    none,    none,    none,    none,    none,    none,    none,    none,    none,    none]) ((.int .u32 1116352408) :: (.int .u32 1899447441) :: (.int .u32 3049323471) :: (.int .u32 3921009573) :: (.int .u32 961987163) :: (.int .u32 1508970993) :: (.int .u32 2453635748) :: (.int .u32 2870763221) :: (.int .u32 3624381080) :: (.int .u32 310598401) :: (.int .u32 607225278) :: (.int .u32 1426881987) :: (.int .u32 1925078388) :: (.int .u32 2162078206) :: (.int .u32 2614888103) :: (.int .u32 3248222580) :: (.int .u32 3835390401) :: (.int .u32 4022224774) :: (.int .u32 264347078) :: (.int .u32 604807628) :: (.int .u32 770255983) :: (.int .u32 1249150122) :: (.int .u32 1555081692) :: (.int .u32 1996064986) :: (.int .u32 2554220882) :: (.int .u32 2821834349) :: (.int .u32 2952996808) :: (.int .u32 3210313671) :: (.int .u32 3336571891) :: (.int .u32 3584528711) :: (.int .u32 113926993) :: (.int .u32 338241895) :: (.int .u32 666307205) :: (.int .u32 773529912) :: (.int .u32 1294757372) :: (.int .u32 1396182291) :: (.int .u32 1695183700) :: (.int .u32 1986661051) :: (.int .u32 2177026350) :: (.int .u32 2456956037) :: (.int .u32 2730485921) :: (.int .u32 2820302411) :: (.int .u32 3259730800) :: (.int .u32 3345764771) :: (.int .u32 3516065817) :: (.int .u32 3600352804) :: (.int .u32 4094571909) :: (.int .u32 275423344) :: (.int .u32 430227734) :: (.int .u32 506948616) :: (.int .u32 659060556) :: (.int .u32 883997877) :: (.int .u32 958139571) :: (.int .u32 1322822218) :: (.int .u32 1537002063) :: (.int .u32 1747873779) :: (.int .u32 1955562222) :: (.int .u32 2024104815) :: (.int .u32 2227730452) :: (.int .u32 2361852424) :: (.int .u32 2428436474) :: (.int .u32 2756734187) :: (.int .u32 3204031479) :: (.int .u32 3329325298) :: []) fun v0 =>
  some v0
theorem w.seicheref02_Numbers (e : Nat → List V → Option V) : vl e 50 0 [] = y.seicheref02_Numbers (vl e) := val_of (by kernel_rfl)
noncomputable def y.path_Good (Γ : Gam) (v0 : V) : Option V :=
  pr (.len true) [v0] fun v1 =>
  pr (.bin (.gtr) (.no)) [v1, (.int .i64 128)] fun v2 =>
  vif v2 (
    some (.bool false)) (
    ca Γ 29 [v0, (.str [47])] fun v3 =>
    pr (.len false) [v3] fun v4 =>
    pr (.bin (.leq) (.no)) [v4, (.int .i64 16)] fun v5 =>
    vif v5 (
      ca Γ 90 [v3, (.fn 91 [])] fun v6 =>
      pr (.un (.not)) [v6] fun v7 =>
      some v7) (
      some (.bool false)))
theorem w.path_Good (e : Nat → List V → Option V) (v0 : V) : vl e 70 0 [v0] = y.path_Good (vl e) v0 := val_of (by kernel_rfl)
noncomputable def y.seicheref02_turn (Γ : Gam) (v0 v1 : V) : Option V :=
  pr (.bin (.shr) (.no)) [v0, v1] fun v2 =>
  pr (.bin (.sub) (.no)) [(.int .u64 32), v1] fun v3 =>
  pr (.bin (.shl) (.no)) [v0, v3] fun v4 =>
  pr (.bin (.or) (.no)) [v2, v4] fun v5 =>
  some v5
theorem w.seicheref02_turn (e : Nat → List V → Option V) (v0 v1 : V) : vl e 75 0 [v0, v1] = y.seicheref02_turn (vl e) v0 v1 := val_of (by kernel_rfl)
noncomputable def y.slices_ContainsFunc_Lstring_string (Γ : Gam) (v0 v1 : V) : Option V :=
  ca Γ 105 [v0, v1] fun v2 =>
  pr (.bin (.geq) (.no)) [v2, (.int .i64 0)] fun v3 =>
  some v3
theorem w.slices_ContainsFunc_Lstring_string (e : Nat → List V → Option V) (v0 v1 : V) : vl e 90 0 [v0, v1] = y.slices_ContainsFunc_Lstring_string (vl e) v0 v1 := val_of (by kernel_rfl)
noncomputable def y.math_bits_RotateLeft32 (Γ : Gam) (v0 v1 : V) : Option V :=
  pr (.i2i (.u64)) [v1] fun v2 =>
  pr (.bin (.and) (.no)) [v2, (.int .u64 31)] fun v3 =>
  pr (.bin (.shl) (.no)) [v0, v3] fun v4 =>
  pr (.bin (.sub) (.no)) [(.int .u64 32), v3] fun v5 =>
  pr (.bin (.shr) (.no)) [v0, v5] fun v6 =>
  pr (.bin (.or) (.no)) [v4, v6] fun v7 =>
  some v7
theorem w.math_bits_RotateLeft32 (e : Nat → List V → Option V) (v0 v1 : V) : vl e 95 0 [v0, v1] = y.math_bits_RotateLeft32 (vl e) v0 v1 := val_of (by kernel_rfl)
noncomputable def y.slices_IndexFunc_Lstring_string (Γ : Gam) (v0 v1 : V) : Option V :=
  pr (.len false) [v0] fun v2 =>
  Γ 105 8 [v0, v1, v2, (.int .i64 0)]
theorem w.slices_IndexFunc_Lstring_string (e : Nat → List V → Option V) (v0 v1 : V) : vl e 105 0 [v0, v1] = y.slices_IndexFunc_Lstring_string (vl e) v0 v1 := val_of (by kernel_rfl)
noncomputable def y.slices_IndexFunc_Lstring_string_8 (Γ : Gam) (v0 v1 v2 v3 : V) : Option V :=
  pr (.bin (.lss) (.no)) [v3, v2] fun v4 =>
  vif v4 (
    pr (.elem 1) [v0, v3] fun v5 =>
    pr (.ld none 0) [v5] fun v6 =>
    cv Γ v1 [v6] fun v7 =>
    vif v7 (
      some v3) (
      pr (.bin (.add) (.no)) [v3, (.int .i64 1)] fun v8 =>
      Γ 105 8 [v0, v1, v2, v8])) (
    some (.int .i64 (-1)))
theorem w.slices_IndexFunc_Lstring_string_8 (e : Nat → List V → Option V) (v0 v1 v2 v3 : V) : vl e 105 8 [v0, v1, v2, v3] = y.slices_IndexFunc_Lstring_string_8 (vl e) v0 v1 v2 v3 := val_of (by kernel_rfl)
noncomputable def y.seicheref07_Sum (Γ : Gam) (v0 v1 : V) : Option V :=
  pr (.bsl 1) [v0, v1] fun v2 =>
  ca Γ 27 [v2] fun v3 =>
  pr .s2b [v3] fun v4 =>
  ca Γ 26 [v4] fun v5 =>
  pr (.cat [some 32]) [v5] fun v6 =>
  some v6
theorem w.seicheref07_Sum (e : Nat → List V → Option V) (v0 v1 : V) : vl e 11 0 [v0, v1] = y.seicheref07_Sum (vl e) v0 v1 := val_of (by kernel_rfl)
noncomputable def y.seicheref02_Of (Γ : Gam) (v0 : V) : Option V :=
  pr (.cat [none, none, none, none, none, none, none, none]) [(.int .u32 1779033703), (.int .u32 3144134277), (.int .u32 1013904242), (.int .u32 2773480762), (.int .u32 1359893119), (.int .u32 2600822924), (.int .u32 528734635), (.int .u32 1541459225)] fun v1 =>
  ca Γ 49 [v0] fun v2 =>
  ca Γ 50 [] fun v3 =>
  pr (.cat [some 64]) [v3] fun v4 =>
  Γ 26 14 [v2, (.int .i64 0), (.agg (repl 32 (.int .u8 0))), v1, v4]
theorem w.seicheref02_Of (e : Nat → List V → Option V) (v0 : V) : vl e 26 0 [v0] = y.seicheref02_Of (vl e) v0 := val_of (by kernel_rfl)
noncomputable def y.seicheref02_Of_14 (Γ : Gam) (v0 v1 v2 v3 v4 : V) : Option V :=
  pr (.len false) [v0] fun v5 =>
  pr (.bin (.lss) (.no)) [v1, v5] fun v6 =>
  vif v6 (
    pr (.bin (.add) (.no)) [v1, (.int .i64 64)] fun v7 =>
    pr (.slc 1 true true false) [v0, v1, v7] fun v8 =>
    ca Γ 51 [v3, v8, v4] fun v9 =>
    pr (.cat [some 8]) [v9] fun v10 =>
    pr (.bin (.add) (.no)) [v1, (.int .i64 64)] fun v11 =>
    Γ 26 14 [v0, v11, v2, v10, v4]) (
    Γ 26 31 [v3, (.int .i64 0), v2, (.agg (repl 32 (.int .u8 0)))])
theorem w.seicheref02_Of_14 (e : Nat → List V → Option V) (v0 v1 v2 v3 v4 : V) : vl e 26 14 [v0, v1, v2, v3, v4] = y.seicheref02_Of_14 (vl e) v0 v1 v2 v3 v4 := val_of (by kernel_rfl)
noncomputable def y.seicheref02_Of_31 (Γ : Gam) (v0 v1 v2 v3 : V) : Option V :=
  pr (.bin (.lss) (.no)) [v1, (.int .i64 8)] fun v4 =>
  vif v4 (
    pr (.idxa 8 1 none) [v0, v1] fun v5 =>
    Γ 26 45 [v1, v5, (.int .i64 0), v0, v1, v2, v3]) (
    pr (.cat [some 32]) [v3] fun v5 =>
    some v5)
theorem w.seicheref02_Of_31 (e : Nat → List V → Option V) (v0 v1 v2 v3 : V) : vl e 26 31 [v0, v1, v2, v3] = y.seicheref02_Of_31 (vl e) v0 v1 v2 v3 := val_of (by kernel_rfl)
noncomputable def y.seicheref02_Of_45 (Γ : Gam) (v0 v1 v2 v3 v4 v5 v6 : V) : Option V :=
  pr (.bin (.lss) (.no)) [v2, (.int .i64 4)] fun v7 =>
  vif v7 (
    pr (.bin (.mul) (.no)) [(.int .i64 4), v0] fun v8 =>
    pr (.bin (.add) (.no)) [v8, v2] fun v9 =>
    pr (.bin (.mul) (.no)) [(.int .i64 8), v2] fun v10 =>
    pr (.bin (.sub) (.no)) [(.int .i64 24), v10] fun v11 =>
    pr (.i2i (.u64)) [v11] fun v12 =>
    pr (.bin (.shr) (.no)) [v1, v12] fun v13 =>
    pr (.i2i (.u8)) [v13] fun v14 =>
    pr (.chk 32) [v9] fun v15 =>
    pr (.std 1 0 1) [v6, v15, v14] fun v16 =>
    pr (.bin (.add) (.no)) [v2, (.int .i64 1)] fun v17 =>
    Γ 26 45 [v0, v1, v17, v3, v4, v5, v16]) (
    pr (.bin (.add) (.no)) [v4, (.int .i64 1)] fun v8 =>
    Γ 26 31 [v3, v8, v5, v6])
theorem w.seicheref02_Of_45 (e : Nat → List V → Option V) (v0 v1 v2 v3 v4 v5 v6 : V) : vl e 26 45 [v0, v1, v2, v3, v4, v5, v6] = y.seicheref02_Of_45 (vl e) v0 v1 v2 v3 v4 v5 v6 := val_of (by kernel_rfl)
noncomputable def y.code_Split (Γ : Gam) (v0 : V) : Option V :=
  pr (.len true) [v0] fun v1 =>
  pr (.bin (.gtr) (.no)) [v1, (.int .i64 1048576)] fun v2 =>
  vif v2 (
    some (.tup [(.sl false 1 []), (.int .i64 3)])) (
    ca Γ 73 [v0] fun v3 =>
    pr (.ext 0) [v3] fun v4 =>
    pr (.ext 1) [v3] fun v5 =>
    pr (.un (.not)) [v5] fun v6 =>
    vif v6 (
      Γ 46 17 [v0, v4, (.bool true)]) (
      pr (.bin (.lss) (.no)) [v4, (.int .i64 0)] fun v7 =>
      vif v7 (
        Γ 46 17 [v0, v4, (.bool true)]) (
        pr (.len true) [v0] fun v8 =>
        pr (.bin (.quo) (.no)) [v8, (.int .i64 8)] fun v9 =>
        pr (.bin (.gtr) (.no)) [v4, v9] fun v10 =>
        Γ 46 17 [v0, v4, v10])))
theorem w.code_Split (e : Nat → List V → Option V) (v0 : V) : vl e 46 0 [v0] = y.code_Split (vl e) v0 := val_of (by kernel_rfl)
noncomputable def y.code_Split_17 (Γ : Gam) (v0 v1 v2 : V) : Option V :=
  vif v2 (
    some (.tup [(.sl false 1 []), (.int .i64 4)])) (
    pr (.mnx false) [v1, (.int .i64 4096)] fun v3 =>
    pr (.mks 1) [(.int .i64 0), v3] fun v4 =>
    pr (.sls true false) [v0, (.int .i64 8)] fun v5 =>
    Γ 46 30 [v4, v5, v1, (.int .i64 0)])
theorem w.code_Split_17 (e : Nat → List V → Option V) (v0 v1 v2 : V) : vl e 46 17 [v0, v1, v2] = y.code_Split_17 (vl e) v0 v1 v2 := val_of (by kernel_rfl)
noncomputable def y.code_Split_30 (Γ : Gam) (v0 v1 v2 v3 : V) : Option V :=
  pr (.bin (.lss) (.no)) [v3, v2] fun v4 =>
  vif v4 (
    ca Γ 73 [v1] fun v5 =>
    pr (.ext 0) [v5] fun v6 =>
    pr (.ext 1) [v5] fun v7 =>
    pr (.un (.not)) [v7] fun v8 =>
    vif v8 (
      some (.tup [(.sl false 1 []), (.int .i64 4)])) (
      pr (.bin (.lss) (.no)) [v6, (.int .i64 0)] fun v9 =>
      vif v9 (
        some (.tup [(.sl false 1 []), (.int .i64 4)])) (
        pr (.len true) [v1] fun v10 =>
        pr (.bin (.sub) (.no)) [v10, (.int .i64 8)] fun v11 =>
        pr (.bin (.gtr) (.no)) [v6, v11] fun v12 =>
        vif v12 (
          some (.tup [(.sl false 1 []), (.int .i64 4)])) (
          pr (.bin (.add) (.no)) [(.int .i64 8), v6] fun v13 =>
          pr (.sls true true) [v1, (.int .i64 8), v13] fun v14 =>
          pr (.bsl 1) [v14] fun v15 =>
          pr (.app 1) [v0, v15] fun v16 =>
          pr (.bin (.add) (.no)) [(.int .i64 8), v6] fun v17 =>
          pr (.sls true false) [v1, v17] fun v18 =>
          pr (.bin (.add) (.no)) [v3, (.int .i64 1)] fun v19 =>
          Γ 46 30 [v16, v18, v2, v19])))) (
    pr (.bin (.neq) (.no)) [v1, (.str [])] fun v5 =>
    vif v5 (
      some (.tup [(.sl false 1 []), (.int .i64 4)])) (
      some (.tup [v0, (.int .i64 0)])))
theorem w.code_Split_30 (e : Nat → List V → Option V) (v0 v1 v2 v3 : V) : vl e 46 30 [v0, v1, v2, v3] = y.code_Split_30 (vl e) v0 v1 v2 v3 := val_of (by kernel_rfl)
noncomputable def y.seicheref02_Next (Γ : Gam) (v0 v1 v2 : V) : Option V :=
  pr .scs [v0] fun v3 =>
  pr .scs [v2] fun v4 =>
  Γ 51 10 [v1, (.int .i64 0), v3, v4, (.agg [.int .u32 0, .int .u32 0, .int .u32 0, .int .u32 0, .int .u32 0, .int .u32 0, .int .u32 0, .int .u32 0]), (.agg (repl 64 (.int .u32 0)))]
theorem w.seicheref02_Next (e : Nat → List V → Option V) (v0 v1 v2 : V) : vl e 51 0 [v0, v1, v2] = y.seicheref02_Next (vl e) v0 v1 v2 := val_of (by kernel_rfl)
noncomputable def y.seicheref02_Next_10 (Γ : Gam) (v0 v1 v2 v3 v4 v5 : V) : Option V :=
  pr (.bin (.lss) (.no)) [v1, (.int .i64 16)] fun v6 =>
  vif v6 (
    pr (.bin (.mul) (.no)) [(.int .i64 4), v1] fun v7 =>
    pr (.elem 1) [v0, v7] fun v8 =>
    pr (.ld none 0) [v8] fun v9 =>
    pr (.i2i (.u32)) [v9] fun v10 =>
    pr (.bin (.shl) (.no)) [v10, (.int .u64 24)] fun v11 =>
    pr (.bin (.mul) (.no)) [(.int .i64 4), v1] fun v12 =>
    pr (.bin (.add) (.no)) [v12, (.int .i64 1)] fun v13 =>
    pr (.elem 1) [v0, v13] fun v14 =>
    pr (.ld none 0) [v14] fun v15 =>
    pr (.i2i (.u32)) [v15] fun v16 =>
    pr (.bin (.shl) (.no)) [v16, (.int .u64 16)] fun v17 =>
    pr (.bin (.add) (.no)) [v11, v17] fun v18 =>
    pr (.bin (.mul) (.no)) [(.int .i64 4), v1] fun v19 =>
    pr (.bin (.add) (.no)) [v19, (.int .i64 2)] fun v20 =>
    pr (.elem 1) [v0, v20] fun v21 =>
    pr (.ld none 0) [v21] fun v22 =>
    pr (.i2i (.u32)) [v22] fun v23 =>
    pr (.bin (.shl) (.no)) [v23, (.int .u64 8)] fun v24 =>
    pr (.bin (.add) (.no)) [v18, v24] fun v25 =>
    pr (.bin (.mul) (.no)) [(.int .i64 4), v1] fun v26 =>
    pr (.bin (.add) (.no)) [v26, (.int .i64 3)] fun v27 =>
    pr (.elem 1) [v0, v27] fun v28 =>
    pr (.ld none 0) [v28] fun v29 =>
    pr (.i2i (.u32)) [v29] fun v30 =>
    pr (.bin (.add) (.no)) [v25, v30] fun v31 =>
    pr (.chk 64) [v1] fun v32 =>
    pr (.std 1 0 1) [v5, v32, v31] fun v33 =>
    pr (.bin (.add) (.no)) [v1, (.int .i64 1)] fun v34 =>
    Γ 51 10 [v0, v34, v2, v3, v4, v33]) (
    Γ 51 25 [(.int .i64 16), v2, v3, v4, v5])
theorem w.seicheref02_Next_10 (e : Nat → List V → Option V) (v0 v1 v2 v3 v4 v5 : V) : vl e 51 10 [v0, v1, v2, v3, v4, v5] = y.seicheref02_Next_10 (vl e) v0 v1 v2 v3 v4 v5 := val_of (by kernel_rfl)
noncomputable def y.seicheref02_Next_25 (Γ : Gam) (v0 v1 v2 v3 v4 : V) : Option V :=
  pr (.bin (.lss) (.no)) [v0, (.int .i64 64)] fun v5 =>
  vif v5 (
    pr (.bin (.sub) (.no)) [v0, (.int .i64 15)] fun v6 =>
    pr (.chk 64) [v6] fun v7 =>
    pr (.ldd none 0 1) [v4, v7] fun v8 =>
    pr (.bin (.sub) (.no)) [v0, (.int .i64 2)] fun v9 =>
    pr (.chk 64) [v9] fun v10 =>
    pr (.ldd none 0 1) [v4, v10] fun v11 =>
    ca Γ 75 [v8, (.int .u64 7)] fun v12 =>
    ca Γ 75 [v8, (.int .u64 18)] fun v13 =>
    pr (.bin (.xor) (.no)) [v12, v13] fun v14 =>
    pr (.bin (.shr) (.no)) [v8, (.int .u64 3)] fun v15 =>
    pr (.bin (.xor) (.no)) [v14, v15] fun v16 =>
    ca Γ 75 [v11, (.int .u64 17)] fun v17 =>
    ca Γ 75 [v11, (.int .u64 19)] fun v18 =>
    pr (.bin (.xor) (.no)) [v17, v18] fun v19 =>
    pr (.bin (.shr) (.no)) [v11, (.int .u64 10)] fun v20 =>
    pr (.bin (.xor) (.no)) [v19, v20] fun v21 =>
    pr (.bin (.sub) (.no)) [v0, (.int .i64 16)] fun v22 =>
    pr (.chk 64) [v22] fun v23 =>
    pr (.ldd none 0 1) [v4, v23] fun v24 =>
    pr (.bin (.add) (.no)) [v24, v16] fun v25 =>
    pr (.bin (.sub) (.no)) [v0, (.int .i64 7)] fun v26 =>
    pr (.chk 64) [v26] fun v27 =>
    pr (.ldd none 0 1) [v4, v27] fun v28 =>
    pr (.bin (.add) (.no)) [v25, v28] fun v29 =>
    pr (.bin (.add) (.no)) [v29, v21] fun v30 =>
    pr (.chk 64) [v0] fun v31 =>
    pr (.std 1 0 1) [v4, v31, v30] fun v32 =>
    pr (.bin (.add) (.no)) [v0, (.int .i64 1)] fun v33 =>
    Γ 51 25 [v33, v1, v2, v3, v32]) (
    pr (.ld none 0) [v1] fun v6 =>
    pr (.ld none 1) [v1] fun v7 =>
    pr (.ld none 2) [v1] fun v8 =>
    pr (.ld none 3) [v1] fun v9 =>
    pr (.ld none 4) [v1] fun v10 =>
    pr (.ld none 5) [v1] fun v11 =>
    pr (.ld none 6) [v1] fun v12 =>
    pr (.ld none 7) [v1] fun v13 =>
    Γ 51 48 [v6, v7, v8, v9, v10, v11, v12, v13, (.int .i64 0), v1, v2, v3, v4])
theorem w.seicheref02_Next_25 (e : Nat → List V → Option V) (v0 v1 v2 v3 v4 : V) : vl e 51 25 [v0, v1, v2, v3, v4] = y.seicheref02_Next_25 (vl e) v0 v1 v2 v3 v4 := val_of (by kernel_rfl)
noncomputable def y.seicheref02_Next_48 (Γ : Gam) (v0 v1 v2 v3 v4 v5 v6 v7 v8 v9 v10 v11 v12 : V) : Option V :=
  pr (.bin (.lss) (.no)) [v8, (.int .i64 64)] fun v13 =>
  vif v13 (
    ca Γ 76 [v4, (.int .u64 6), (.int .u64 11), (.int .u64 25)] fun v14 =>
    pr (.bin (.add) (.no)) [v7, v14] fun v15 =>
    pr (.bin (.and) (.no)) [v4, v5] fun v16 =>
    pr (.un (.xor)) [v4] fun v17 =>
    pr (.bin (.and) (.no)) [v17, v6] fun v18 =>
    pr (.bin (.xor) (.no)) [v16, v18] fun v19 =>
    pr (.bin (.add) (.no)) [v15, v19] fun v20 =>
    pr (.chk 64) [v8] fun v21 =>
    pr (.ldd none 0 1) [v10, v21] fun v22 =>
    pr (.bin (.add) (.no)) [v20, v22] fun v23 =>
    pr (.chk 64) [v8] fun v24 =>
    pr (.ldd none 0 1) [v12, v24] fun v25 =>
    pr (.bin (.add) (.no)) [v23, v25] fun v26 =>
    ca Γ 76 [v0, (.int .u64 2), (.int .u64 13), (.int .u64 22)] fun v27 =>
    pr (.bin (.and) (.no)) [v0, v1] fun v28 =>
    pr (.bin (.and) (.no)) [v0, v2] fun v29 =>
    pr (.bin (.xor) (.no)) [v28, v29] fun v30 =>
    pr (.bin (.and) (.no)) [v1, v2] fun v31 =>
    pr (.bin (.xor) (.no)) [v30, v31] fun v32 =>
    pr (.bin (.add) (.no)) [v27, v32] fun v33 =>
    pr (.bin (.add) (.no)) [v3, v26] fun v34 =>
    pr (.bin (.add) (.no)) [v26, v33] fun v35 =>
    pr (.bin (.add) (.no)) [v8, (.int .i64 1)] fun v36 =>
    Γ 51 48 [v35, v0, v1, v2, v34, v4, v5, v6, v36, v9, v10, v11, v12]) (
    pr (.ld none 0) [v9] fun v14 =>
    pr (.bin (.add) (.no)) [v14, v0] fun v15 =>
    pr (.ld none 1) [v9] fun v16 =>
    pr (.bin (.add) (.no)) [v16, v1] fun v17 =>
    pr (.ld none 2) [v9] fun v18 =>
    pr (.bin (.add) (.no)) [v18, v2] fun v19 =>
    pr (.ld none 3) [v9] fun v20 =>
    pr (.bin (.add) (.no)) [v20, v3] fun v21 =>
    pr (.ld none 4) [v9] fun v22 =>
    pr (.bin (.add) (.no)) [v22, v4] fun v23 =>
    pr (.ld none 5) [v9] fun v24 =>
    pr (.bin (.add) (.no)) [v24, v5] fun v25 =>
    pr (.ld none 6) [v9] fun v26 =>
    pr (.bin (.add) (.no)) [v26, v6] fun v27 =>
    pr (.ld none 7) [v9] fun v28 =>
    pr (.bin (.add) (.no)) [v28, v7] fun v29 =>
    pr (.cat [none, none, none, none, none, none, none, none]) [v15, v17, v19, v21, v23, v25, v27, v29] fun v30 =>
    some v30)
theorem w.seicheref02_Next_48 (e : Nat → List V → Option V) (v0 v1 v2 v3 v4 v5 v6 v7 v8 v9 v10 v11 v12 : V) : vl e 51 48 [v0, v1, v2, v3, v4, v5, v6, v7, v8, v9, v10, v11, v12] = y.seicheref02_Next_48 (vl e) v0 v1 v2 v3 v4 v5 v6 v7 v8 v9 v10 v11 v12 := val_of (by kernel_rfl)
noncomputable def y.path_Dir (Γ : Gam) (v0 : V) : Option V :=
  ca Γ 93 [v0, (.int .u8 47)] fun v1 =>
  pr (.mnx true) [v1, (.int .i64 0)] fun v2 =>
  pr (.sls false true) [v0, v2] fun v3 =>
  some v3
theorem w.path_Dir (e : Nat → List V → Option V) (v0 : V) : vl e 71 0 [v0] = y.path_Dir (vl e) v0 := val_of (by kernel_rfl)
noncomputable def y.seicheref02_three (Γ : Gam) (v0 v1 v2 v3 : V) : Option V :=
  ca Γ 75 [v0, v1] fun v4 =>
  ca Γ 75 [v0, v2] fun v5 =>
  pr (.bin (.xor) (.no)) [v4, v5] fun v6 =>
  ca Γ 75 [v0, v3] fun v7 =>
  pr (.bin (.xor) (.no)) [v6, v7] fun v8 =>
  some v8
theorem w.seicheref02_three (e : Nat → List V → Option V) (v0 v1 v2 v3 : V) : vl e 76 0 [v0, v1, v2, v3] = y.seicheref02_three (vl e) v0 v1 v2 v3 := val_of (by kernel_rfl)
noncomputable def y.path_Good_1 (Γ : Gam) (v0 : V) : Option V :=
  ca Γ 92 [v0] fun v1 =>
  pr (.un (.not)) [v1] fun v2 =>
  some v2
theorem w.path_Good_1 (e : Nat → List V → Option V) (v0 : V) : vl e 91 0 [v0] = y.path_Good_1 (vl e) v0 := val_of (by kernel_rfl)
noncomputable def y.strings_Contains (Γ : Gam) (v0 v1 : V) : Option V :=
  ca Γ 79 [v0, v1] fun v2 =>
  pr (.bin (.geq) (.no)) [v2, (.int .i64 0)] fun v3 =>
  some v3
theorem w.strings_Contains (e : Nat → List V → Option V) (v0 v1 : V) : vl e 106 0 [v0, v1] = y.strings_Contains (vl e) v0 v1 := val_of (by kernel_rfl)
noncomputable def y.seichelaw07_alive (Γ : Gam) : Option V :=
  ca Γ 22 [(.sl false 34 [])] fun v0 =>
  pr (.ext 0) [v0] fun v1 =>
  pr (.ext 1) [v0] fun v2 =>
  ca Γ 23 [(.str [120])] fun v3 =>
  pr (.ext 0) [v3] fun v4 =>
  pr (.ext 1) [v3] fun v5 =>
  pr (.bin (.eql) (.no)) [v2, (.int .i64 0)] fun v6 =>
  vif v6 (
    pr (.len true) [v1] fun v7 =>
    pr (.bin (.eql) (.no)) [v7, (.int .i64 8)] fun v8 =>
    vif v8 (
      pr (.bin (.eql) (.no)) [v5, (.int .i64 4)] fun v9 =>
      vif v9 (
        pr (.cat []) [] fun v10 =>
        pr (.cat [some 32, none, none]) [(.agg (repl 32 (.int .u8 0))), (.sl false 32 []), (.str [])] fun v11 =>
        ca Γ 24 [v11] fun v12 =>
        some v12) (
        some (.bool false))) (
      some (.bool false))) (
    some (.bool false))
theorem w.seichelaw07_alive (e : Nat → List V → Option V) : vl e 7 0 [] = y.seichelaw07_alive (vl e) := val_of (by kernel_rfl)
noncomputable def y.object_PutTree (Γ : Gam) (v0 : V) : Option V :=
  ca Γ 44 [v0] fun v1 =>
  pr (.un (.not)) [v1] fun v2 =>
  vif v2 (
    some (.tup [(.str []), (.int .i64 1)])) (
    pr (.len false) [v0] fun v3 =>
    Γ 22 18 [(.sl false 1 []), v0, v3, (.int .i64 0)])
theorem w.object_PutTree (e : Nat → List V → Option V) (v0 : V) : vl e 22 0 [v0] = y.object_PutTree (vl e) v0 := val_of (by kernel_rfl)
noncomputable def y.object_PutTree_18 (Γ : Gam) (v0 v1 v2 v3 : V) : Option V :=
  pr (.bin (.lss) (.no)) [v3, v2] fun v4 =>
  vif v4 (
    pr (.elem 34) [v1, v3] fun v5 =>
    pr (.ld (some 34) 0) [v5] fun v6 =>
    pr (.cat [some 34]) [v6] fun v7 =>
    pr (.ld none 1) [v7] fun v8 =>
    vif v8 (
      pr (.ld none 0) [v7] fun v9 =>
      pr (.b2so 2 32) [v7] fun v10 =>
      pr (.bsl 1) [(.str [116, 114, 101, 101]), v9, v10] fun v11 =>
      pr (.app 1) [v0, v11] fun v12 =>
      pr (.bin (.add) (.no)) [v3, (.int .i64 1)] fun v13 =>
      Γ 22 18 [v12, v1, v2, v13]) (
      pr (.ld none 0) [v7] fun v9 =>
      pr (.b2so 2 32) [v7] fun v10 =>
      pr (.bsl 1) [(.str [98, 108, 111, 98]), v9, v10] fun v11 =>
      pr (.app 1) [v0, v11] fun v12 =>
      pr (.bin (.add) (.no)) [v3, (.int .i64 1)] fun v13 =>
      Γ 22 18 [v12, v1, v2, v13])) (
    ca Γ 45 [v0] fun v5 =>
    some (.tup [v5, (.int .i64 0)]))
theorem w.object_PutTree_18 (e : Nat → List V → Option V) (v0 v1 v2 v3 : V) : vl e 22 18 [v0, v1, v2, v3] = y.object_PutTree_18 (vl e) v0 v1 v2 v3 := val_of (by kernel_rfl)
noncomputable def y.seicheref01_Join (Γ : Gam) (v0 : V) : Option V :=
  pr (.len false) [v0] fun v1 =>
  ca Γ 52 [v1] fun v2 =>
  pr (.len false) [v0] fun v3 =>
  Γ 27 10 [v2, v0, v3, (.int .i64 0)]
theorem w.seicheref01_Join (e : Nat → List V → Option V) (v0 : V) : vl e 27 0 [v0] = y.seicheref01_Join (vl e) v0 := val_of (by kernel_rfl)
noncomputable def y.seicheref01_Join_10 (Γ : Gam) (v0 v1 v2 v3 : V) : Option V :=
  pr (.bin (.lss) (.no)) [v3, v2] fun v4 =>
  vif v4 (
    pr (.elem 1) [v1, v3] fun v5 =>
    pr (.ld none 0) [v5] fun v6 =>
    pr (.len true) [v6] fun v7 =>
    ca Γ 52 [v7] fun v8 =>
    pr (.bin (.add) (.no)) [v0, v8] fun v9 =>
    pr (.bin (.add) (.no)) [v9, v6] fun v10 =>
    pr (.bin (.add) (.no)) [v3, (.int .i64 1)] fun v11 =>
    Γ 27 10 [v10, v1, v2, v11]) (
    some v0)
theorem w.seicheref01_Join_10 (e : Nat → List V → Option V) (v0 v1 v2 v3 : V) : vl e 27 10 [v0, v1, v2, v3] = y.seicheref01_Join_10 (vl e) v0 v1 v2 v3 := val_of (by kernel_rfl)
noncomputable def y.object_id (Γ : Gam) (v0 : V) : Option V :=
  pr (.len true) [v0] fun v1 =>
  pr (.bin (.neq) (.no)) [v1, (.int .i64 32)] fun v2 =>
  vif v2 (
    pr (.cat []) [] fun v3 =>
    pr (.cat [some 32]) [(.agg (repl 32 (.int .u8 0)))] fun v4 =>
    some (.tup [v4, (.bool false)])) (
    pr .s2b [v0] fun v3 =>
    pr (.s2a 32) [v3] fun v4 =>
    pr (.ld (some 32) 0) [v4] fun v5 =>
    pr (.cat [some 32]) [v5] fun v6 =>
    some (.tup [v6, (.bool true)]))
theorem w.object_id (e : Nat → List V → Option V) (v0 : V) : vl e 47 0 [v0] = y.object_id (vl e) v0 := val_of (by kernel_rfl)
noncomputable def y.seicheref01_Num (Γ : Gam) (v0 : V) : Option V :=
  pr (.i2i (.u64)) [v0] fun v1 =>
  Γ 52 12 [v1, (.str []), (.int .i64 0)]
theorem w.seicheref01_Num (e : Nat → List V → Option V) (v0 : V) : vl e 52 0 [v0] = y.seicheref01_Num (vl e) v0 := val_of (by kernel_rfl)
noncomputable def y.seicheref01_Num_12 (Γ : Gam) (v0 v1 v2 : V) : Option V :=
  pr (.bin (.lss) (.no)) [v2, (.int .i64 8)] fun v3 =>
  vif v3 (
    pr (.bin (.rem) (.no)) [v0, (.int .u64 256)] fun v4 =>
    pr (.i2i (.u8)) [v4] fun v5 =>
    pr (.bsl 1) [v5] fun v6 =>
    pr .b2s [v6] fun v7 =>
    pr (.bin (.add) (.no)) [v7, v1] fun v8 =>
    pr (.bin (.quo) (.no)) [v0, (.int .u64 256)] fun v9 =>
    pr (.bin (.add) (.no)) [v2, (.int .i64 1)] fun v10 =>
    Γ 52 12 [v9, v8, v10]) (
    some v1)
theorem w.seicheref01_Num_12 (e : Nat → List V → Option V) (v0 v1 v2 : V) : vl e 52 12 [v0, v1, v2] = y.seicheref01_Num_12 (vl e) v0 v1 v2 := val_of (by kernel_rfl)
noncomputable def y.code_Num (Γ : Gam) (v0 : V) : Option V :=
  Γ 72 10 [v0, (.int .i64 0), (.agg [.int .u8 0, .int .u8 0, .int .u8 0, .int .u8 0, .int .u8 0, .int .u8 0, .int .u8 0, .int .u8 0])]
theorem w.code_Num (e : Nat → List V → Option V) (v0 : V) : vl e 72 0 [v0] = y.code_Num (vl e) v0 := val_of (by kernel_rfl)
noncomputable def y.code_Num_10 (Γ : Gam) (v0 v1 v2 : V) : Option V :=
  pr (.bin (.lss) (.no)) [v1, (.int .i64 8)] fun v3 =>
  vif v3 (
    pr (.i2i (.u64)) [v0] fun v4 =>
    pr (.bin (.mul) (.no)) [(.int .i64 8), v1] fun v5 =>
    pr (.bin (.sub) (.no)) [(.int .i64 56), v5] fun v6 =>
    pr (.bin (.shr) (.no)) [v4, v6] fun v7 =>
    pr (.i2i (.u8)) [v7] fun v8 =>
    pr (.chk 8) [v1] fun v9 =>
    pr (.std 1 0 1) [v2, v9, v8] fun v10 =>
    pr (.bin (.add) (.no)) [v1, (.int .i64 1)] fun v11 =>
    Γ 72 10 [v0, v11, v10]) (
    pr (.b2so 0 8) [v2] fun v4 =>
    some v4)
theorem w.code_Num_10 (e : Nat → List V → Option V) (v0 v1 v2 : V) : vl e 72 10 [v0, v1, v2] = y.code_Num_10 (vl e) v0 v1 v2 := val_of (by kernel_rfl)
noncomputable def y.path_part (Γ : Gam) (v0 : V) : Option V :=
  pr (.bin (.neq) (.no)) [v0, (.str [])] fun v1 =>
  vif v1 (
    pr (.bin (.neq) (.no)) [v0, (.str [46])] fun v2 =>
    vif v2 (
      pr (.bin (.neq) (.no)) [v0, (.str [46, 46])] fun v3 =>
      vif v3 (
        ca Γ 106 [v0, (.str [0])] fun v4 =>
        pr (.un (.not)) [v4] fun v5 =>
        vif v5 (
          ca Γ 106 [v0, (.str [47])] fun v6 =>
          pr (.un (.not)) [v6] fun v7 =>
          some v7) (
          some (.bool false))) (
        some (.bool false))) (
      some (.bool false))) (
    some (.bool false))
theorem w.path_part (e : Nat → List V → Option V) (v0 : V) : vl e 92 0 [v0] = y.path_part (vl e) v0 := val_of (by kernel_rfl)
noncomputable def y.internal_bytealg_LastIndexByteString (Γ : Gam) (v0 v1 : V) : Option V :=
  pr (.len true) [v0] fun v2 =>
  pr (.bin (.sub) (.no)) [v2, (.int .i64 1)] fun v3 =>
  Γ 107 8 [v0, v1, v3]
theorem w.internal_bytealg_LastIndexByteString (e : Nat → List V → Option V) (v0 v1 : V) : vl e 107 0 [v0, v1] = y.internal_bytealg_LastIndexByteString (vl e) v0 v1 := val_of (by kernel_rfl)
noncomputable def y.internal_bytealg_LastIndexByteString_8 (Γ : Gam) (v0 v1 v2 : V) : Option V :=
  pr (.bin (.geq) (.no)) [v2, (.int .i64 0)] fun v3 =>
  vif v3 (
    pr .idx [v0, v2] fun v4 =>
    pr (.bin (.eql) (.no)) [v4, v1] fun v5 =>
    vif v5 (
      some v2) (
      pr (.bin (.sub) (.no)) [v2, (.int .i64 1)] fun v6 =>
      Γ 107 8 [v0, v1, v6])) (
    some (.int .i64 (-1)))
theorem w.internal_bytealg_LastIndexByteString_8 (e : Nat → List V → Option V) (v0 v1 v2 : V) : vl e 107 8 [v0, v1, v2] = y.internal_bytealg_LastIndexByteString_8 (vl e) v0 v1 v2 := val_of (by kernel_rfl)
noncomputable def y.object_Blob (Γ : Gam) (v0 : V) : Option V :=
  pr (.bsl 1) [v0] fun v1 =>
  ca Γ 25 [(.str [98, 108, 111, 98]), v1] fun v2 =>
  pr (.cat [some 32]) [v2] fun v3 =>
  some v3
theorem w.object_Blob (e : Nat → List V → Option V) (v0 : V) : vl e 8 0 [v0] = y.object_Blob (vl e) v0 := val_of (by kernel_rfl)
noncomputable def y.object_GetTree (Γ : Gam) (v0 : V) : Option V :=
  ca Γ 46 [v0] fun v1 =>
  pr (.ext 0) [v1] fun v2 =>
  pr (.ext 1) [v1] fun v3 =>
  pr (.bin (.neq) (.no)) [v3, (.int .i64 0)] fun v4 =>
  vif v4 (
    Γ 23 9 [v2, (.bool true)]) (
    pr (.len false) [v2] fun v5 =>
    pr (.bin (.rem) (.no)) [v5, (.int .i64 3)] fun v6 =>
    pr (.bin (.neq) (.no)) [v6, (.int .i64 0)] fun v7 =>
    Γ 23 9 [v2, v7])
theorem w.object_GetTree (e : Nat → List V → Option V) (v0 : V) : vl e 23 0 [v0] = y.object_GetTree (vl e) v0 := val_of (by kernel_rfl)
noncomputable def y.object_GetTree_9 (Γ : Gam) (v0 v1 : V) : Option V :=
  vif v1 (
    some (.tup [(.sl false 34 []), (.int .i64 4)])) (
    Γ 23 18 [v0, (.sl false 34 [])])
theorem w.object_GetTree_9 (e : Nat → List V → Option V) (v0 v1 : V) : vl e 23 9 [v0, v1] = y.object_GetTree_9 (vl e) v0 v1 := val_of (by kernel_rfl)
noncomputable def y.object_GetTree_18 (Γ : Gam) (v0 v1 : V) : Option V :=
  pr (.len false) [v0] fun v2 =>
  pr (.bin (.gtr) (.no)) [v2, (.int .i64 0)] fun v3 =>
  vif v3 (
    pr (.elem 1) [v0, (.int .i64 2)] fun v4 =>
    pr (.ld none 0) [v4] fun v5 =>
    ca Γ 47 [v5] fun v6 =>
    pr (.ext 0) [v6] fun v7 =>
    pr (.ext 1) [v6] fun v8 =>
    pr (.cat [some 32]) [v7] fun v9 =>
    pr (.un (.not)) [v8] fun v10 =>
    vif v10 (
      some (.tup [(.sl false 34 []), (.int .i64 4)])) (
      pr (.elem 1) [v0, (.int .i64 0)] fun v11 =>
      pr (.ld none 0) [v11] fun v12 =>
      pr (.bin (.neq) (.no)) [v12, (.str [98, 108, 111, 98])] fun v13 =>
      vif v13 (
        pr (.elem 1) [v0, (.int .i64 0)] fun v14 =>
        pr (.ld none 0) [v14] fun v15 =>
        pr (.bin (.neq) (.no)) [v15, (.str [116, 114, 101, 101])] fun v16 =>
        vif v16 (
          some (.tup [(.sl false 34 []), (.int .i64 4)])) (
          pr (.elem 1) [v0, (.int .i64 1)] fun v17 =>
          pr (.ld none 0) [v17] fun v18 =>
          pr (.elem 1) [v0, (.int .i64 0)] fun v19 =>
          pr (.ld none 0) [v19] fun v20 =>
          pr (.bin (.eql) (.no)) [v20, (.str [116, 114, 101, 101])] fun v21 =>
          pr (.cat [none, none, some 32]) [v18, v21, v9] fun v22 =>
          pr (.bsl 34) [v22] fun v23 =>
          pr (.app 34) [v1, v23] fun v24 =>
          pr (.slc 1 true false false) [v0, (.int .i64 3)] fun v25 =>
          Γ 23 18 [v25, v24])) (
        pr (.elem 1) [v0, (.int .i64 1)] fun v14 =>
        pr (.ld none 0) [v14] fun v15 =>
        pr (.elem 1) [v0, (.int .i64 0)] fun v16 =>
        pr (.ld none 0) [v16] fun v17 =>
        pr (.bin (.eql) (.no)) [v17, (.str [116, 114, 101, 101])] fun v18 =>
        pr (.cat [none, none, some 32]) [v15, v18, v9] fun v19 =>
        pr (.bsl 34) [v19] fun v20 =>
        pr (.app 34) [v1, v20] fun v21 =>
        pr (.slc 1 true false false) [v0, (.int .i64 3)] fun v22 =>
        Γ 23 18 [v22, v21]))) (
    ca Γ 44 [v1] fun v4 =>
    pr (.un (.not)) [v4] fun v5 =>
    vif v5 (
      some (.tup [(.sl false 34 []), (.int .i64 4)])) (
      some (.tup [v1, (.int .i64 0)])))
theorem w.object_GetTree_18 (e : Nat → List V → Option V) (v0 v1 : V) : vl e 23 18 [v0, v1] = y.object_GetTree_18 (vl e) v0 v1 := val_of (by kernel_rfl)
noncomputable def y.sha_Of (Γ : Gam) (v0 : V) : Option V :=
  pr (.cat [none, none, none, none, none, none, none, none]) [(.int .u32 1779033703), (.int .u32 3144134277), (.int .u32 1013904242), (.int .u32 2773480762), (.int .u32 1359893119), (.int .u32 2600822924), (.int .u32 528734635), (.int .u32 1541459225)] fun v1 =>
  Γ 48 12 [v0, v0, (.agg (repl 32 (.int .u8 0))), v1, (.agg (repl 64 (.int .u8 0)))]
theorem w.sha_Of (e : Nat → List V → Option V) (v0 : V) : vl e 48 0 [v0] = y.sha_Of (vl e) v0 := val_of (by kernel_rfl)
noncomputable def y.sha_Of_12 (Γ : Gam) (v0 v1 v2 v3 v4 : V) : Option V :=
  pr (.len true) [v1] fun v5 =>
  pr (.bin (.geq) (.no)) [v5, (.int .i64 64)] fun v6 =>
  vif v6 (
    pr (.cpya 0 64) [v4, v1] fun v7 =>
    pr (.cpyn 64) [v1] fun v8 =>
    ch Γ 11184 [v3, v7] fun v9 =>
    pr (.ext 0) [v9] fun v10 =>
    pr (.ext 1) [v9] fun v11 =>
    pr (.sls true false) [v1, (.int .i64 64)] fun v12 =>
    Γ 48 12 [v0, v12, v2, v10, v11]) (
    pr (.clra (.int .u8 0) 0 64) [v4] fun v7 =>
    pr (.cpya 0 64) [v7, v1] fun v8 =>
    pr (.cpyn 64) [v1] fun v9 =>
    pr (.len true) [v1] fun v10 =>
    pr (.chk 64) [v10] fun v11 =>
    pr (.std 1 0 1) [v8, v11, (.int .u8 128)] fun v12 =>
    pr (.len true) [v1] fun v13 =>
    pr (.bin (.geq) (.no)) [v13, (.int .i64 56)] fun v14 =>
    vif v14 (
      ch Γ 11184 [v3, v12] fun v15 =>
      pr (.ext 0) [v15] fun v16 =>
      pr (.ext 1) [v15] fun v17 =>
      pr (.clra (.int .u8 0) 0 64) [v17] fun v18 =>
      Γ 48 39 [v0, v2, v16, v18]) (
      Γ 48 39 [v0, v2, v3, v12]))
theorem w.sha_Of_12 (e : Nat → List V → Option V) (v0 v1 v2 v3 v4 : V) : vl e 48 12 [v0, v1, v2, v3, v4] = y.sha_Of_12 (vl e) v0 v1 v2 v3 v4 := val_of (by kernel_rfl)
noncomputable def y.sha_Of_39 (Γ : Gam) (v0 v1 v2 v3 : V) : Option V :=
  Γ 48 43 [v0, (.int .i64 0), v1, v2, v3]
theorem w.sha_Of_39 (e : Nat → List V → Option V) (v0 v1 v2 v3 : V) : vl e 48 39 [v0, v1, v2, v3] = y.sha_Of_39 (vl e) v0 v1 v2 v3 := val_of (by kernel_rfl)
noncomputable def y.sha_Of_43 (Γ : Gam) (v0 v1 v2 v3 v4 : V) : Option V :=
  pr (.bin (.lss) (.no)) [v1, (.int .i64 8)] fun v5 =>
  vif v5 (
    pr (.bin (.add) (.no)) [(.int .i64 56), v1] fun v6 =>
    pr (.len true) [v0] fun v7 =>
    pr (.i2i (.u64)) [v7] fun v8 =>
    pr (.bin (.shl) (.no)) [v8, (.int .u64 3)] fun v9 =>
    pr (.bin (.mul) (.no)) [(.int .i64 8), v1] fun v10 =>
    pr (.bin (.sub) (.no)) [(.int .i64 56), v10] fun v11 =>
    pr (.bin (.shr) (.no)) [v9, v11] fun v12 =>
    pr (.i2i (.u8)) [v12] fun v13 =>
    pr (.chk 64) [v6] fun v14 =>
    pr (.std 1 0 1) [v4, v14, v13] fun v15 =>
    pr (.bin (.add) (.no)) [v1, (.int .i64 1)] fun v16 =>
    Γ 48 43 [v0, v16, v2, v3, v15]) (
    ch Γ 11184 [v3, v4] fun v6 =>
    pr (.ext 0) [v6] fun v7 =>
    pr (.ext 1) [v6] fun v8 =>
    Γ 48 64 [(.int .i64 0), v2, v7, (.agg (repl 32 (.int .u8 0)))])
theorem w.sha_Of_43 (e : Nat → List V → Option V) (v0 v1 v2 v3 v4 : V) : vl e 48 43 [v0, v1, v2, v3, v4] = y.sha_Of_43 (vl e) v0 v1 v2 v3 v4 := val_of (by kernel_rfl)
noncomputable def y.sha_Of_64 (Γ : Gam) (v0 v1 v2 v3 : V) : Option V :=
  pr (.bin (.lss) (.no)) [v0, (.int .i64 32)] fun v4 =>
  vif v4 (
    pr (.bin (.quo) (.no)) [v0, (.int .i64 4)] fun v5 =>
    pr (.chk 8) [v5] fun v6 =>
    pr (.ldd none 0 1) [v2, v6] fun v7 =>
    pr (.bin (.rem) (.no)) [v0, (.int .i64 4)] fun v8 =>
    pr (.bin (.mul) (.no)) [(.int .i64 8), v8] fun v9 =>
    pr (.bin (.sub) (.no)) [(.int .i64 24), v9] fun v10 =>
    pr (.bin (.shr) (.no)) [v7, v10] fun v11 =>
    pr (.i2i (.u8)) [v11] fun v12 =>
    pr (.chk 32) [v0] fun v13 =>
    pr (.std 1 0 1) [v3, v13, v12] fun v14 =>
    pr (.bin (.add) (.no)) [v0, (.int .i64 1)] fun v15 =>
    Γ 48 64 [v15, v1, v2, v14]) (
    pr (.cat [some 32]) [v3] fun v5 =>
    some v5)
theorem w.sha_Of_64 (e : Nat → List V → Option V) (v0 v1 v2 v3 : V) : vl e 48 64 [v0, v1, v2, v3] = y.sha_Of_64 (vl e) v0 v1 v2 v3 := val_of (by kernel_rfl)
noncomputable def y.code_ReadNum (Γ : Gam) (v0 : V) : Option V :=
  pr (.len true) [v0] fun v1 =>
  pr (.bin (.lss) (.no)) [v1, (.int .i64 8)] fun v2 =>
  vif v2 (
    some (.tup [(.int .i64 0), (.bool false)])) (
    Γ 73 18 [v0, (.int .u64 0), (.int .i64 0)])
theorem w.code_ReadNum (e : Nat → List V → Option V) (v0 : V) : vl e 73 0 [v0] = y.code_ReadNum (vl e) v0 := val_of (by kernel_rfl)
noncomputable def y.code_ReadNum_18 (Γ : Gam) (v0 v1 v2 : V) : Option V :=
  pr (.bin (.lss) (.no)) [v2, (.int .i64 8)] fun v3 =>
  vif v3 (
    pr (.bin (.shl) (.no)) [v1, (.int .u64 8)] fun v4 =>
    pr .idx [v0, v2] fun v5 =>
    pr (.i2i (.u64)) [v5] fun v6 =>
    pr (.bin (.or) (.no)) [v4, v6] fun v7 =>
    pr (.bin (.add) (.no)) [v2, (.int .i64 1)] fun v8 =>
    Γ 73 18 [v0, v7, v8]) (
    pr (.i2i (.i64)) [v1] fun v4 =>
    some (.tup [v4, (.bool true)]))
theorem w.code_ReadNum_18 (e : Nat → List V → Option V) (v0 v1 v2 : V) : vl e 73 18 [v0, v1, v2] = y.code_ReadNum_18 (vl e) v0 v1 v2 := val_of (by kernel_rfl)
noncomputable def y.strings_LastIndexByte (Γ : Gam) (v0 v1 : V) : Option V :=
  ca Γ 107 [v0, v1] fun v2 =>
  some v2
theorem w.strings_LastIndexByte (e : Nat → List V → Option V) (v0 v1 : V) : vl e 93 0 [v0, v1] = y.strings_LastIndexByte (vl e) v0 v1 := val_of (by kernel_rfl)
noncomputable def y.object_TreeName (Γ : Gam) (v0 : V) : Option V :=
  pr (.bsl 1) [v0] fun v1 =>
  ca Γ 25 [(.str [116, 114, 101, 101]), v1] fun v2 =>
  pr (.cat [some 32]) [v2] fun v3 =>
  some v3
theorem w.object_TreeName (e : Nat → List V → Option V) (v0 : V) : vl e 9 0 [v0] = y.object_TreeName (vl e) v0 := val_of (by kernel_rfl)
noncomputable def y.object_GoodCommit (Γ : Gam) (v0 : V) : Option V :=
  pr .scs [v0] fun v1 =>
  pr (.ld none 33) [v1] fun v2 =>
  pr (.len true) [v2] fun v3 =>
  pr (.bin (.leq) (.no)) [v3, (.int .i64 64)] fun v4 =>
  vif v4 (
    pr (.ld none 32) [v1] fun v5 =>
    pr (.len false) [v5] fun v6 =>
    pr (.bin (.leq) (.no)) [v6, (.int .i64 2)] fun v7 =>
    some v7) (
    some (.bool false))
theorem w.object_GoodCommit (e : Nat → List V → Option V) (v0 : V) : vl e 24 0 [v0] = y.object_GoodCommit (vl e) v0 := val_of (by kernel_rfl)
noncomputable def y.object_GoodTree (Γ : Gam) (v0 : V) : Option V :=
  pr (.len false) [v0] fun v1 =>
  Γ 44 8 [v0, v0, v1, (.int .i64 0)]
theorem w.object_GoodTree (e : Nat → List V → Option V) (v0 : V) : vl e 44 0 [v0] = y.object_GoodTree (vl e) v0 := val_of (by kernel_rfl)
noncomputable def y.object_GoodTree_8 (Γ : Gam) (v0 v1 v2 v3 : V) : Option V :=
  pr (.bin (.lss) (.no)) [v3, v2] fun v4 =>
  vif v4 (
    pr (.elem 34) [v1, v3] fun v5 =>
    pr (.ld (some 34) 0) [v5] fun v6 =>
    pr (.cat [some 34]) [v6] fun v7 =>
    pr (.ld none 0) [v7] fun v8 =>
    ca Γ 70 [v8] fun v9 =>
    pr (.un (.not)) [v9] fun v10 =>
    vif v10 (
      some (.bool false)) (
      pr (.ld none 0) [v7] fun v11 =>
      ca Γ 71 [v11] fun v12 =>
      pr (.bin (.neq) (.no)) [v12, (.str [])] fun v13 =>
      vif v13 (
        some (.bool false)) (
        pr (.bin (.gtr) (.no)) [v3, (.int .i64 0)] fun v14 =>
        vif v14 (
          pr (.bin (.sub) (.no)) [v3, (.int .i64 1)] fun v15 =>
          pr (.elem 34) [v0, v15] fun v16 =>
          pr (.ld none 0) [v16] fun v17 =>
          pr (.ld none 0) [v7] fun v18 =>
          pr (.bin (.geq) (.no)) [v17, v18] fun v19 =>
          vif v19 (
            some (.bool false)) (
            pr (.bin (.add) (.no)) [v3, (.int .i64 1)] fun v20 =>
            Γ 44 8 [v0, v1, v2, v20])) (
          pr (.bin (.add) (.no)) [v3, (.int .i64 1)] fun v15 =>
          Γ 44 8 [v0, v1, v2, v15])))) (
    pr (.len false) [v0] fun v5 =>
    pr (.bin (.leq) (.no)) [v5, (.int .i64 512)] fun v6 =>
    some v6)
theorem w.object_GoodTree_8 (e : Nat → List V → Option V) (v0 v1 v2 v3 : V) : vl e 44 8 [v0, v1, v2, v3] = y.object_GoodTree_8 (vl e) v0 v1 v2 v3 := val_of (by kernel_rfl)
end Go.Proofs.YtghjeddphkmciaaDoor
/-
  What functions of the program come to, over values alone. Printed by programs of this seat (wip/y/tool.lean, asm.py).
-/
namespace Go.Proofs.YtghjeddphkmciaaDoor
open Go.Abs

noncomputable def y.seicheref02_Padded (Γ : Gam) (v0 : V) : Option V :=
  pr (.bsl 1) [] fun v1 =>
  pr (.app 1) [v1, v0] fun v2 =>
  pr (.bsl 1) [(.int .u8 128)] fun v3 =>
  pr (.app 1) [v2, v3] fun v4 =>
  Γ 49 8 [v0, v4]
theorem w.seicheref02_Padded (e : Nat → List V → Option V) (v0 : V) : vl e 49 0 [v0] = y.seicheref02_Padded (vl e) v0 := val_of (by kernel_rfl)
noncomputable def y.seicheref02_Padded_8 (Γ : Gam) (v0 v1 : V) : Option V :=
  pr (.len false) [v1] fun v2 =>
  pr (.bin (.rem) (.no)) [v2, (.int .i64 64)] fun v3 =>
  pr (.bin (.neq) (.no)) [v3, (.int .i64 56)] fun v4 =>
  vif v4 (
    pr (.bsl 1) [(.int .u8 0)] fun v5 =>
    pr (.app 1) [v1, v5] fun v6 =>
    Γ 49 8 [v0, v6]) (
    pr (.len false) [v0] fun v5 =>
    Γ 49 25 [v1, v5, (.sl false 1 []), (.int .i64 0)])
theorem w.seicheref02_Padded_8 (e : Nat → List V → Option V) (v0 v1 : V) : vl e 49 8 [v0, v1] = y.seicheref02_Padded_8 (vl e) v0 v1 := val_of (by kernel_rfl)
noncomputable def y.seicheref02_Padded_25 (Γ : Gam) (v0 v1 v2 v3 : V) : Option V :=
  pr (.bin (.lss) (.no)) [v3, (.int .i64 8)] fun v4 =>
  vif v4 (
    pr (.bin (.eql) (.no)) [v3, (.int .i64 0)] fun v5 =>
    vif v5 (
      pr (.bin (.rem) (.no)) [v1, (.int .i64 32)] fun v6 =>
      pr (.bin (.mul) (.no)) [v6, (.int .i64 8)] fun v7 =>
      pr (.i2i (.u8)) [v7] fun v8 =>
      pr (.bsl 1) [v8] fun v9 =>
      pr (.app 1) [v9, v2] fun v10 =>
      pr (.bin (.quo) (.no)) [v1, (.int .i64 32)] fun v11 =>
      pr (.bin (.add) (.no)) [v3, (.int .i64 1)] fun v12 =>
      Γ 49 25 [v0, v11, v10, v12]) (
      pr (.bin (.rem) (.no)) [v1, (.int .i64 256)] fun v6 =>
      pr (.i2i (.u8)) [v6] fun v7 =>
      pr (.bsl 1) [v7] fun v8 =>
      pr (.app 1) [v8, v2] fun v9 =>
      pr (.bin (.quo) (.no)) [v1, (.int .i64 256)] fun v10 =>
      pr (.bin (.add) (.no)) [v3, (.int .i64 1)] fun v11 =>
      Γ 49 25 [v0, v10, v9, v11])) (
    pr (.app 1) [v0, v2] fun v5 =>
    some v5)
theorem w.seicheref02_Padded_25 (e : Nat → List V → Option V) (v0 v1 v2 v3 : V) : vl e 49 25 [v0, v1, v2, v3] = y.seicheref02_Padded_25 (vl e) v0 v1 v2 v3 := val_of (by kernel_rfl)
noncomputable def y.strings_Index (Γ : Gam) (v0 v1 : V) : Option V :=
  ca Γ 99 [v0, v1] fun v2 =>
  some v2
theorem w.strings_Index (e : Nat → List V → Option V) (v0 v1 : V) : vl e 79 0 [v0, v1] = y.strings_Index (vl e) v0 v1 := val_of (by kernel_rfl)
noncomputable def y.sha_word (Γ : Gam) (v0 : V) : Option V :=
  pr (.elem 1) [v0, (.int .i64 0)] fun v1 =>
  pr (.ld none 0) [v1] fun v2 =>
  pr (.i2i (.u32)) [v2] fun v3 =>
  pr (.bin (.shl) (.no)) [v3, (.int .u64 24)] fun v4 =>
  pr (.elem 1) [v0, (.int .i64 1)] fun v5 =>
  pr (.ld none 0) [v5] fun v6 =>
  pr (.i2i (.u32)) [v6] fun v7 =>
  pr (.bin (.shl) (.no)) [v7, (.int .u64 16)] fun v8 =>
  pr (.bin (.or) (.no)) [v4, v8] fun v9 =>
  pr (.elem 1) [v0, (.int .i64 2)] fun v10 =>
  pr (.ld none 0) [v10] fun v11 =>
  pr (.i2i (.u32)) [v11] fun v12 =>
  pr (.bin (.shl) (.no)) [v12, (.int .u64 8)] fun v13 =>
  pr (.bin (.or) (.no)) [v9, v13] fun v14 =>
  pr (.elem 1) [v0, (.int .i64 3)] fun v15 =>
  pr (.ld none 0) [v15] fun v16 =>
  pr (.i2i (.u32)) [v16] fun v17 =>
  pr (.bin (.or) (.no)) [v14, v17] fun v18 =>
  some v18
theorem w.sha_word (e : Nat → List V → Option V) (v0 : V) : vl e 94 0 [v0] = y.sha_word (vl e) v0 := val_of (by kernel_rfl)
noncomputable def y.internal_stringslite_Index (Γ : Gam) (v0 v1 : V) : Option V :=
  pr (.len true) [v1] fun v2 =>
  pr (.bin (.eql) (.no)) [v2, (.int .i64 0)] fun v3 =>
  vif v3 (
    Γ 99 10 [v0, v1, v2, (.bool true)]) (
    pr (.bin (.eql) (.no)) [v1, v0] fun v4 =>
    Γ 99 10 [v0, v1, v2, v4])
theorem w.internal_stringslite_Index (e : Nat → List V → Option V) (v0 v1 : V) : vl e 99 0 [v0, v1] = y.internal_stringslite_Index (vl e) v0 v1 := val_of (by kernel_rfl)
noncomputable def y.internal_stringslite_Index_10 (Γ : Gam) (v0 v1 v2 v3 : V) : Option V :=
  vif v3 (
    some (.int .i64 0)) (
    pr (.bin (.eql) (.no)) [v2, (.int .i64 1)] fun v4 =>
    vif v4 (
      pr .idx [v1, (.int .i64 0)] fun v5 =>
      ca Γ 109 [v0, v5] fun v6 =>
      some v6) (
      pr (.len true) [v0] fun v5 =>
      pr (.bin (.geq) (.no)) [v2, v5] fun v6 =>
      vif v6 (
        some (.int .i64 (-1))) (
none)))
theorem w.internal_stringslite_Index_10 (e : Nat → List V → Option V) (v0 v1 v2 v3 : V) : vl e 99 10 [v0, v1, v2, v3] = y.internal_stringslite_Index_10 (vl e) v0 v1 v2 v3 := val_of (by kernel_rfl)
noncomputable def y.internal_stringslite_IndexByte (Γ : Gam) (v0 v1 : V) : Option V :=
  ca Γ 116 [v0, v1] fun v2 =>
  some v2
theorem w.internal_stringslite_IndexByte (e : Nat → List V → Option V) (v0 v1 : V) : vl e 109 0 [v0, v1] = y.internal_stringslite_IndexByte (vl e) v0 v1 := val_of (by kernel_rfl)
noncomputable def y.seichelaw07_ObjectNames (Γ : Gam) (v0 v1 : V) : Option V :=
  ca Γ 7 [] fun v2 =>
  pr (.un (.not)) [v2] fun v3 =>
  vif v3 (
    some (.bool false)) (
    pr (.len true) [v0] fun v4 =>
    pr (.len true) [v1] fun v5 =>
    pr (.bin (.add) (.no)) [v4, v5] fun v6 =>
    pr (.bin (.gtr) (.no)) [v6, (.int .i64 4096)] fun v7 =>
    vif v7 (
      some (.bool true)) (
      ca Γ 8 [v0] fun v8 =>
      ca Γ 9 [v0] fun v9 =>
      ca Γ 10 [v0] fun v10 =>
      pr (.cat [some 32]) [v8] fun v11 =>
      pr (.cat [some 32]) [v9] fun v12 =>
      pr (.cat [some 32]) [v10] fun v13 =>
      ca Γ 11 [(.str [98, 108, 111, 98]), v0] fun v14 =>
      pr (.bin   (.neq)   (.flat     [(some (.u8), true),      (some (.u8), true),      (some (.u8), true),      (some (.u8), true),      (some (.u8), true),      (some (.u8), true),      (some (.u8), true),      (some (.u8), true),      (some (.u8), true),      (some (.u8), true),      (some (.u8), true),      (some (.u8), true),      (some (.u8), true),      (some (.u8), true),      (some (.u8), true),      (some (.u8), true),      (some (.u8), true),      (some (.u8), true),      (some (.u8), true),      (some (.u8), true),      (some (.u8), true),      (some (.u8), true),      (some (.u8), true),      (some (.u8), true),      (some (.u8), true),      (some (.u8), true),      (some (.u8), true),      (some (.u8), true),      (some (.u8), true),      (some (.u8), true),      (some (.u8), true),      (some (.u8), true)])) [v11, v14] fun v15 =>
      vif v15 (
        Γ 3 25 [v0, v1, (.bool true), v11, v12, v13]) (
        ca Γ 11 [(.str [116, 114, 101, 101]), v0] fun v16 =>
        pr (.bin   (.neq)   (.flat     [(some (.u8), true),      (some (.u8), true),      (some (.u8), true),      (some (.u8), true),      (some (.u8), true),      (some (.u8), true),      (some (.u8), true),      (some (.u8), true),      (some (.u8), true),      (some (.u8), true),      (some (.u8), true),      (some (.u8), true),      (some (.u8), true),      (some (.u8), true),      (some (.u8), true),      (some (.u8), true),      (some (.u8), true),      (some (.u8), true),      (some (.u8), true),      (some (.u8), true),      (some (.u8), true),      (some (.u8), true),      (some (.u8), true),      (some (.u8), true),      (some (.u8), true),      (some (.u8), true),      (some (.u8), true),      (some (.u8), true),      (some (.u8), true),      (some (.u8), true),      (some (.u8), true),      (some (.u8), true)])) [v12, v16] fun v17 =>
        vif v17 (
          Γ 3 25 [v0, v1, (.bool true), v11, v12, v13]) (
          ca Γ 11 [(.str [99, 111, 109, 109, 105, 116]), v0] fun v18 =>
          pr (.bin   (.neq)   (.flat     [(some (.u8), true),      (some (.u8), true),      (some (.u8), true),      (some (.u8), true),      (some (.u8), true),      (some (.u8), true),      (some (.u8), true),      (some (.u8), true),      (some (.u8), true),      (some (.u8), true),      (some (.u8), true),      (some (.u8), true),      (some (.u8), true),      (some (.u8), true),      (some (.u8), true),      (some (.u8), true),      (some (.u8), true),      (some (.u8), true),      (some (.u8), true),      (some (.u8), true),      (some (.u8), true),      (some (.u8), true),      (some (.u8), true),      (some (.u8), true),      (some (.u8), true),      (some (.u8), true),      (some (.u8), true),      (some (.u8), true),      (some (.u8), true),      (some (.u8), true),      (some (.u8), true),      (some (.u8), true)])) [v13, v18] fun v19 =>
          Γ 3 25 [v0, v1, v19, v11, v12, v13]))))
theorem w.seichelaw07_ObjectNames (e : Nat → List V → Option V) (v0 v1 : V) : vl e 3 0 [v0, v1] = y.seichelaw07_ObjectNames (vl e) v0 v1 := val_of (by kernel_rfl)
noncomputable def y.seichelaw07_ObjectNames_25 (Γ : Gam) (v0 v1 v2 v3 v4 v5 : V) : Option V :=
  vif v2 (
    some (.bool false)) (
    pr (.cat [none, none]) [v0, v1] fun v6 =>
    Γ 3 36 [v0, v1, (.sl false 32 []), v6, (.int .i64 0), v3, v4, v5])
theorem w.seichelaw07_ObjectNames_25 (e : Nat → List V → Option V) (v0 v1 v2 v3 v4 v5 : V) : vl e 3 25 [v0, v1, v2, v3, v4, v5] = y.seichelaw07_ObjectNames_25 (vl e) v0 v1 v2 v3 v4 v5 := val_of (by kernel_rfl)
noncomputable def y.seichelaw07_ObjectNames_36 (Γ : Gam) (v0 v1 v2 v3 v4 v5 v6 v7 : V) : Option V :=
  pr (.bin (.lss) (.no)) [v4, (.int .i64 2)] fun v8 =>
  vif v8 (
    pr (.idxa 2 1 none) [v3, v4] fun v9 =>
    pr (.cat [none, none, none]) [(.str [98, 108, 111, 98]), (.str [116, 114, 101, 101]), (.str [99, 111, 109, 109, 105, 116])] fun v10 =>
    Γ 3 50 [v0, v1, v2, v9, v3, v4, v10, (.int .i64 0), v5, v6, v7]) (
    ca Γ 8 [v1] fun v9 =>
    pr (.bin   (.eql)   (.flat     [(some (.u8), true),      (some (.u8), true),      (some (.u8), true),      (some (.u8), true),      (some (.u8), true),      (some (.u8), true),      (some (.u8), true),      (some (.u8), true),      (some (.u8), true),      (some (.u8), true),      (some (.u8), true),      (some (.u8), true),      (some (.u8), true),      (some (.u8), true),      (some (.u8), true),      (some (.u8), true),      (some (.u8), true),      (some (.u8), true),      (some (.u8), true),      (some (.u8), true),      (some (.u8), true),      (some (.u8), true),      (some (.u8), true),      (some (.u8), true),      (some (.u8), true),      (some (.u8), true),      (some (.u8), true),      (some (.u8), true),      (some (.u8), true),      (some (.u8), true),      (some (.u8), true),      (some (.u8), true)])) [v5, v9] fun v10 =>
    pr (.bin (.eql) (.no)) [v0, v1] fun v11 =>
    pr (.bin (.eql) (.bool)) [v10, v11] fun v12 =>
    vif v12 (
      ca Γ 9 [v1] fun v13 =>
      pr (.bin   (.eql)   (.flat     [(some (.u8), true),      (some (.u8), true),      (some (.u8), true),      (some (.u8), true),      (some (.u8), true),      (some (.u8), true),      (some (.u8), true),      (some (.u8), true),      (some (.u8), true),      (some (.u8), true),      (some (.u8), true),      (some (.u8), true),      (some (.u8), true),      (some (.u8), true),      (some (.u8), true),      (some (.u8), true),      (some (.u8), true),      (some (.u8), true),      (some (.u8), true),      (some (.u8), true),      (some (.u8), true),      (some (.u8), true),      (some (.u8), true),      (some (.u8), true),      (some (.u8), true),      (some (.u8), true),      (some (.u8), true),      (some (.u8), true),      (some (.u8), true),      (some (.u8), true),      (some (.u8), true),      (some (.u8), true)])) [v6, v13] fun v14 =>
      pr (.bin (.eql) (.no)) [v0, v1] fun v15 =>
      pr (.bin (.eql) (.bool)) [v14, v15] fun v16 =>
      vif v16 (
        ca Γ 10 [v1] fun v17 =>
        pr (.bin   (.eql)   (.flat     [(some (.u8), true),      (some (.u8), true),      (some (.u8), true),      (some (.u8), true),      (some (.u8), true),      (some (.u8), true),      (some (.u8), true),      (some (.u8), true),      (some (.u8), true),      (some (.u8), true),      (some (.u8), true),      (some (.u8), true),      (some (.u8), true),      (some (.u8), true),      (some (.u8), true),      (some (.u8), true),      (some (.u8), true),      (some (.u8), true),      (some (.u8), true),      (some (.u8), true),      (some (.u8), true),      (some (.u8), true),      (some (.u8), true),      (some (.u8), true),      (some (.u8), true),      (some (.u8), true),      (some (.u8), true),      (some (.u8), true),      (some (.u8), true),      (some (.u8), true),      (some (.u8), true),      (some (.u8), true)])) [v7, v17] fun v18 =>
        pr (.bin (.eql) (.no)) [v0, v1] fun v19 =>
        pr (.bin (.eql) (.bool)) [v18, v19] fun v20 =>
        vif v20 (
          ca Γ 9 [v1] fun v21 =>
          pr (.bin   (.neq)   (.flat     [(some (.u8), true),      (some (.u8), true),      (some (.u8), true),      (some (.u8), true),      (some (.u8), true),      (some (.u8), true),      (some (.u8), true),      (some (.u8), true),      (some (.u8), true),      (some (.u8), true),      (some (.u8), true),      (some (.u8), true),      (some (.u8), true),      (some (.u8), true),      (some (.u8), true),      (some (.u8), true),      (some (.u8), true),      (some (.u8), true),      (some (.u8), true),      (some (.u8), true),      (some (.u8), true),      (some (.u8), true),      (some (.u8), true),      (some (.u8), true),      (some (.u8), true),      (some (.u8), true),      (some (.u8), true),      (some (.u8), true),      (some (.u8), true),      (some (.u8), true),      (some (.u8), true),      (some (.u8), true)])) [v5, v21] fun v22 =>
          vif v22 (
            ca Γ 10 [v1] fun v23 =>
            pr (.bin   (.neq)   (.flat     [(some (.u8), true),      (some (.u8), true),      (some (.u8), true),      (some (.u8), true),      (some (.u8), true),      (some (.u8), true),      (some (.u8), true),      (some (.u8), true),      (some (.u8), true),      (some (.u8), true),      (some (.u8), true),      (some (.u8), true),      (some (.u8), true),      (some (.u8), true),      (some (.u8), true),      (some (.u8), true),      (some (.u8), true),      (some (.u8), true),      (some (.u8), true),      (some (.u8), true),      (some (.u8), true),      (some (.u8), true),      (some (.u8), true),      (some (.u8), true),      (some (.u8), true),      (some (.u8), true),      (some (.u8), true),      (some (.u8), true),      (some (.u8), true),      (some (.u8), true),      (some (.u8), true),      (some (.u8), true)])) [v6, v23] fun v24 =>
            vif v24 (
              ca Γ 8 [v1] fun v25 =>
              pr (.bin   (.neq)   (.flat     [(some (.u8), true),      (some (.u8), true),      (some (.u8), true),      (some (.u8), true),      (some (.u8), true),      (some (.u8), true),      (some (.u8), true),      (some (.u8), true),      (some (.u8), true),      (some (.u8), true),      (some (.u8), true),      (some (.u8), true),      (some (.u8), true),      (some (.u8), true),      (some (.u8), true),      (some (.u8), true),      (some (.u8), true),      (some (.u8), true),      (some (.u8), true),      (some (.u8), true),      (some (.u8), true),      (some (.u8), true),      (some (.u8), true),      (some (.u8), true),      (some (.u8), true),      (some (.u8), true),      (some (.u8), true),      (some (.u8), true),      (some (.u8), true),      (some (.u8), true),      (some (.u8), true),      (some (.u8), true)])) [v7, v25] fun v26 =>
              some v26) (
              some (.bool false))) (
            some (.bool false))) (
          some (.bool false))) (
        some (.bool false))) (
      some (.bool false)))
theorem w.seichelaw07_ObjectNames_36 (e : Nat → List V → Option V) (v0 v1 v2 v3 v4 v5 v6 v7 : V) : vl e 3 36 [v0, v1, v2, v3, v4, v5, v6, v7] = y.seichelaw07_ObjectNames_36 (vl e) v0 v1 v2 v3 v4 v5 v6 v7 := val_of (by kernel_rfl)
noncomputable def y.seichelaw07_ObjectNames_50 (Γ : Gam) (v0 v1 v2 v3 v4 v5 v6 v7 v8 v9 v10 : V) : Option V :=
  pr (.bin (.lss) (.no)) [v7, (.int .i64 3)] fun v11 =>
  vif v11 (
    pr (.idxa 3 1 none) [v6, v7] fun v12 =>
    ca Γ 11 [v12, v3] fun v13 =>
    pr (.cat [some 32]) [v13] fun v14 =>
    pr (.len false) [v2] fun v15 =>
    Γ 3 67 [v0, v1, v2, v3, v4, v5, v6, v7, v2, v15, (.int .i64 0), v8, v9, v10, v14]) (
    pr (.bin (.add) (.no)) [v5, (.int .i64 1)] fun v12 =>
    Γ 3 36 [v0, v1, v2, v4, v12, v8, v9, v10])
theorem w.seichelaw07_ObjectNames_50 (e : Nat → List V → Option V) (v0 v1 v2 v3 v4 v5 v6 v7 v8 v9 v10 : V) : vl e 3 50 [v0, v1, v2, v3, v4, v5, v6, v7, v8, v9, v10] = y.seichelaw07_ObjectNames_50 (vl e) v0 v1 v2 v3 v4 v5 v6 v7 v8 v9 v10 := val_of (by kernel_rfl)
noncomputable def y.seichelaw07_ObjectNames_67 (Γ : Gam) (v0 v1 v2 v3 v4 v5 v6 v7 v8 v9 v10 v11 v12 v13 v14 : V) : Option V :=
  pr (.bin (.lss) (.no)) [v10, v9] fun v15 =>
  vif v15 (
    pr (.elem 32) [v8, v10] fun v16 =>
    pr (.ld (some 32) 0) [v16] fun v17 =>
    pr (.cat [some 32]) [v17] fun v18 =>
    pr (.bin   (.eql)   (.flat     [(some (.u8), true),      (some (.u8), true),      (some (.u8), true),      (some (.u8), true),      (some (.u8), true),      (some (.u8), true),      (some (.u8), true),      (some (.u8), true),      (some (.u8), true),      (some (.u8), true),      (some (.u8), true),      (some (.u8), true),      (some (.u8), true),      (some (.u8), true),      (some (.u8), true),      (some (.u8), true),      (some (.u8), true),      (some (.u8), true),      (some (.u8), true),      (some (.u8), true),      (some (.u8), true),      (some (.u8), true),      (some (.u8), true),      (some (.u8), true),      (some (.u8), true),      (some (.u8), true),      (some (.u8), true),      (some (.u8), true),      (some (.u8), true),      (some (.u8), true),      (some (.u8), true),      (some (.u8), true)])) [v18, v14] fun v19 =>
    vif v19 (
      pr (.bin (.neq) (.no)) [v0, v1] fun v20 =>
      vif v20 (
        some (.bool true)) (
        pr (.bin (.rem) (.no)) [v10, (.int .i64 3)] fun v21 =>
        pr (.len false) [v2] fun v22 =>
        pr (.bin (.rem) (.no)) [v22, (.int .i64 3)] fun v23 =>
        pr (.bin (.neq) (.no)) [v21, v23] fun v24 =>
        vif v24 (
          some (.bool true)) (
          pr (.bin (.add) (.no)) [v10, (.int .i64 1)] fun v25 =>
          Γ 3 67 [v0, v1, v2, v3, v4, v5, v6, v7, v8, v9, v25, v11, v12, v13, v14]))) (
      pr (.bin (.add) (.no)) [v10, (.int .i64 1)] fun v20 =>
      Γ 3 67 [v0, v1, v2, v3, v4, v5, v6, v7, v8, v9, v20, v11, v12, v13, v14])) (
    pr (.bsl 32) [v14] fun v16 =>
    pr (.app 32) [v2, v16] fun v17 =>
    pr (.bin (.add) (.no)) [v7, (.int .i64 1)] fun v18 =>
    Γ 3 50 [v0, v1, v17, v3, v4, v5, v6, v18, v11, v12, v13])
theorem w.seichelaw07_ObjectNames_67 (e : Nat → List V → Option V) (v0 v1 v2 v3 v4 v5 v6 v7 v8 v9 v10 v11 v12 v13 v14 : V) : vl e 3 67 [v0, v1, v2, v3, v4, v5, v6, v7, v8, v9, v10, v11, v12, v13, v14] = y.seichelaw07_ObjectNames_67 (vl e) v0 v1 v2 v3 v4 v5 v6 v7 v8 v9 v10 v11 v12 v13 v14 := val_of (by kernel_rfl)
noncomputable def y.seiche_sha_state_block_h0 (Γ : Gam) (v0 v1 : V) : Option V :=
  Γ 11184 8 [(.int .i64 0), v0, v1, (.agg (repl 64 (.int .u32 0)))]
theorem w.seiche_sha_state_block_h0 (e : Nat → List V → Option V) (v0 v1 : V) : vl e 11184 1 [v0, v1] = y.seiche_sha_state_block_h0 (vl e) v0 v1 := val_of (by kernel_rfl)
noncomputable def y.seiche_sha_state_block_h0_8 (Γ : Gam) (v0 v1 v2 v3 : V) : Option V :=
  pr (.bin (.lss) (.no)) [v0, (.int .i64 16)] fun v4 =>
  vif v4 (
    pr (.bin (.mul) (.no)) [(.int .i64 4), v0] fun v5 =>
    pr (.chk 64) [v5] fun v6 =>
    pr (.snapd 0 64) [v2, v6] fun v7 =>
    ca Γ 94 [v7] fun v8 =>
    pr .flr [v8] fun v9 =>
    pr (.chk 64) [v0] fun v10 =>
    pr (.std 1 0 1) [v3, v10, v9] fun v11 =>
    pr (.bin (.add) (.no)) [v0, (.int .i64 1)] fun v12 =>
    Γ 11184 8 [v12, v1, v2, v11]) (
    Γ 11184 25 [(.int .i64 16), v1, v2, v3])
theorem w.seiche_sha_state_block_h0_8 (e : Nat → List V → Option V) (v0 v1 v2 v3 : V) : vl e 11184 8 [v0, v1, v2, v3] = y.seiche_sha_state_block_h0_8 (vl e) v0 v1 v2 v3 := val_of (by kernel_rfl)
noncomputable def y.seiche_sha_state_block_h0_25 (Γ : Gam) (v0 v1 v2 v3 : V) : Option V :=
  pr (.bin (.lss) (.no)) [v0, (.int .i64 64)] fun v4 =>
  vif v4 (
    pr (.bin (.sub) (.no)) [v0, (.int .i64 15)] fun v5 =>
    pr (.chk 64) [v5] fun v6 =>
    pr (.ldd none 0 1) [v3, v6] fun v7 =>
    pr (.bin (.sub) (.no)) [v0, (.int .i64 2)] fun v8 =>
    pr (.chk 64) [v8] fun v9 =>
    pr (.ldd none 0 1) [v3, v9] fun v10 =>
    ca Γ 95 [v7, (.int .i64 (-7))] fun v11 =>
    ca Γ 95 [v7, (.int .i64 (-18))] fun v12 =>
    pr (.bin (.xor) (.no)) [v11, v12] fun v13 =>
    pr (.bin (.shr) (.no)) [v7, (.int .u64 3)] fun v14 =>
    pr (.bin (.xor) (.no)) [v13, v14] fun v15 =>
    ca Γ 95 [v10, (.int .i64 (-17))] fun v16 =>
    ca Γ 95 [v10, (.int .i64 (-19))] fun v17 =>
    pr (.bin (.xor) (.no)) [v16, v17] fun v18 =>
    pr (.bin (.shr) (.no)) [v10, (.int .u64 10)] fun v19 =>
    pr (.bin (.xor) (.no)) [v18, v19] fun v20 =>
    pr (.bin (.sub) (.no)) [v0, (.int .i64 16)] fun v21 =>
    pr (.chk 64) [v21] fun v22 =>
    pr (.ldd none 0 1) [v3, v22] fun v23 =>
    pr (.bin (.add) (.no)) [v23, v15] fun v24 =>
    pr (.bin (.sub) (.no)) [v0, (.int .i64 7)] fun v25 =>
    pr (.chk 64) [v25] fun v26 =>
    pr (.ldd none 0 1) [v3, v26] fun v27 =>
    pr (.bin (.add) (.no)) [v24, v27] fun v28 =>
    pr (.bin (.add) (.no)) [v28, v20] fun v29 =>
    pr (.chk 64) [v0] fun v30 =>
    pr (.std 1 0 1) [v3, v30, v29] fun v31 =>
    pr (.bin (.add) (.no)) [v0, (.int .i64 1)] fun v32 =>
    Γ 11184 25 [v32, v1, v2, v31]) (
    pr (.ld none 0) [v1] fun v5 =>
    pr (.ld none 1) [v1] fun v6 =>
    pr (.ld none 2) [v1] fun v7 =>
    pr (.ld none 3) [v1] fun v8 =>
    pr (.ld none 4) [v1] fun v9 =>
    pr (.ld none 5) [v1] fun v10 =>
    pr (.ld none 6) [v1] fun v11 =>
    pr (.ld none 7) [v1] fun v12 =>
    Γ 11184 48 [v5, v6, v7, v8, v9, v10, v11, v12, v3, (.int .i64 0), v1, v2])
theorem w.seiche_sha_state_block_h0_25 (e : Nat → List V → Option V) (v0 v1 v2 v3 : V) : vl e 11184 25 [v0, v1, v2, v3] = y.seiche_sha_state_block_h0_25 (vl e) v0 v1 v2 v3 := val_of (by kernel_rfl)
noncomputable def y.seiche_sha_state_block_h0_48 (Γ : Gam) (v0 v1 v2 v3 v4 v5 v6 v7 v8 v9 v10 v11 : V) : Option V :=
  pr (.bin (.lss) (.no)) [v9, (.int .i64 64)] fun v12 =>
  vif v12 (
    pr (.idxa 64 1 none) [v8, v9] fun v13 =>
    ca Γ 95 [v4, (.int .i64 (-6))] fun v14 =>
    ca Γ 95 [v4, (.int .i64 (-11))] fun v15 =>
    pr (.bin (.xor) (.no)) [v14, v15] fun v16 =>
    ca Γ 95 [v4, (.int .i64 (-25))] fun v17 =>
    pr (.bin (.xor) (.no)) [v16, v17] fun v18 =>
    pr (.bin (.add) (.no)) [v7, v18] fun v19 =>
    pr (.bin (.and) (.no)) [v4, v5] fun v20 =>
    pr (.un (.xor)) [v4] fun v21 =>
    pr (.bin (.and) (.no)) [v21, v6] fun v22 =>
    pr (.bin (.xor) (.no)) [v20, v22] fun v23 =>
    pr (.bin (.add) (.no)) [v19, v23] fun v24 =>
    pr (.chk 64) [v9] fun v25 =>
    pr (.ldd none 0 1) [(.agg (.int .u32 1116352408 :: .int .u32 1899447441 :: .int .u32 3049323471 :: .int .u32 3921009573 :: .int .u32 961987163 :: .int .u32 1508970993 :: .int .u32 2453635748 :: .int .u32 2870763221 :: .int .u32 3624381080 :: .int .u32 310598401 :: .int .u32 607225278 :: .int .u32 1426881987 :: .int .u32 1925078388 :: .int .u32 2162078206 :: .int .u32 2614888103 :: .int .u32 3248222580 :: .int .u32 3835390401 :: .int .u32 4022224774 :: .int .u32 264347078 :: .int .u32 604807628 :: .int .u32 770255983 :: .int .u32 1249150122 :: .int .u32 1555081692 :: .int .u32 1996064986 :: .int .u32 2554220882 :: .int .u32 2821834349 :: .int .u32 2952996808 :: .int .u32 3210313671 :: .int .u32 3336571891 :: .int .u32 3584528711 :: .int .u32 113926993 :: .int .u32 338241895 :: .int .u32 666307205 :: .int .u32 773529912 :: .int .u32 1294757372 :: .int .u32 1396182291 :: .int .u32 1695183700 :: .int .u32 1986661051 :: .int .u32 2177026350 :: .int .u32 2456956037 :: .int .u32 2730485921 :: .int .u32 2820302411 :: .int .u32 3259730800 :: .int .u32 3345764771 :: .int .u32 3516065817 :: .int .u32 3600352804 :: .int .u32 4094571909 :: .int .u32 275423344 :: .int .u32 430227734 :: .int .u32 506948616 :: .int .u32 659060556 :: .int .u32 883997877 :: .int .u32 958139571 :: .int .u32 1322822218 :: .int .u32 1537002063 :: .int .u32 1747873779 :: .int .u32 1955562222 :: .int .u32 2024104815 :: .int .u32 2227730452 :: .int .u32 2361852424 :: .int .u32 2428436474 :: .int .u32 2756734187 :: .int .u32 3204031479 :: .int .u32 3329325298 :: [])), v25] fun v26 =>
    pr (.bin (.add) (.no)) [v24, v26] fun v27 =>
    pr (.bin (.add) (.no)) [v27, v13] fun v28 =>
    ca Γ 95 [v0, (.int .i64 (-2))] fun v29 =>
    ca Γ 95 [v0, (.int .i64 (-13))] fun v30 =>
    pr (.bin (.xor) (.no)) [v29, v30] fun v31 =>
    ca Γ 95 [v0, (.int .i64 (-22))] fun v32 =>
    pr (.bin (.xor) (.no)) [v31, v32] fun v33 =>
    pr (.bin (.and) (.no)) [v0, v1] fun v34 =>
    pr (.bin (.and) (.no)) [v0, v2] fun v35 =>
    pr (.bin (.xor) (.no)) [v34, v35] fun v36 =>
    pr (.bin (.and) (.no)) [v1, v2] fun v37 =>
    pr (.bin (.xor) (.no)) [v36, v37] fun v38 =>
    pr (.bin (.add) (.no)) [v33, v38] fun v39 =>
    pr (.bin (.add) (.no)) [v28, v39] fun v40 =>
    pr (.bin (.add) (.no)) [v3, v28] fun v41 =>
    pr (.bin (.add) (.no)) [v9, (.int .i64 1)] fun v42 =>
    Γ 11184 48 [v40, v0, v1, v2, v41, v4, v5, v6, v8, v42, v10, v11]) (
    pr (.cat [none, none, none, none, none, none, none, none]) [v0, v1, v2, v3, v4, v5, v6, v7] fun v13 =>
    Γ 11184 72 [v13, (.int .i64 0), v10, v11])
theorem w.seiche_sha_state_block_h0_48 (e : Nat → List V → Option V) (v0 v1 v2 v3 v4 v5 v6 v7 v8 v9 v10 v11 : V) : vl e 11184 48 [v0, v1, v2, v3, v4, v5, v6, v7, v8, v9, v10, v11] = y.seiche_sha_state_block_h0_48 (vl e) v0 v1 v2 v3 v4 v5 v6 v7 v8 v9 v10 v11 := val_of (by kernel_rfl)
noncomputable def y.seiche_sha_state_block_h0_72 (Γ : Gam) (v0 v1 v2 v3 : V) : Option V :=
  pr (.bin (.lss) (.no)) [v1, (.int .i64 8)] fun v4 =>
  vif v4 (
    pr (.idxa 8 1 none) [v0, v1] fun v5 =>
    pr (.chk 8) [v1] fun v6 =>
    pr (.ldd none 0 1) [v2, v6] fun v7 =>
    pr (.bin (.add) (.no)) [v7, v5] fun v8 =>
    pr (.chk 8) [v1] fun v9 =>
    pr (.std 1 0 1) [v2, v9, v8] fun v10 =>
    pr (.bin (.add) (.no)) [v1, (.int .i64 1)] fun v11 =>
    Γ 11184 72 [v0, v11, v10, v3]) (
    some (.tup [v2, v3]))
theorem w.seiche_sha_state_block_h0_72 (e : Nat → List V → Option V) (v0 v1 v2 v3 : V) : vl e 11184 72 [v0, v1, v2, v3] = y.seiche_sha_state_block_h0_72 (vl e) v0 v1 v2 v3 := val_of (by kernel_rfl)
end Go.Proofs.YtghjeddphkmciaaDoor
/-
  What functions of the program come to: all of them. Printed by programs of this seat.
-/
/-
  B0: words for plain proofs over Y that hang on no program. Own work of this seat.
-/
namespace Go.Proofs.YtghjeddphkmciaaDoor
open Go.Abs
theorem next64 {i n : Nat} (h : i < n) (hn : n ≤ 1152921504606846976) : IntKind.i64.wrap ((i : Int) + 1) = ((i + 1 : Nat) : Int) := w64 _ (by omega)
theorem v_s2b {x : Bytes} : evp .s2b [.str x] = some (.sl false 1 (encB x)) := rfl
theorem v_ld0 {x : V} (h : x.sc = true) : evp (.ld none 0) [x] = some x := by cases x <;> first | rfl | cases h
theorem encB_get (x : Bytes) (i : Nat) : (encB x)[i]? = (x[i]?).map byteV := by simp [encB]
theorem encB_len (x : Bytes) : (encB x).length = x.length := by simp [encB]
abbrev I (n : Int) : V := .int .i64 n
abbrev strs (l : List Bytes) : V := .sl false 1 (l.map .str)
theorem v_push {l : List Bytes} {x : Bytes} (h : l.length + 1 ≤ Lim) : evp (.app 1) [strs l, .sl false 1 [.str x]] = some (strs (l ++ [x])) := by
  rw [strs, v_app (by simpa using h)]; simp
theorem v_bsl1 {x : Bytes} : evp (.bsl 1) [.str x] = some (.sl false 1 [.str x]) := rfl
theorem v_get {l : List Bytes} {i : Nat} (h : i < l.length) : evp (.elem 1) [strs l, .int .i64 i] = some (.str l[i]) := v_elem (by simp [h])
theorem v_get0 {x : Bytes} {l : List Bytes} : evp (.elem 1) [strs (x :: l), .int .i64 0] = some (.str x) := v_elem (i := 0) rfl
theorem v_lds {x : Bytes} : evp (.ld none 0) [.str x] = some (.str x) := rfl
theorem v_lenS {l : List Bytes} : evp (.len false) [strs l] = some (.int .i64 l.length) := by rw [strs, v_len, List.length_map]
theorem v_nil : V.sl false 1 [] = strs [] := rfl

theorem bind_eq {o : Option V} {v : V} {k : V → Option V} {R : Option V} (h : o = some v) (hk : k v = R) : o.bind k = R := by rw [h]; exact hk
theorem v_mul {k : IntKind} {a b : Int} : evp (.bin .mul .no) [.int k a, .int k b] = some (.int k (k.wrap (a * b))) := by simp [evp, abin, aint]
end Go.Proofs.YtghjeddphkmciaaDoor
/-
  S1: words of 32 bits: what operations on them come to. Own work of this seat.
-/
namespace Go.Proofs.YtghjeddphkmciaaDoor
open Go.Abs
set_option maxRecDepth 10000
abbrev W32 := BitVec 32
def bv (x : W32) : V := .int .u32 (x.toNat : Int)
theorem wrap32 (n : Int) : IntKind.u32.wrap n = n % 4294967296 := by simp [IntKind.wrap, IntKind.signed, IntKind.bits]
theorem wrap8 (n : Int) : IntKind.u8.wrap n = n % 256 := by simp [IntKind.wrap, IntKind.signed, IntKind.bits]
theorem wrapU64 (n : Int) : IntKind.u64.wrap n = n % 18446744073709551616 := by simp [IntKind.wrap, IntKind.signed, IntKind.bits]
theorem wrap_bv (x : W32) : IntKind.u32.wrap (x.toNat : Int) = (x.toNat : Int) := by rw [wrap32]; have := x.isLt; omega
theorem of_bv (x : W32) : BitVec.ofInt IntKind.u32.bits (x.toNat : Int) = x := by
  show BitVec.ofInt 32 (x.toNat : Int) = x
  rw [BitVec.ofInt_natCast, BitVec.ofNat_toNat, BitVec.setWidth_eq]
theorem b_add (x y : W32) : evp (.bin .add .no) [bv x, bv y] = some (bv (x + y)) := by
  show some (V.int .u32 (IntKind.u32.wrap ((x.toNat : Int) + (y.toNat : Int)))) = _
  rw [wrap32]
  unfold bv
  rw [BitVec.toNat_add]
  congr 2
theorem b_and (x y : W32) : evp (.bin .and .no) [bv x, bv y] = some (bv (x &&& y)) := by
  show some (V.int .u32 (IntKind.u32.wrap ((BitVec.ofInt IntKind.u32.bits (x.toNat : Int) &&& BitVec.ofInt IntKind.u32.bits (y.toNat : Int)).toNat : Nat))) = _
  rw [of_bv, of_bv]; exact congrArg (fun n => some (V.int .u32 n)) (wrap_bv (x &&& y))
theorem b_or (x y : W32) : evp (.bin .or .no) [bv x, bv y] = some (bv (x ||| y)) := by
  show some (V.int .u32 (IntKind.u32.wrap ((BitVec.ofInt IntKind.u32.bits (x.toNat : Int) ||| BitVec.ofInt IntKind.u32.bits (y.toNat : Int)).toNat : Nat))) = _
  rw [of_bv, of_bv]; exact congrArg (fun n => some (V.int .u32 n)) (wrap_bv (x ||| y))
theorem b_xor (x y : W32) : evp (.bin .xor .no) [bv x, bv y] = some (bv (x ^^^ y)) := by
  show some (V.int .u32 (IntKind.u32.wrap ((BitVec.ofInt IntKind.u32.bits (x.toNat : Int) ^^^ BitVec.ofInt IntKind.u32.bits (y.toNat : Int)).toNat : Nat))) = _
  rw [of_bv, of_bv]; exact congrArg (fun n => some (V.int .u32 n)) (wrap_bv (x ^^^ y))
theorem b_not (x : W32) : evp (.un .xor) [bv x] = some (bv (~~~x)) := by
  show some (V.int .u32 (IntKind.u32.wrap ((BitVec.ofInt 32 4294967295 ^^^ BitVec.ofInt 32 (x.toNat : Int)).toNat : Nat))) = _
  rw [show BitVec.ofInt 32 (x.toNat : Int) = x from of_bv x, show BitVec.ofInt 32 4294967295 = BitVec.allOnes 32 by decide, BitVec.allOnes_xor]; exact congrArg (fun n => some (V.int .u32 n)) (wrap_bv (~~~x))
theorem b_shl (x : W32) (k : Nat) (kd : IntKind) (hk : k ≤ 32) : evp (.bin .shl .no) [bv x, .int kd (k : Int)] = some (bv (x <<< k)) := by
  show (if (k : Int) < 0 then none else some (V.int .u32 (IntKind.u32.wrap ((x.toNat : Int) * 2 ^ (min (k : Int).toNat IntKind.u32.bits))))) = _
  rw [if_neg (by omega), wrap32]
  unfold bv
  rw [BitVec.toNat_shiftLeft, Nat.shiftLeft_eq]
  have : min (k : Int).toNat IntKind.u32.bits = k := by show min _ 32 = k; omega
  rw [this]
  congr 2
theorem b_shr (x : W32) (k : Nat) (kd : IntKind) (hk : k ≤ 32) : evp (.bin .shr .no) [bv x, .int kd (k : Int)] = some (bv (x >>> k)) := by
  show (if (k : Int) < 0 then none else some (V.int .u32 ((x.toNat : Int).fdiv (2 ^ (min (k : Int).toNat IntKind.u32.bits))))) = _
  have : min (k : Int).toNat IntKind.u32.bits = k := by show min _ 32 = k; omega
  rw [if_neg (by omega), this]
  unfold bv
  rw [BitVec.toNat_ushiftRight, Nat.shiftRight_eq_div_pow]
  congr 2
  rw [Int.fdiv_eq_ediv_of_nonneg _ (Int.le_of_lt (Int.pow_pos (by decide)))]
  simp
/-- a byte as a word -/
def bw (b : UInt8) : W32 := BitVec.ofNat 32 b.toNat
theorem b_wide (b : UInt8) : evp (.i2i .u32) [byteV b] = some (bv (bw b)) := by
  show some (V.int .u32 (IntKind.u32.wrap (b.toNat : Int))) = _
  rw [wrap32]
  unfold bv bw
  rw [BitVec.toNat_ofNat]
  congr 2
/-- a word's byte -/
def wb (x : W32) : UInt8 := UInt8.ofNat x.toNat
theorem b_narrow (x : W32) : evp (.i2i .u8) [bv x] = some (byteV (wb x)) := by
  show some (V.int .u8 (IntKind.u8.wrap (x.toNat : Int))) = _
  rw [wrap8]
  unfold byteV wb
  congr 2
def turnW (x : W32) (k : Nat) : W32 := (x >>> k) ||| (x <<< (32 - k))
variable {e : Nat → List V → Option V}
theorem v.turn (x : W32) (k : Nat) (hk : k ≤ 32) : vl e 75 0 [bv x, .int .u64 (k : Int)] = some (bv (turnW x k)) := by
  have e1 : IntKind.u64.wrap (32 - (k : Int)) = ((32 - k : Nat) : Int) := by rw [wrapU64]; omega
  rw [w.seicheref02_turn]; unfold y.seicheref02_turn
  simp only [yy, b_shr x k .u64 hk, e1, b_shl x (32 - k) .u64 (by omega), b_or]; rfl
theorem v.rot (x : W32) (k : Nat) (hk : k ≤ 32) (h1 : 1 ≤ k) (hw : evp (.bin .and .no) [.int .u64 (IntKind.u64.wrap (-(k : Int))), .int .u64 31] = some (.int .u64 ((32 - k : Nat) : Int))) : vl e 95 0 [bv x, .int .i64 (-(k : Int))] = some (bv (turnW x k)) := by
  have e0 : evp (.i2i .u64) [.int .i64 (-(k : Int))] = some (.int .u64 (IntKind.u64.wrap (-(k : Int)))) := rfl
  have e1 : IntKind.u64.wrap (32 - ((32 - k : Nat) : Int)) = (k : Int) := by rw [wrapU64]; omega
  rw [w.math_bits_RotateLeft32]; unfold y.math_bits_RotateLeft32
  simp only [yy, e0, hw, b_shl x (32 - k) .u64 (by omega), e1, b_shr x k .u64 hk, b_or]
  unfold turnW
  rw [BitVec.or_comm]
def threeW (x : W32) (i j k : Nat) : W32 := (turnW x i ^^^ turnW x j) ^^^ turnW x k
theorem v.three (x : W32) (i j k : Nat) (hi : i ≤ 32) (hj : j ≤ 32) (hk : k ≤ 32) : vl e 76 0 [bv x, .int .u64 (i : Int), .int .u64 (j : Int), .int .u64 (k : Int)] = some (bv (threeW x i j k)) := by
  rw [w.seicheref02_three]; unfold y.seicheref02_three
  simp only [yy, v.turn x i hi, v.turn x j hj, v.turn x k hk, b_xor]; rfl
/-! ## rows of words and bytes -/
abbrev wl (l : List W32) : V := .agg (l.map bv)
abbrev bl (l : Bytes) : V := .agg (l.map byteV)
theorem v_chk {m : Nat} {k : IntKind} {i : Int} (h0 : 0 ≤ i) (h : i < m) : evp (.chk m) [.int k i] = some (.int k i) := by
  show vChk m (.int k i) = _
  exact if_pos ⟨h0, h⟩
theorem v_ldw {l : List W32} {k : IntKind} {i : Nat} (h : i < l.length) : evp (.ldd none 0 1) [wl l, .int k (i : Int)] = some (bv l[i]) := by
  show (l.map bv)[0 + (i : Int).toNat * 1]? = _
  rw [Nat.zero_add, Nat.mul_one, Int.toNat_natCast, List.getElem?_map, List.getElem?_eq_getElem h]; rfl
theorem v_stw {l : List W32} {k : IntKind} {i : Nat} {x : W32} (h : i < l.length) : evp (.std 1 0 1) [wl l, .int k (i : Int), bv x] = some (wl (l.set i x)) := by
  show vSet 1 (0 + (i : Int).toNat * 1) (wl l) (bv x) = _
  have hc : (wl l).cells = l.map bv := rfl
  have hb : (bv x).cells = [bv x] := rfl
  unfold vSet
  rw [Nat.zero_add, Nat.mul_one, Int.toNat_natCast, hc, hb, if_pos ⟨rfl, rfl, by simp; omega⟩, wl, List.map_set, List.set_eq_take_append_cons_drop, if_pos (by simpa using h)]
  simp [setAt]
theorem v_stb8 {l : Bytes} {k : IntKind} {i : Nat} {x : UInt8} (h : i < l.length) : evp (.std 1 0 1) [bl l, .int k (i : Int), byteV x] = some (bl (l.set i x)) := by
  show vSet 1 (0 + (i : Int).toNat * 1) (bl l) (byteV x) = _
  have hc : (bl l).cells = l.map byteV := rfl
  have hb : (byteV x).cells = [byteV x] := rfl
  unfold vSet
  rw [Nat.zero_add, Nat.mul_one, Int.toNat_natCast, hc, hb, if_pos ⟨rfl, rfl, by simp; omega⟩, bl, List.map_set, List.set_eq_take_append_cons_drop, if_pos (by simpa using h)]
  simp [setAt]
end Go.Proofs.YtghjeddphkmciaaDoor
/-
  S2: one block, by the program and by the document. Own work of this seat.
-/
namespace Go.Proofs.YtghjeddphkmciaaDoor
open Go.Abs
set_option maxRecDepth 10000
variable {e : Nat → List V → Option V}
/-! ## pure -/
def wordW (b : Bytes) (i : Nat) : W32 := (((bw (b.getD i 0) <<< 24) ||| (bw (b.getD (i + 1) 0) <<< 16)) ||| (bw (b.getD (i + 2) 0) <<< 8)) ||| bw (b.getD (i + 3) 0)
def loadW (b : Bytes) : Nat → Nat → List W32 → List W32
  | 0, _, ws => ws
  | n + 1, i, ws => loadW b n (i + 1) (ws.set i (wordW b (4 * i)))
def sig0 (x : W32) : W32 := (turnW x 7 ^^^ turnW x 18) ^^^ (x >>> 3)
def sig1 (x : W32) : W32 := (turnW x 17 ^^^ turnW x 19) ^^^ (x >>> 10)
def schW : Nat → Nat → List W32 → List W32
  | 0, _, ws => ws
  | n + 1, i, ws => schW n (i + 1) (ws.set i (((ws.getD (i - 16) 0 + sig0 (ws.getD (i - 15) 0)) + ws.getD (i - 7) 0) + sig1 (ws.getD (i - 2) 0)))
def rndW (K ws : List W32) : Nat → Nat → W32 → W32 → W32 → W32 → W32 → W32 → W32 → W32 → List W32
  | 0, _, a, b, c, d, e, f, g, h => [a, b, c, d, e, f, g, h]
  | n + 1, i, a, b, c, d, e, f, g, h =>
    let p := (((h + threeW e 6 11 25) + ((e &&& f) ^^^ (~~~e &&& g))) + K.getD i 0) + ws.getD i 0
    let q := threeW a 2 13 22 + (((a &&& b) ^^^ (a &&& c)) ^^^ (b &&& c))
    rndW K ws n (i + 1) (p + q) a b c (d + p) e f g
def addW (x : List W32) : Nat → Nat → List W32 → List W32
  | 0, _, st => st
  | n + 1, i, st => addW x n (i + 1) (st.set i (st.getD i 0 + x.getD i 0))
def allW (b : Bytes) : List W32 := schW 48 16 (loadW b 16 0 (List.replicate 64 0))
def blockW (K : List W32) (st : List W32) (b : Bytes) : List W32 :=
  addW (rndW K (allW b) 64 0 (st.getD 0 0) (st.getD 1 0) (st.getD 2 0) (st.getD 3 0) (st.getD 4 0) (st.getD 5 0) (st.getD 6 0) (st.getD 7 0)) 8 0 st
theorem loadW_len (b : Bytes) : ∀ (n i : Nat) (ws : List W32), (loadW b n i ws).length = ws.length
  | 0, _, _ => rfl
  | n + 1, i, ws => by rw [loadW, loadW_len b n]; simp
theorem schW_len : ∀ (n i : Nat) (ws : List W32), (schW n i ws).length = ws.length
  | 0, _, _ => rfl
  | n + 1, i, ws => by rw [schW, schW_len n]; simp
theorem allW_len (b : Bytes) : (allW b).length = 64 := by rw [allW, schW_len, loadW_len]; simp
theorem addW_len (x : List W32) : ∀ (n i : Nat) (st : List W32), (addW x n i st).length = st.length
  | 0, _, _ => rfl
  | n + 1, i, st => by rw [addW, addW_len x n]; simp
/-! ## words of bytes -/
theorem getD_lt {α : Type} {l : List α} {d : α} {i : Nat} (h : i < l.length) : l.getD i d = l[i] := by simp [List.getD, h]
theorem v_eb {b : Bytes} {i : Nat} (h : i < b.length) : evp (.elem 1) [.sl false 1 (b.map byteV), .int .i64 (i : Int)] = some (byteV (b.getD i 0)) := v_elem (by simp [List.getD, h])
theorem v_ldy {c : UInt8} : evp (.ld none 0) [byteV c] = some (byteV c) := rfl
theorem v.word (b : Bytes) (h : 4 ≤ b.length) : vl e 94 0 [.sl false 1 (b.map byteV)] = some (bv (wordW b 0)) := by
  have h0 : evp (.elem 1) [.sl false 1 (b.map byteV), .int .i64 0] = some (byteV (b.getD 0 0)) := v_eb (i := 0) (by omega)
  have h1 : evp (.elem 1) [.sl false 1 (b.map byteV), .int .i64 1] = some (byteV (b.getD 1 0)) := v_eb (i := 1) (by omega)
  have h2 : evp (.elem 1) [.sl false 1 (b.map byteV), .int .i64 2] = some (byteV (b.getD 2 0)) := v_eb (i := 2) (by omega)
  have h3 : evp (.elem 1) [.sl false 1 (b.map byteV), .int .i64 3] = some (byteV (b.getD 3 0)) := v_eb (i := 3) (by omega)
  have s24 : ∀ x : W32, evp (.bin .shl .no) [bv x, .int .u64 24] = some (bv (x <<< 24)) := fun x => b_shl x 24 .u64 (by decide)
  have s16 : ∀ x : W32, evp (.bin .shl .no) [bv x, .int .u64 16] = some (bv (x <<< 16)) := fun x => b_shl x 16 .u64 (by decide)
  have s8 : ∀ x : W32, evp (.bin .shl .no) [bv x, .int .u64 8] = some (bv (x <<< 8)) := fun x => b_shl x 8 .u64 (by decide)
  rw [w.sha_word]; unfold y.sha_word
  simp only [yy, h0, h1, h2, h3, v_ldy, b_wide, s24, s16, s8, b_or]; rfl
theorem wordW_drop (b : Bytes) (i : Nat) : wordW (b.drop i) 0 = wordW b i := by
  unfold wordW
  simp [List.getD, List.getElem?_drop]
theorem bw_lt (c : UInt8) : (bw c).toNat < 256 := by
  unfold bw
  rw [BitVec.toNat_ofNat]
  have := c.toNat_lt
  omega
theorem or_add {x y : W32} (k : Nat) (hx : x.toNat % 2 ^ k = 0) (hy : y.toNat < 2 ^ k) : x + y = x ||| y := by
  refine BitVec.add_eq_or_of_and_eq_zero x y ?_
  apply BitVec.eq_of_toNat_eq
  rw [BitVec.toNat_and]
  obtain ⟨q, hq⟩ : ∃ q, x.toNat = 2 ^ k * q := ⟨x.toNat / 2 ^ k, by have := Nat.div_add_mod x.toNat (2 ^ k); omega⟩
  show x.toNat &&& y.toNat = 0
  rw [hq]
  apply Nat.eq_of_testBit_eq
  intro j
  rw [Nat.testBit_and, Nat.zero_testBit, Nat.testBit_two_pow_mul]
  by_cases hj : k ≤ j
  · rw [Nat.testBit_lt_two_pow (Nat.lt_of_lt_of_le hy (Nat.pow_le_pow_right (by decide) hj)), Bool.and_false]
  · rw [decide_eq_false hj]; rfl
theorem word_sum (a b c d : UInt8) : (((bw a <<< 24) + (bw b <<< 16)) + (bw c <<< 8)) + bw d = (((bw a <<< 24) ||| (bw b <<< 16)) ||| (bw c <<< 8)) ||| bw d := by
  have ha := bw_lt a; have hb := bw_lt b; have hc := bw_lt c; have hd := bw_lt d
  have e24 : (bw a <<< 24).toNat = (bw a).toNat * 16777216 := by rw [BitVec.toNat_shiftLeft, Nat.shiftLeft_eq]; exact Nat.mod_eq_of_lt (by omega)
  have e16 : (bw b <<< 16).toNat = (bw b).toNat * 65536 := by rw [BitVec.toNat_shiftLeft, Nat.shiftLeft_eq]; exact Nat.mod_eq_of_lt (by omega)
  have e8 : (bw c <<< 8).toNat = (bw c).toNat * 256 := by rw [BitVec.toNat_shiftLeft, Nat.shiftLeft_eq]; exact Nat.mod_eq_of_lt (by omega)
  have h1 : (bw a <<< 24) + (bw b <<< 16) = (bw a <<< 24) ||| (bw b <<< 16) := or_add 24 (by rw [e24]; omega) (by rw [e16]; omega)
  have t1 : ((bw a <<< 24) + (bw b <<< 16)).toNat = (bw a).toNat * 16777216 + (bw b).toNat * 65536 := by rw [BitVec.toNat_add, e24, e16]; omega
  have h2 : ((bw a <<< 24) + (bw b <<< 16)) + (bw c <<< 8) = ((bw a <<< 24) + (bw b <<< 16)) ||| (bw c <<< 8) := or_add 16 (by rw [t1]; omega) (by rw [e8]; omega)
  have t2 : (((bw a <<< 24) + (bw b <<< 16)) + (bw c <<< 8)).toNat = (bw a).toNat * 16777216 + (bw b).toNat * 65536 + (bw c).toNat * 256 := by rw [BitVec.toNat_add, t1, e8]; omega
  have h3 : (((bw a <<< 24) + (bw b <<< 16)) + (bw c <<< 8)) + bw d = (((bw a <<< 24) + (bw b <<< 16)) + (bw c <<< 8)) ||| bw d := or_add 8 (by rw [t2]; omega) (by omega)
  rw [h3, h2, h1]
/-! ## the sixteen words that a block has -/
theorem v_snapd {b : Bytes} (hb : b.length = 64) {i : Nat} (hi : i < 64) : evp (.snapd 0 64) [bl b, .int .i64 (i : Int)] = some (.sl false 1 ((b.drop i).map byteV)) := by
  refine (if_pos (show 0 ≤ (i : Int) ∧ (i : Int) < (64 : Nat) ∧ 0 + 64 ≤ (bl b).cells.length from ⟨by omega, by omega, by show _ ≤ (b.map byteV).length; simp; omega⟩)).trans ?_
  show some (V.sl false 1 (((b.map byteV).drop (0 + (i : Int).toNat)).take (64 - (i : Int).toNat))) = _
  rw [Nat.zero_add, Int.toNat_natCast, List.map_drop, List.take_of_length_le (by simp; omega)]
theorem v_flr {x : W32} : evp .flr [bv x] = some (bv x) := rfl
theorem mul4 {i : Nat} (h : i < 64) : IntKind.i64.wrap (4 * (i : Int)) = ((4 * i : Nat) : Int) := by rw [w64 _ (by omega)]; omega
theorem v.load (st : V) (b : Bytes) (hb : b.length = 64) : ∀ (n i : Nat) (ws : List W32), i + n = 16 → ws.length = 64 →
    vl e 11184 8 [I i, st, bl b, wl ws] = vl e 11184 25 [I 16, st, bl b, wl (loadW b n i ws)]
  | 0, i, ws, hi, hw => by
    rw [w.seiche_sha_state_block_h0_8]; unfold y.seiche_sha_state_block_h0_8
    simp only [yy, if_neg (show ¬ ((i : Int) < 16) by omega)]; rfl
  | n + 1, i, ws, hi, hw => by
    have hd := v.word (e := e) (b.drop (4 * i)) (by simp; omega)
    rw [wordW_drop] at hd
    rw [w.seiche_sha_state_block_h0_8]; unfold y.seiche_sha_state_block_h0_8
    simp only [yy, if_pos (show (i : Int) < 16 by omega), v_mul, mul4 (show i < 64 by omega), v_chk (m := 64) (k := .i64) (i := ((4 * i : Nat) : Int)) (by omega) (by omega), v_snapd hb (show 4 * i < 64 by omega), hd, v_flr, v_chk (m := 64) (k := .i64) (i := (i : Int)) (by omega) (by omega), v_stw (show i < ws.length by omega), next64 (show i < 64 by omega) (by decide)]
    exact v.load st b hb n (i + 1) _ (by omega) (by simpa using hw)
theorem v.nload (st K z : V) (b : Bytes) (hb : b.length = 64) : ∀ (n i : Nat) (ws : List W32), i + n = 16 → ws.length = 64 →
    vl e 51 10 [.sl false 1 (b.map byteV), I i, st, K, z, wl ws] = vl e 51 25 [I 16, st, K, z, wl (loadW b n i ws)]
  | 0, i, ws, hi, hw => by
    rw [w.seicheref02_Next_10]; unfold y.seicheref02_Next_10
    simp only [yy, if_neg (show ¬ ((i : Int) < 16) by omega)]; rfl
  | n + 1, i, ws, hi, hw => by
    have s24 : ∀ x : W32, evp (.bin .shl .no) [bv x, .int .u64 24] = some (bv (x <<< 24)) := fun x => b_shl x 24 .u64 (by decide)
    have s16 : ∀ x : W32, evp (.bin .shl .no) [bv x, .int .u64 16] = some (bv (x <<< 16)) := fun x => b_shl x 16 .u64 (by decide)
    have s8 : ∀ x : W32, evp (.bin .shl .no) [bv x, .int .u64 8] = some (bv (x <<< 8)) := fun x => b_shl x 8 .u64 (by decide)
    have e1 : IntKind.i64.wrap (((4 * i : Nat) : Int) + 1) = ((4 * i + 1 : Nat) : Int) := by rw [w64 _ (by omega)]; omega
    have e2 : IntKind.i64.wrap (((4 * i : Nat) : Int) + 2) = ((4 * i + 2 : Nat) : Int) := by rw [w64 _ (by omega)]; omega
    have e3 : IntKind.i64.wrap (((4 * i : Nat) : Int) + 3) = ((4 * i + 3 : Nat) : Int) := by rw [w64 _ (by omega)]; omega
    rw [w.seicheref02_Next_10]; unfold y.seicheref02_Next_10
    simp only [yy, if_pos (show (i : Int) < 16 by omega), v_mul, mul4 (show i < 64 by omega), e1, e2, e3, v_eb (show 4 * i < b.length by omega), v_eb (show 4 * i + 1 < b.length by omega), v_eb (show 4 * i + 2 < b.length by omega), v_eb (show 4 * i + 3 < b.length by omega), v_ldy, b_wide, s24, s16, s8, b_add, word_sum,
      v_chk (m := 64) (k := .i64) (i := (i : Int)) (by omega) (by omega), v_stw (show i < ws.length by omega), next64 (show i < 64 by omega) (by decide)]
    exact v.nload st K z b hb n (i + 1) _ (by omega) (by simpa using hw)
/-! ## the others -/
theorem v_ldg {l : List W32} {i j : Nat} {x : Int} (hj : IntKind.i64.wrap x = (j : Int)) (h : j < 64) (hl : l.length = 64) : evp (.chk 64) [.int .i64 (IntKind.i64.wrap x)] = some (.int .i64 (j : Int)) ∧ evp (.ldd none 0 1) [wl l, .int .i64 (j : Int)] = some (bv (l.getD j 0)) := by
  rw [hj]
  exact ⟨v_chk (by omega) (by omega), by rw [v_ldw (by omega), getD_lt (by omega)]⟩
theorem sub64 {i k : Nat} (h : k ≤ i) (hi : i < 1000) : IntKind.i64.wrap ((i : Int) - (k : Int)) = ((i - k : Nat) : Int) := by rw [w64 _ (by omega)]; omega
theorem v.sched (a0 a1 a2 a3 a4 a5 a6 a7 : W32) (b : V) : ∀ (n i : Nat) (ws : List W32), i + n = 64 → 16 ≤ i → ws.length = 64 →
    vl e 11184 25 [I i, wl [a0, a1, a2, a3, a4, a5, a6, a7], b, wl ws] = vl e 11184 48 [bv a0, bv a1, bv a2, bv a3, bv a4, bv a5, bv a6, bv a7, wl (schW n i ws), I 0, wl [a0, a1, a2, a3, a4, a5, a6, a7], b]
  | 0, i, ws, hi, _, hw => by
    have l : ∀ k x, ([a0, a1, a2, a3, a4, a5, a6, a7].map bv)[k]? = some x → evp (.ld none k) [wl [a0, a1, a2, a3, a4, a5, a6, a7]] = some x := fun k x h => h
    rw [w.seiche_sha_state_block_h0_25]; unfold y.seiche_sha_state_block_h0_25
    simp only [yy, if_neg (show ¬ ((i : Int) < 64) by omega), l 0 _ rfl, l 1 _ rfl, l 2 _ rfl, l 3 _ rfl, l 4 _ rfl, l 5 _ rfl, l 6 _ rfl, l 7 _ rfl]; rfl
  | n + 1, i, ws, hi, h16, hw => by
    obtain ⟨c15, l15⟩ := v_ldg (l := ws) (i := i) (j := i - 15) (x := (i : Int) - 15) (sub64 (k := 15) (by omega) (by omega)) (by omega) hw
    obtain ⟨c2, l2⟩ := v_ldg (l := ws) (i := i) (j := i - 2) (x := (i : Int) - 2) (sub64 (k := 2) (by omega) (by omega)) (by omega) hw
    obtain ⟨c16, l16⟩ := v_ldg (l := ws) (i := i) (j := i - 16) (x := (i : Int) - 16) (sub64 (k := 16) (by omega) (by omega)) (by omega) hw
    obtain ⟨c7, l7⟩ := v_ldg (l := ws) (i := i) (j := i - 7) (x := (i : Int) - 7) (sub64 (k := 7) (by omega) (by omega)) (by omega) hw
    have r7 : ∀ x : W32, vl e 95 0 [bv x, .int .i64 (-7)] = some (bv (turnW x 7)) := fun x => v.rot x 7 (by decide) (by decide) rfl
    have r18 : ∀ x : W32, vl e 95 0 [bv x, .int .i64 (-18)] = some (bv (turnW x 18)) := fun x => v.rot x 18 (by decide) (by decide) rfl
    have r17 : ∀ x : W32, vl e 95 0 [bv x, .int .i64 (-17)] = some (bv (turnW x 17)) := fun x => v.rot x 17 (by decide) (by decide) rfl
    have r19 : ∀ x : W32, vl e 95 0 [bv x, .int .i64 (-19)] = some (bv (turnW x 19)) := fun x => v.rot x 19 (by decide) (by decide) rfl
    have s3 : ∀ x : W32, evp (.bin .shr .no) [bv x, .int .u64 3] = some (bv (x >>> 3)) := fun x => b_shr x 3 .u64 (by decide)
    have s10 : ∀ x : W32, evp (.bin .shr .no) [bv x, .int .u64 10] = some (bv (x >>> 10)) := fun x => b_shr x 10 .u64 (by decide)
    rw [w.seiche_sha_state_block_h0_25]; unfold y.seiche_sha_state_block_h0_25
    simp only [yy, if_pos (show (i : Int) < 64 by omega), c15, l15, c2, l2, c16, l16, c7, l7, r7, r18, r17, r19, s3, s10, b_xor, b_add, v_chk (m := 64) (k := .i64) (i := (i : Int)) (by omega) (by omega), v_stw (show i < ws.length by omega), next64 (show i < 64 by omega) (by decide)]
    exact v.sched a0 a1 a2 a3 a4 a5 a6 a7 b n (i + 1) _ (by omega) (by omega) (by simpa using hw)
theorem v.nsched (a0 a1 a2 a3 a4 a5 a6 a7 : W32) (K z : V) : ∀ (n i : Nat) (ws : List W32), i + n = 64 → 16 ≤ i → ws.length = 64 →
    vl e 51 25 [I i, wl [a0, a1, a2, a3, a4, a5, a6, a7], K, z, wl ws] = vl e 51 48 [bv a0, bv a1, bv a2, bv a3, bv a4, bv a5, bv a6, bv a7, I 0, wl [a0, a1, a2, a3, a4, a5, a6, a7], K, z, wl (schW n i ws)]
  | 0, i, ws, hi, _, hw => by
    have l : ∀ k x, ([a0, a1, a2, a3, a4, a5, a6, a7].map bv)[k]? = some x → evp (.ld none k) [wl [a0, a1, a2, a3, a4, a5, a6, a7]] = some x := fun k x h => h
    rw [w.seicheref02_Next_25]; unfold y.seicheref02_Next_25
    simp only [yy, if_neg (show ¬ ((i : Int) < 64) by omega), l 0 _ rfl, l 1 _ rfl, l 2 _ rfl, l 3 _ rfl, l 4 _ rfl, l 5 _ rfl, l 6 _ rfl, l 7 _ rfl]; rfl
  | n + 1, i, ws, hi, h16, hw => by
    obtain ⟨c15, l15⟩ := v_ldg (l := ws) (i := i) (j := i - 15) (x := (i : Int) - 15) (sub64 (k := 15) (by omega) (by omega)) (by omega) hw
    obtain ⟨c2, l2⟩ := v_ldg (l := ws) (i := i) (j := i - 2) (x := (i : Int) - 2) (sub64 (k := 2) (by omega) (by omega)) (by omega) hw
    obtain ⟨c16, l16⟩ := v_ldg (l := ws) (i := i) (j := i - 16) (x := (i : Int) - 16) (sub64 (k := 16) (by omega) (by omega)) (by omega) hw
    obtain ⟨c7, l7⟩ := v_ldg (l := ws) (i := i) (j := i - 7) (x := (i : Int) - 7) (sub64 (k := 7) (by omega) (by omega)) (by omega) hw
    have r7 : ∀ x : W32, vl e 75 0 [bv x, .int .u64 7] = some (bv (turnW x 7)) := fun x => v.turn x 7 (by decide)
    have r18 : ∀ x : W32, vl e 75 0 [bv x, .int .u64 18] = some (bv (turnW x 18)) := fun x => v.turn x 18 (by decide)
    have r17 : ∀ x : W32, vl e 75 0 [bv x, .int .u64 17] = some (bv (turnW x 17)) := fun x => v.turn x 17 (by decide)
    have r19 : ∀ x : W32, vl e 75 0 [bv x, .int .u64 19] = some (bv (turnW x 19)) := fun x => v.turn x 19 (by decide)
    have s3 : ∀ x : W32, evp (.bin .shr .no) [bv x, .int .u64 3] = some (bv (x >>> 3)) := fun x => b_shr x 3 .u64 (by decide)
    have s10 : ∀ x : W32, evp (.bin .shr .no) [bv x, .int .u64 10] = some (bv (x >>> 10)) := fun x => b_shr x 10 .u64 (by decide)
    rw [w.seicheref02_Next_25]; unfold y.seicheref02_Next_25
    simp only [yy, if_pos (show (i : Int) < 64 by omega), c15, l15, c2, l2, c16, l16, c7, l7, r7, r18, r17, r19, s3, s10, b_xor, b_add, v_chk (m := 64) (k := .i64) (i := (i : Int)) (by omega) (by omega), v_stw (show i < ws.length by omega), next64 (show i < 64 by omega) (by decide)]
    exact v.nsched a0 a1 a2 a3 a4 a5 a6 a7 K z n (i + 1) _ (by omega) (by omega) (by simpa using hw)
end Go.Proofs.YtghjeddphkmciaaDoor
/-
  S3: one block: the rounds. Own work of this seat.
-/
namespace Go.Proofs.YtghjeddphkmciaaDoor
open Go.Abs
set_option maxRecDepth 10000
variable {e : Nat → List V → Option V}
def KT : List W32 := [1116352408, 1899447441, 3049323471, 3921009573, 961987163, 1508970993, 2453635748, 2870763221, 3624381080, 310598401, 607225278, 1426881987, 1925078388, 2162078206, 2614888103, 3248222580, 3835390401, 4022224774, 264347078, 604807628, 770255983, 1249150122, 1555081692, 1996064986, 2554220882, 2821834349, 2952996808, 3210313671, 3336571891, 3584528711, 113926993, 338241895, 666307205, 773529912, 1294757372, 1396182291, 1695183700, 1986661051, 2177026350, 2456956037, 2730485921, 2820302411, 3259730800, 3345764771, 3516065817, 3600352804, 4094571909, 275423344, 430227734, 506948616, 659060556, 883997877, 958139571, 1322822218, 1537002063, 1747873779, 1955562222, 2024104815, 2227730452, 2361852424, 2428436474, 2756734187, 3204031479, 3329325298]
theorem tb_kt : tb0 = KT.map bv := rfl
theorem kt_len : KT.length = 64 := rfl
theorem v_ldk {k : IntKind} {i : Nat} (h : i < 64) : evp (.ldd none 0 1) [.agg tb0, .int k (i : Int)] = some (bv (KT.getD i 0)) := by
  rw [tb_kt, getD_lt (by rw [kt_len]; exact h)]; exact v_ldw (by rw [kt_len]; exact h)
theorem v_idxw {m : Nat} {l : List W32} {i : Nat} (h : i < l.length) (hm : i < m) : evp (.idxa m 1 none) [wl l, .int .i64 (i : Int)] = some (bv (l.getD i 0)) := by
  show (if 0 ≤ (i : Int) ∧ (i : Int) < (m : Int) then (l.map bv)[(i : Int).toNat * 1]? else none) = _
  rw [if_pos ⟨by omega, by omega⟩, Nat.mul_one, Int.toNat_natCast, List.getElem?_map, List.getElem?_eq_getElem h, getD_lt h]; rfl
theorem v.rounds (st b : V) (ws : List W32) (hw : ws.length = 64) : ∀ (n i : Nat) (a b1 c d e1 f g h : W32), i + n = 64 →
    vl e 11184 48 [bv a, bv b1, bv c, bv d, bv e1, bv f, bv g, bv h, wl ws, I i, st, b] = vl e 11184 72 [wl (rndW KT ws n i a b1 c d e1 f g h), I 0, st, b]
  | 0, i, a, b1, c, d, e1, f, g, h, hi => by
    have hc : evp (.cat [none, none, none, none, none, none, none, none]) [bv a, bv b1, bv c, bv d, bv e1, bv f, bv g, bv h] = some (wl [a, b1, c, d, e1, f, g, h]) := rfl
    rw [w.seiche_sha_state_block_h0_48]; unfold y.seiche_sha_state_block_h0_48
    simp only [yy, if_neg (show ¬ ((i : Int) < 64) by omega), hc]; rfl
  | n + 1, i, a, b1, c, d, e1, f, g, h, hi => by
    have r (k : Nat) (hk : k ≤ 32) (h1 : 1 ≤ k) (hq : evp (.bin .and .no) [.int .u64 (IntKind.u64.wrap (-(k : Int))), .int .u64 31] = some (.int .u64 ((32 - k : Nat) : Int))) (x : W32) := v.rot (e := e) x k hk h1 hq
    have r6 : ∀ x : W32, vl e 95 0 [bv x, .int .i64 (-6)] = some (bv (turnW x 6)) := r 6 (by decide) (by decide) rfl
    have r11 : ∀ x : W32, vl e 95 0 [bv x, .int .i64 (-11)] = some (bv (turnW x 11)) := r 11 (by decide) (by decide) rfl
    have r25 : ∀ x : W32, vl e 95 0 [bv x, .int .i64 (-25)] = some (bv (turnW x 25)) := r 25 (by decide) (by decide) rfl
    have r2 : ∀ x : W32, vl e 95 0 [bv x, .int .i64 (-2)] = some (bv (turnW x 2)) := r 2 (by decide) (by decide) rfl
    have r13 : ∀ x : W32, vl e 95 0 [bv x, .int .i64 (-13)] = some (bv (turnW x 13)) := r 13 (by decide) (by decide) rfl
    have r22 : ∀ x : W32, vl e 95 0 [bv x, .int .i64 (-22)] = some (bv (turnW x 22)) := r 22 (by decide) (by decide) rfl
    rw [w.seiche_sha_state_block_h0_48]; unfold y.seiche_sha_state_block_h0_48
    simp only [yy, if_pos (show (i : Int) < 64 by omega), v_idxw (m := 64) (l := ws) (i := i) (by omega) (by omega), r6, r11, r25, b_xor, b_add, b_and, b_not, v_chk (m := 64) (k := .i64) (i := (i : Int)) (by omega) (by omega)]
    refine bind_eq (v_ldk (show i < 64 by omega)) ?_
    simp only [yy, b_add, r2, r13, r22, b_xor, b_and, next64 (show i < 64 by omega) (by decide)]
    exact v.rounds st b ws hw n (i + 1) _ _ _ _ _ _ _ _ (by omega)
theorem v.nrounds (st z : V) (ws : List W32) (hw : ws.length = 64) (a0 a1 a2 a3 a4 a5 a6 a7 : W32) : ∀ (n i : Nat) (a b1 c d e1 f g h : W32), i + n = 64 →
    vl e 51 48 [bv a, bv b1, bv c, bv d, bv e1, bv f, bv g, bv h, I i, wl [a0, a1, a2, a3, a4, a5, a6, a7], wl KT, z, wl ws] = some (wl (addW (rndW KT ws n i a b1 c d e1 f g h) 8 0 [a0, a1, a2, a3, a4, a5, a6, a7]))
  | 0, i, a, b1, c, d, e1, f, g, h, hi => by
    have l : ∀ k x, ([a0, a1, a2, a3, a4, a5, a6, a7].map bv)[k]? = some x → evp (.ld none k) [wl [a0, a1, a2, a3, a4, a5, a6, a7]] = some x := fun k x h => h
    have hc : ∀ x0 x1 x2 x3 x4 x5 x6 x7 : W32, evp (.cat [none, none, none, none, none, none, none, none]) [bv x0, bv x1, bv x2, bv x3, bv x4, bv x5, bv x6, bv x7] = some (wl [x0, x1, x2, x3, x4, x5, x6, x7]) := fun _ _ _ _ _ _ _ _ => rfl
    rw [w.seicheref02_Next_48]; unfold y.seicheref02_Next_48
    simp only [yy, if_neg (show ¬ ((i : Int) < 64) by omega), l 0 _ rfl, l 1 _ rfl, l 2 _ rfl, l 3 _ rfl, l 4 _ rfl, l 5 _ rfl, l 6 _ rfl, l 7 _ rfl, b_add, hc]; rfl
  | n + 1, i, a, b1, c, d, e1, f, g, h, hi => by
    have t6 : ∀ x : W32, vl e 76 0 [bv x, .int .u64 6, .int .u64 11, .int .u64 25] = some (bv (threeW x 6 11 25)) := fun x => v.three x 6 11 25 (by decide) (by decide) (by decide)
    have t2 : ∀ x : W32, vl e 76 0 [bv x, .int .u64 2, .int .u64 13, .int .u64 22] = some (bv (threeW x 2 13 22)) := fun x => v.three x 2 13 22 (by decide) (by decide) (by decide)
    have lk : evp (.ldd none 0 1) [wl KT, .int .i64 (i : Int)] = some (bv (KT.getD i 0)) := by rw [v_ldw (by rw [kt_len]; omega), getD_lt (by rw [kt_len]; omega)]
    have lw : evp (.ldd none 0 1) [wl ws, .int .i64 (i : Int)] = some (bv (ws.getD i 0)) := by rw [v_ldw (by omega), getD_lt (by omega)]
    rw [w.seicheref02_Next_48]; unfold y.seicheref02_Next_48
    simp only [yy, if_pos (show (i : Int) < 64 by omega), t6, t2, b_xor, b_add, b_and, b_not, v_chk (m := 64) (k := .i64) (i := (i : Int)) (by omega) (by omega), lk, lw, next64 (show i < 64 by omega) (by decide)]
    exact v.nrounds st z ws hw a0 a1 a2 a3 a4 a5 a6 a7 n (i + 1) _ _ _ _ _ _ _ _ (by omega)
theorem v.addR (b : V) (x : List W32) (hx : x.length = 8) : ∀ (n i : Nat) (st : List W32), i + n = 8 → st.length = 8 →
    vl e 11184 72 [wl x, I i, wl st, b] = some (.tup [wl (addW x n i st), b])
  | 0, i, st, hi, hs => by
    rw [w.seiche_sha_state_block_h0_72]; unfold y.seiche_sha_state_block_h0_72
    simp only [yy, if_neg (show ¬ ((i : Int) < 8) by omega)]; rfl
  | n + 1, i, st, hi, hs => by
    have lw : evp (.ldd none 0 1) [wl st, .int .i64 (i : Int)] = some (bv (st.getD i 0)) := by rw [v_ldw (by omega), getD_lt (by omega)]
    rw [w.seiche_sha_state_block_h0_72]; unfold y.seiche_sha_state_block_h0_72
    simp only [yy, if_pos (show (i : Int) < 8 by omega), v_idxw (m := 8) (l := x) (i := i) (by omega) (by omega), v_chk (m := 8) (k := .i64) (i := (i : Int)) (by omega) (by omega), lw, b_add, v_stw (show i < st.length by omega), next64 (show i < 8 by omega) (by decide)]
    exact v.addR b x hx n (i + 1) _ (by omega) (by simpa using hs)
theorem rndW_len (K ws : List W32) : ∀ (n i : Nat) (a b c d e f g h : W32), (rndW K ws n i a b c d e f g h).length = 8
  | 0, _, _, _, _, _, _, _, _, _ => rfl
  | n + 1, i, a, b, c, d, e, f, g, h => rndW_len K ws n (i + 1) _ _ _ _ _ _ _ _
theorem eight {l : List W32} (h : l.length = 8) : ∃ a b c d e f g h, l = [a, b, c, d, e, f, g, h] := by
  match l, h with
  | [a, b, c, d, e, f, g, h], _ => exact ⟨a, b, c, d, e, f, g, h, rfl⟩
theorem v.block (st : List W32) (hs : st.length = 8) (b : Bytes) (hb : b.length = 64) : vl e 11184 1 [wl st, bl b] = some (.tup [wl (blockW KT st b), bl b]) := by
  obtain ⟨a0, a1, a2, a3, a4, a5, a6, a7, rfl⟩ := eight hs
  rw [w.seiche_sha_state_block_h0]; unfold y.seiche_sha_state_block_h0
  have hz : V.agg (repl 64 (.int .u32 0)) = wl (List.replicate 64 0) := rfl
  rw [hz]
  have h1 := v.load (e := e) (wl [a0, a1, a2, a3, a4, a5, a6, a7]) b hb 16 0 (List.replicate 64 0) (by decide) (by simp)
  have h2 := v.sched (e := e) a0 a1 a2 a3 a4 a5 a6 a7 (bl b) 48 16 (loadW b 16 0 (List.replicate 64 0)) (by decide) (by decide) (by rw [loadW_len]; simp)
  have h3 := v.rounds (e := e) (wl [a0, a1, a2, a3, a4, a5, a6, a7]) (bl b) (allW b) (allW_len b) 64 0 a0 a1 a2 a3 a4 a5 a6 a7 (by decide)
  have h4 := v.addR (e := e) (bl b) (rndW KT (allW b) 64 0 a0 a1 a2 a3 a4 a5 a6 a7) (rndW_len ..) 8 0 [a0, a1, a2, a3, a4, a5, a6, a7] (by decide) rfl
  exact h1.trans (h2.trans (h3.trans h4))
theorem v.Next (st : List W32) (hs : st.length = 8) (b : Bytes) (hb : b.length = 64) : vl e 51 0 [wl st, .sl false 1 (b.map byteV), wl KT] = some (wl (blockW KT st b)) := by
  obtain ⟨a0, a1, a2, a3, a4, a5, a6, a7, rfl⟩ := eight hs
  rw [w.seicheref02_Next]; unfold y.seicheref02_Next
  have hz : V.agg (repl 64 (.int .u32 0)) = wl (List.replicate 64 0) := rfl
  have hz8 : V.agg [.int .u32 0, .int .u32 0, .int .u32 0, .int .u32 0, .int .u32 0, .int .u32 0, .int .u32 0, .int .u32 0] = wl (List.replicate 8 0) := rfl
  have hsc : ∀ l : List W32, evp .scs [wl l] = some (wl l) := fun l => if_pos (by
    rw [List.all_eq_true]; intro c hc
    obtain ⟨x, _, rfl⟩ := List.mem_map.1 (show c ∈ l.map bv from hc); rfl)
  rw [hz]
  simp only [yy, hsc]
  have h1 := v.nload (e := e) (wl [a0, a1, a2, a3, a4, a5, a6, a7]) (wl KT) (wl (List.replicate 8 0)) b hb 16 0 (List.replicate 64 0) (by decide) (by simp)
  have h2 := v.nsched (e := e) a0 a1 a2 a3 a4 a5 a6 a7 (wl KT) (wl (List.replicate 8 0)) 48 16 (loadW b 16 0 (List.replicate 64 0)) (by decide) (by decide) (by rw [loadW_len]; simp)
  have h3 := v.nrounds (e := e) (wl [a0, a1, a2, a3, a4, a5, a6, a7]) (wl (List.replicate 8 0)) (allW b) (allW_len b) a0 a1 a2 a3 a4 a5 a6 a7 64 0 a0 a1 a2 a3 a4 a5 a6 a7 (by decide)
  exact h1.trans (h2.trans h3)
theorem v.Numbers : vl e 50 0 [] = some (wl KT) := by
  rw [w.seicheref02_Numbers]; rfl
end Go.Proofs.YtghjeddphkmciaaDoor
/-
  S4: a text's digest: what is filled up, and what comes out. Own work of this seat.
-/
namespace Go.Proofs.YtghjeddphkmciaaDoor
open Go.Abs
set_option maxRecDepth 10000
variable {e : Nat → List V → Option V}
abbrev bsl (l : Bytes) : V := .sl false 1 (l.map byteV)
theorem encB_map (b : Bytes) : encB b = b.map byteV := rfl
theorem fill {α : Type} {F Z : List α} {i : Nat} (hi : i < F.length) (hl : F.length = Z.length) : (F.take i ++ Z.drop i).set i F[i] = F.take (i + 1) ++ Z.drop (i + 1) := by
  have hz : Z.drop i = Z[i]'(by omega) :: Z.drop (i + 1) := List.drop_eq_getElem_cons (by omega)
  have ht : F.take (i + 1) = F.take i ++ [F[i]] := by simp
  have hlt : (F.take i).length = i := by simp; omega
  rw [ht, hz, List.set_append_right _ _ (by omega), hlt, Nat.sub_self, List.set_cons_zero, List.append_assoc]; rfl
theorem fill_len {α : Type} {F Z : List α} {i : Nat} (hi : i ≤ F.length) (hl : F.length = Z.length) : (F.take i ++ Z.drop i).length = F.length := by simp; omega
/-! ## what comes out -/
def outB (st : List W32) : Bytes := (List.range 32).map fun i => wb ((st.getD (i / 4) 0) >>> (24 - 8 * (i % 4)))
theorem outB_len (st : List W32) : (outB st).length = 32 := by simp [outB]
theorem outB_get (st : List W32) {i : Nat} (h : i < (outB st).length) : (outB st)[i] = wb ((st.getD (i / 4) 0) >>> (24 - 8 * (i % 4))) := by simp [outB]
theorem v_cat32 {o : Bytes} (h : o.length = 32) : evp (.cat [some 32]) [bl o] = some (bl o) := by
  show (catV [some 32] [bl o]).map V.agg = _
  have hc : (bl o).cells.length = 32 ∧ (bl o).cells.all V.sc = true := ⟨by show (o.map byteV).length = 32; simpa using h, by
    rw [List.all_eq_true]; intro c hc
    obtain ⟨x, _, rfl⟩ := List.mem_map.1 (show c ∈ o.map byteV from hc); rfl⟩
  show ((if (bl o).cells.length = 32 ∧ (bl o).cells.all V.sc = true then (catV [] []).map ((bl o).cells ++ ·) else none)).map V.agg = _
  rw [if_pos hc]
  show some (V.agg ((bl o).cells ++ [])) = _
  rw [List.append_nil]; rfl
theorem v_quo {k : Nat} (h0 : k ≠ 0) {n : Nat} (h : n < 4611686018427387904) : evp (.bin .quo .no) [.int .i64 (n : Int), .int .i64 (k : Int)] = some (.int .i64 ((n / k : Nat) : Int)) := by
  show (if (k : Int) = 0 then none else some (V.int .i64 (IntKind.i64.wrap ((n : Int).tdiv (k : Int))))) = _
  have := Nat.div_le_self n k
  have e1 : (n : Int).tdiv (k : Int) = ((n / k : Nat) : Int) := (Int.ofNat_tdiv n k).symm
  rw [if_neg (by omega), e1]
  generalize n / k = q at *
  rw [w64 _ (by omega)]
theorem v_rem {k : Nat} (h0 : k ≠ 0) {n : Nat} : evp (.bin .rem .no) [.int .i64 (n : Int), .int .i64 (k : Int)] = some (.int .i64 ((n % k : Nat) : Int)) := by
  show (if (k : Int) = 0 then none else some (V.int .i64 ((n : Int).tmod (k : Int)))) = _
  rw [if_neg (by omega), ← Int.ofNat_tmod]
theorem zero32 : V.agg (repl 32 (.int .u8 0)) = bl (List.replicate 32 0) := rfl
theorem v.out (z : V) (st : List W32) (hs : st.length = 8) : ∀ (n i : Nat), i + n = 32 →
    vl e 48 64 [I i, z, wl st, bl ((outB st).take i ++ (List.replicate 32 0).drop i)] = some (bl (outB st))
  | 0, i, hi => by
    have hl := outB_len st
    rw [List.take_of_length_le (by omega), List.drop_eq_nil_of_le (by simp; omega), List.append_nil]
    rw [w.sha_Of_64]; unfold y.sha_Of_64
    simp only [yy, if_neg (show ¬ ((i : Int) < 32) by omega), v_cat32 hl]
  | n + 1, i, hi => by
    have hl := outB_len st
    have hq : evp (.bin .quo .no) [.int .i64 (i : Int), .int .i64 4] = some (.int .i64 ((i / 4 : Nat) : Int)) := v_quo (k := 4) (by decide) (by omega)
    have hr : evp (.bin .rem .no) [.int .i64 (i : Int), .int .i64 4] = some (.int .i64 ((i % 4 : Nat) : Int)) := v_rem (k := 4) (by decide)
    have e1 : IntKind.i64.wrap (8 * ((i % 4 : Nat) : Int)) = ((8 * (i % 4) : Nat) : Int) := by rw [w64 _ (by omega)]; omega
    have e2 : IntKind.i64.wrap (24 - ((8 * (i % 4) : Nat) : Int)) = ((24 - 8 * (i % 4) : Nat) : Int) := by rw [w64 _ (by omega)]; omega
    have lw : evp (.ldd none 0 1) [wl st, .int .i64 ((i / 4 : Nat) : Int)] = some (bv (st.getD (i / 4) 0)) := by rw [v_ldw (by omega), getD_lt (by omega)]
    have hset : ((outB st).take i ++ (List.replicate 32 0).drop i).set i (wb ((st.getD (i / 4) 0) >>> (24 - 8 * (i % 4)))) = (outB st).take (i + 1) ++ (List.replicate 32 0).drop (i + 1) := by
      rw [← outB_get st (by omega)]; exact fill (by omega) (by simpa using hl)
    have hst := v_stb8 (k := .i64) (l := (outB st).take i ++ (List.replicate 32 0).drop i) (i := i) (x := wb ((st.getD (i / 4) 0) >>> (24 - 8 * (i % 4)))) (by rw [fill_len (by omega) (by simpa using hl)]; omega)
    rw [hset] at hst
    rw [w.sha_Of_64]; unfold y.sha_Of_64
    simp only [yy, if_pos (show (i : Int) < 32 by omega), hq, v_chk (m := 8) (k := .i64) (i := ((i / 4 : Nat) : Int)) (by omega) (by omega), lw, hr, v_mul, e1, e2, b_shr (st.getD (i / 4) 0) (24 - 8 * (i % 4)) .i64 (by omega), b_narrow, v_chk (m := 32) (k := .i64) (i := (i : Int)) (by omega) (by omega), hst, next64 (show i < 64 by omega) (by decide)]
    exact v.out z st hs n (i + 1) (by omega)
theorem v.nout45 (st : List W32) (hs : st.length = 8) (i : Nat) (hi : i < 8) : ∀ (n j : Nat), j + n = 4 →
    vl e 26 45 [I i, bv (st.getD i 0), I j, wl st, I i, V.agg (repl 32 (.int .u8 0)), bl ((outB st).take (4 * i + j) ++ (List.replicate 32 0).drop (4 * i + j))] =
      vl e 26 31 [wl st, I ((i + 1 : Nat) : Int), V.agg (repl 32 (.int .u8 0)), bl ((outB st).take (4 * (i + 1)) ++ (List.replicate 32 0).drop (4 * (i + 1)))]
  | 0, j, hj => by
    rw [w.seicheref02_Of_45]; unfold y.seicheref02_Of_45
    have : 4 * i + j = 4 * (i + 1) := by omega
    rw [this]
    simp only [yy, if_neg (show ¬ ((j : Int) < 4) by omega), next64 (show i < 64 by omega) (by decide)]
  | n + 1, j, hj => by
    have hl := outB_len st
    have e0 : IntKind.i64.wrap (4 * (i : Int)) = ((4 * i : Nat) : Int) := mul4 (by omega)
    have e1 : IntKind.i64.wrap (((4 * i : Nat) : Int) + (j : Int)) = ((4 * i + j : Nat) : Int) := by rw [w64 _ (by omega)]; omega
    have e2 : IntKind.i64.wrap (8 * (j : Int)) = ((8 * j : Nat) : Int) := by rw [w64 _ (by omega)]; omega
    have e3 : IntKind.i64.wrap (24 - ((8 * j : Nat) : Int)) = ((24 - 8 * j : Nat) : Int) := by rw [w64 _ (by omega)]; omega
    have e4 : evp (.i2i .u64) [.int .i64 ((24 - 8 * j : Nat) : Int)] = some (.int .u64 ((24 - 8 * j : Nat) : Int)) := by
      show some (V.int .u64 (IntKind.u64.wrap ((24 - 8 * j : Nat) : Int))) = _
      rw [wrapU64, Int.emod_eq_of_lt (by omega) (by omega)]
    have hd : (4 * i + j) / 4 = i ∧ (4 * i + j) % 4 = j := by omega
    have hset : ((outB st).take (4 * i + j) ++ (List.replicate 32 0).drop (4 * i + j)).set (4 * i + j) (wb ((st.getD i 0) >>> (24 - 8 * j))) = (outB st).take (4 * i + (j + 1)) ++ (List.replicate 32 0).drop (4 * i + (j + 1)) := by
      have := outB_get st (i := 4 * i + j) (by omega)
      rw [hd.1, hd.2] at this
      rw [← this]; exact fill (by omega) (by simpa using hl)
    have hst := v_stb8 (k := .i64) (l := (outB st).take (4 * i + j) ++ (List.replicate 32 0).drop (4 * i + j)) (i := 4 * i + j) (x := wb ((st.getD i 0) >>> (24 - 8 * j))) (by rw [fill_len (by omega) (by simpa using hl)]; omega)
    rw [hset] at hst
    rw [w.seicheref02_Of_45]; unfold y.seicheref02_Of_45
    simp only [yy, if_pos (show (j : Int) < 4 by omega), v_mul, e0, e1, e2, e3, e4, b_shr (st.getD i 0) (24 - 8 * j) .u64 (by omega), b_narrow, v_chk (m := 32) (k := .i64) (i := ((4 * i + j : Nat) : Int)) (by omega) (by omega), hst, next64 (show j < 64 by omega) (by decide)]
    exact v.nout45 st hs i hi n (j + 1) (by omega)
theorem v.nout (st : List W32) (hs : st.length = 8) : ∀ (n i : Nat), i + n = 8 →
    vl e 26 31 [wl st, I i, V.agg (repl 32 (.int .u8 0)), bl ((outB st).take (4 * i) ++ (List.replicate 32 0).drop (4 * i))] = some (bl (outB st))
  | 0, i, hi => by
    have hl := outB_len st
    rw [List.take_of_length_le (by omega), List.drop_eq_nil_of_le (by simp; omega), List.append_nil]
    rw [w.seicheref02_Of_31]; unfold y.seicheref02_Of_31
    simp only [yy, if_neg (show ¬ ((i : Int) < 8) by omega), v_cat32 hl]
  | n + 1, i, hi => by
    rw [w.seicheref02_Of_31]; unfold y.seicheref02_Of_31
    simp only [yy, if_pos (show (i : Int) < 8 by omega), v_idxw (m := 8) (l := st) (i := i) (by omega) (by omega)]
    exact (v.nout45 st hs i (by omega) 4 0 (by omega)).trans (v.nout st hs n (i + 1) (by omega))
/-! ## the length -/
def lenB (n : Nat) : Bytes := (List.range 8).map fun i => UInt8.ofNat (8 * n / 2 ^ (56 - 8 * i))
theorem lenB_len (n : Nat) : (lenB n).length = 8 := by simp [lenB]
theorem lenB_get (n : Nat) {i : Nat} (h : i < (lenB n).length) : (lenB n)[i] = UInt8.ofNat (8 * n / 2 ^ (56 - 8 * i)) := by simp [lenB]
theorem ofNat_byte (n : Nat) : V.int .u8 (IntKind.u8.wrap (n : Int)) = byteV (UInt8.ofNat n) := by
  rw [wrap8]; unfold byteV
  congr 1
theorem v.lens (s : Bytes) (hs : s.length ≤ 1000000000000) (o st : V) (base z : Bytes) (hb : base.length = 56) (hz : z.length = 8) : ∀ (n i : Nat), i + n = 8 →
    vl e 48 43 [.str s, I i, o, st, bl (base ++ ((lenB s.length).take i ++ z.drop i))] = vl e 48 43 [.str s, I 8, o, st, bl (base ++ lenB s.length)]
  | 0, i, hi => by
    have hl := lenB_len s.length
    obtain rfl : i = 8 := by omega
    rw [List.take_of_length_le (by omega), List.drop_eq_nil_of_le (by omega), List.append_nil]; rfl
  | n + 1, i, hi => by
    have hl := lenB_len s.length
    have e0 : IntKind.i64.wrap (56 + (i : Int)) = ((56 + i : Nat) : Int) := by rw [w64 _ (by omega)]; omega
    have e1 : IntKind.i64.wrap (8 * (i : Int)) = ((8 * i : Nat) : Int) := by rw [w64 _ (by omega)]; omega
    have e2 : IntKind.i64.wrap (56 - ((8 * i : Nat) : Int)) = ((56 - 8 * i : Nat) : Int) := by rw [w64 _ (by omega)]; omega
    have e3 : evp (.i2i .u64) [.int .i64 (s.length : Int)] = some (.int .u64 (s.length : Int)) := by
      show some (V.int .u64 (IntKind.u64.wrap (s.length : Int))) = _
      rw [wrapU64, Int.emod_eq_of_lt (by omega) (by omega)]
    have e4 : evp (.bin .shl .no) [.int .u64 (s.length : Int), .int .u64 3] = some (.int .u64 ((8 * s.length : Nat) : Int)) := by
      show some (V.int .u64 (IntKind.u64.wrap ((s.length : Int) * 2 ^ 3))) = _
      rw [wrapU64, Int.emod_eq_of_lt (by omega) (by omega)]
      congr 2; omega
    have e5 : evp (.bin .shr .no) [.int .u64 ((8 * s.length : Nat) : Int), .int .i64 ((56 - 8 * i : Nat) : Int)] = some (.int .u64 ((8 * s.length / 2 ^ (56 - 8 * i) : Nat) : Int)) := by
      show (if ((56 - 8 * i : Nat) : Int) < 0 then none else some (V.int .u64 (((8 * s.length : Nat) : Int).fdiv (2 ^ (min ((56 - 8 * i : Nat) : Int).toNat IntKind.u64.bits))))) = _
      have : min ((56 - 8 * i : Nat) : Int).toNat IntKind.u64.bits = 56 - 8 * i := by show min _ 64 = _; omega
      rw [if_neg (by omega), this, Int.fdiv_eq_ediv_of_nonneg _ (Int.le_of_lt (Int.pow_pos (by decide)))]
      simp
    have e6 : evp (.i2i .u8) [.int .u64 ((8 * s.length / 2 ^ (56 - 8 * i) : Nat) : Int)] = some (byteV (UInt8.ofNat (8 * s.length / 2 ^ (56 - 8 * i)))) := congrArg some (ofNat_byte _)
    have hset : (base ++ ((lenB s.length).take i ++ z.drop i)).set (56 + i) (UInt8.ofNat (8 * s.length / 2 ^ (56 - 8 * i))) = base ++ ((lenB s.length).take (i + 1) ++ z.drop (i + 1)) := by
      rw [List.set_append_right _ _ (by omega), show 56 + i - base.length = i by omega, ← lenB_get s.length (by omega), fill (by omega) (by omega)]
    have hst := v_stb8 (k := .i64) (l := base ++ ((lenB s.length).take i ++ z.drop i)) (i := 56 + i) (x := UInt8.ofNat (8 * s.length / 2 ^ (56 - 8 * i))) (by rw [List.length_append, fill_len (by omega) (by omega)]; omega)
    rw [hset] at hst
    rw [w.sha_Of_43]; unfold y.sha_Of_43
    simp only [yy, if_pos (show (i : Int) < 8 by omega), e0, e3, e4, v_mul, e1, e2, e5, e6, v_chk (m := 64) (k := .i64) (i := ((56 + i : Nat) : Int)) (by omega) (by omega), hst, next64 (show i < 64 by omega) (by decide)]
    exact v.lens s hs o st base z hb hz n (i + 1) (by omega)
/-- the end: a last block, and out -/
theorem v.endOf (s : Bytes) (hs : s.length ≤ 1000000000000) (o : V) (st : List W32) (h8 : st.length = 8) (base z : Bytes) (hb : base.length = 56) (hz : z.length = 8) :
    vl e 48 39 [.str s, o, wl st, bl (base ++ z)] = some (bl (outB (blockW KT st (base ++ lenB s.length)))) := by
  have h1 := v.lens (e := e) s hs o (wl st) base z hb hz 8 0 (by omega)
  rw [List.take_zero, List.drop_zero, List.nil_append] at h1
  have hl := lenB_len s.length
  have hblk := v.block (e := e) st h8 (base ++ lenB s.length) (by simp; omega)
  have h2 := v.out (e := e) o (blockW KT st (base ++ lenB s.length)) (by unfold blockW; rw [addW_len]; exact h8) 32 0 (by omega)
  rw [List.take_zero, List.drop_zero, List.nil_append] at h2
  rw [w.sha_Of_39]; unfold y.sha_Of_39
  refine h1.trans ?_
  rw [w.sha_Of_43]; unfold y.sha_Of_43
  simp only [yy, if_neg (show ¬ ((8 : Int) < 8) by omega), hblk]
  exact h2
end Go.Proofs.YtghjeddphkmciaaDoor
/-
  S5: a text's digest: the program's is the document's. Own work of this seat.
-/
namespace Go.Proofs.YtghjeddphkmciaaDoor
open Go.Abs
set_option maxRecDepth 10000
variable {e : Nat → List V → Option V}
/-! ## what is filled up -/
def padN (k : Nat) : Nat := (119 - k % 64) % 64
def padB (n : Nat) (r : Bytes) : Bytes := r ++ (128 :: (List.replicate (padN r.length) 0 ++ lenB n))
def foldC (K : List W32) : Nat → Bytes → List W32 → List W32
  | 0, _, st => st
  | m + 1, b, st => foldC K m (b.drop 64) (blockW K st (b.take 64))
theorem padB_len (n : Nat) (r : Bytes) : (padB n r).length = r.length + 9 + padN r.length := by simp [padB, lenB_len]; omega
theorem padN_spec (k : Nat) : (k + 9 + padN k) % 64 = 0 ∧ padN k < 64 := by unfold padN; omega
theorem blockW_len (K st : List W32) (b : Bytes) : (blockW K st b).length = st.length := by unfold blockW; rw [addW_len]
theorem foldC_len (K : List W32) : ∀ (m : Nat) (b : Bytes) (st : List W32), (foldC K m b st).length = st.length
  | 0, _, _ => rfl
  | m + 1, b, st => by rw [foldC, foldC_len K m, blockW_len]
def hashW (n : Nat) (r : Bytes) (st : List W32) : List W32 := foldC KT ((r.length + 9 + padN r.length) / 64) (padB n r) st
theorem hash_step {n : Nat} {r : Bytes} (h : 64 ≤ r.length) (st : List W32) : hashW n r st = hashW n (r.drop 64) (blockW KT st (r.take 64)) := by
  have hp : padN (r.length - 64) = padN r.length := by unfold padN; omega
  have hm : (r.length + 9 + padN r.length) / 64 = (r.length - 64 + 9 + padN r.length) / 64 + 1 := by omega
  unfold hashW
  rw [List.length_drop, hp, hm, foldC]
  have h1 : (padB n r).take 64 = r.take 64 := by unfold padB; rw [List.take_append_of_le_length h]
  have h2 : (padB n r).drop 64 = padB n (r.drop 64) := by unfold padB; rw [List.drop_append_of_le_length h, List.length_drop, hp]
  rw [h1, h2]
theorem hash_short {n : Nat} {r : Bytes} (h : r.length < 56) (st : List W32) : hashW n r st = blockW KT st ((r ++ (128 :: List.replicate (55 - r.length) 0)) ++ lenB n) := by
  have hp : padN r.length = 55 - r.length := by unfold padN; omega
  have hm : (r.length + 9 + padN r.length) / 64 = 1 := by omega
  have hl := padB_len n r
  unfold hashW
  rw [hm, foldC, foldC, List.take_of_length_le (by omega)]
  unfold padB
  rw [hp]; simp
theorem hash_long {n : Nat} {r : Bytes} (h : 56 ≤ r.length) (h2 : r.length < 64) (st : List W32) : hashW n r st = blockW KT (blockW KT st (r ++ (128 :: List.replicate (63 - r.length) 0))) (List.replicate 56 0 ++ lenB n) := by
  have hp : padN r.length = (63 - r.length) + 56 := by unfold padN; omega
  have hm : (r.length + 9 + padN r.length) / 64 = 2 := by omega
  have e1 : padB n r = (r ++ (128 :: List.replicate (63 - r.length) 0)) ++ (List.replicate 56 0 ++ lenB n) := by
    unfold padB
    rw [hp, ← List.replicate_append_replicate]; simp
  have l1 : (r ++ (128 :: List.replicate (63 - r.length) 0)).length = 64 := by simp; omega
  have l2 : (List.replicate 56 (0 : UInt8) ++ lenB n).length = 64 := by simp [lenB_len]
  unfold hashW
  rw [hm, foldC, foldC, foldC, e1, ← l1, List.take_left, List.drop_left, l1, List.take_of_length_le (by omega)]
/-! ## the program's -/
theorem v_cpya {b : Bytes} (hb : b.length = 64) (r : Bytes) : evp (.cpya 0 64) [bl b, .str r] = some (bl (r.take 64 ++ b.drop (r.take 64).length)) := by
  refine (if_pos (show 0 + 64 ≤ (bl b).cells.length by show _ ≤ (b.map byteV).length; simp; omega)).trans ?_
  show some (V.agg (setAt (b.map byteV) 0 ((encB r).take 64))) = _
  unfold setAt
  rw [encB_map, List.take_zero, List.nil_append, Nat.zero_add, ← List.map_take, List.length_map, ← List.map_drop, ← List.map_append]
theorem v_cpyn {r : Bytes} : ∃ x, evp (.cpyn 64) [.str r] = some x := ⟨_, rfl⟩
theorem v_clr {b : Bytes} (hb : b.length = 64) : evp (.clra (.int .u8 0) 0 64) [bl b] = some (bl (List.replicate 64 0)) := by
  refine (if_pos (show 0 + 64 ≤ (bl b).cells.length by show _ ≤ (b.map byteV).length; simp; omega)).trans ?_
  show some (V.agg (setAt (b.map byteV) 0 (List.replicate 64 (.int .u8 0)))) = _
  unfold setAt
  rw [List.take_zero, List.nil_append, List.drop_eq_nil_of_le (by simp; omega), List.append_nil]; rfl
theorem v.sha12 (s : Bytes) (hs : s.length ≤ 1000000000000) : ∀ (m : Nat) (r : Bytes) (st : List W32) (b : Bytes), r.length ≤ m → st.length = 8 → b.length = 64 →
    vl e 48 12 [.str s, .str r, V.agg (repl 32 (.int .u8 0)), wl st, bl b] = some (bl (outB (hashW s.length r st))) := by
  intro m
  induction m with
  | zero =>
    intro r st b hr h8 hb
    obtain rfl : r = [] := List.eq_nil_of_length_eq_zero (by omega)
    obtain ⟨x, hx⟩ := v_cpyn (r := [])
    have hend := v.endOf (e := e) s hs (V.agg (repl 32 (.int .u8 0))) st h8 (128 :: List.replicate 55 0) (List.replicate 8 0) (by simp) (by simp)
    rw [hash_short (by decide)]
    have hst := v_stb8 (k := .i64) (l := List.replicate 64 0) (i := 0) (x := 128) (by simp)
    have hcp := v_cpya (b := List.replicate 64 0) (by simp) []
    rw [w.sha_Of_12]; unfold y.sha_Of_12
    have e128 : V.int .u8 128 = byteV 128 := rfl
    simp only [yy, List.length_nil, Int.natCast_zero, if_neg (show ¬ ((64 : Int) ≤ 0) by omega), v_clr hb, hcp, hx, v_chk (m := 64) (k := .i64) (i := 0) (by omega) (by omega), e128]
    refine bind_eq hst ?_
    rw [if_neg (show ¬ ((56 : Int) ≤ 0) by omega)]
    exact hend
  | succ m ih =>
    intro r st b hr h8 hb
    obtain ⟨x, hx⟩ := v_cpyn (r := r)
    by_cases h64 : 64 ≤ r.length
    · have hl64 : (r.take 64).length = 64 := by simp; omega
      have hcp := v_cpya hb r
      rw [hl64, List.drop_eq_nil_of_le (by omega), List.append_nil] at hcp
      have hblk := v.block (e := e) st h8 (r.take 64) hl64
      have hsl : evp (.sls true false) [.str r, .int .i64 64] = some (.str (r.drop 64)) := v_sls1 (l := 64) (by omega)
      rw [hash_step h64]
      rw [w.sha_Of_12]; unfold y.sha_Of_12
      simp only [yy, if_pos (show (64 : Int) ≤ (r.length : Int) by omega), hcp, hx, hblk, hsl]
      exact ih (r.drop 64) _ _ (by simp; omega) (by rw [blockW_len]; exact h8) hl64
    · have htk : r.take 64 = r := List.take_of_length_le (by omega)
      have hcp := v_cpya (b := List.replicate 64 0) (by simp) r
      rw [htk, List.drop_replicate] at hcp
      have hst := v_stb8 (k := .i64) (l := r ++ List.replicate (64 - r.length) 0) (i := r.length) (x := 128) (by simp; omega)
      have hset : (r ++ List.replicate (64 - r.length) 0).set r.length 128 = r ++ (128 :: List.replicate (63 - r.length) 0) := by
        rw [List.set_append_right _ _ (Nat.le_refl _), Nat.sub_self, show 64 - r.length = (63 - r.length) + 1 by omega, List.replicate_succ, List.set_cons_zero]
      rw [hset] at hst
      have e128 : V.int .u8 128 = byteV 128 := rfl
      rw [w.sha_Of_12]; unfold y.sha_Of_12
      by_cases h56 : 56 ≤ r.length
      · have l1 : (r ++ (128 :: List.replicate (63 - r.length) 0)).length = 64 := by simp; omega
        have hblk := v.block (e := e) st h8 (r ++ (128 :: List.replicate (63 - r.length) 0)) l1
        have hend := v.endOf (e := e) s hs (V.agg (repl 32 (.int .u8 0))) (blockW KT st (r ++ (128 :: List.replicate (63 - r.length) 0))) (by rw [blockW_len]; exact h8) (List.replicate 56 0) (List.replicate 8 0) (by simp) (by simp)
        rw [List.replicate_append_replicate] at hend
        rw [hash_long h56 (by omega)]
        simp only [yy, if_neg (show ¬ ((64 : Int) ≤ (r.length : Int)) by omega), v_clr hb, hcp, hx, v_chk (m := 64) (k := .i64) (i := (r.length : Int)) (by omega) (by omega), e128, hst, if_pos (show (56 : Int) ≤ (r.length : Int) by omega), hblk, v_clr l1]
        exact hend
      · have hend := v.endOf (e := e) s hs (V.agg (repl 32 (.int .u8 0))) st h8 (r ++ (128 :: List.replicate (55 - r.length) 0)) (List.replicate 8 0) (by simp; omega) (by simp)
        have e1 : (r ++ (128 :: List.replicate (55 - r.length) 0)) ++ List.replicate 8 0 = r ++ (128 :: List.replicate (63 - r.length) 0) := by
          rw [show 63 - r.length = (55 - r.length) + 8 by omega, ← List.replicate_append_replicate]; simp
        rw [e1] at hend
        rw [hash_short (by omega)]
        simp only [yy, if_neg (show ¬ ((64 : Int) ≤ (r.length : Int)) by omega), v_clr hb, hcp, hx, v_chk (m := 64) (k := .i64) (i := (r.length : Int)) (by omega) (by omega), e128, hst, if_neg (show ¬ ((56 : Int) ≤ (r.length : Int)) by omega)]
        exact hend
def H0 : List W32 := [1779033703, 3144134277, 1013904242, 2773480762, 1359893119, 2600822924, 528734635, 1541459225]
def digest (s : Bytes) : Bytes := outB (hashW s.length s H0)
theorem digest_len (s : Bytes) : (digest s).length = 32 := outB_len _
theorem v.shaOf (s : Bytes) (hs : s.length ≤ 1000000000000) : vl e 48 0 [.str s] = some (bl (digest s)) := by
  rw [w.sha_Of]; unfold y.sha_Of
  exact v.sha12 s hs s.length s H0 (List.replicate 64 0) (Nat.le_refl _) rfl (by simp)
/-! ## the document's -/
theorem v_appb {l : Bytes} {x : UInt8} (h : l.length + 1 ≤ Lim) : evp (.app 1) [bsl l, .sl false 1 [byteV x]] = some (bsl (l ++ [x])) := by
  rw [bsl, v_app (by simpa using h)]; simp
theorem v_appB {l m : Bytes} (h : l.length + m.length ≤ Lim) : evp (.app 1) [bsl l, bsl m] = some (bsl (l ++ m)) := by
  rw [bsl, bsl, v_app (by simpa using h)]; simp
theorem v_bslb {x : UInt8} : evp (.bsl 1) [byteV x] = some (.sl false 1 [byteV x]) := rfl
theorem v.pad8 (b : Bytes) (hb : b.length ≤ 1000000000) : ∀ (n : Nat) (l : Bytes), n = padN (l.length - 1) → 1 ≤ l.length → l.length + n ≤ 2000000000 →
    vl e 49 8 [bsl b, bsl l] = vl e 49 25 [bsl (l ++ List.replicate n 0), I b.length, .sl false 1 [], I 0]
  | n, l, hn, h1, h2 => by
    have hLim : Lim = 4294967296 := rfl
    have hr : evp (.bin .rem .no) [.int .i64 (l.length : Int), .int .i64 64] = some (.int .i64 ((l.length % 64 : Nat) : Int)) := v_rem (k := 64) (by decide)
    have e0 : V.int .u8 0 = byteV 0 := rfl
    rw [w.seicheref02_Padded_8]; unfold y.seicheref02_Padded_8
    cases n with
    | zero =>
      have : l.length % 64 = 56 := by unfold padN at hn; omega
      simp only [yy, hr, if_pos (show ((l.length % 64 : Nat) : Int) = 56 by omega)]
      rw [List.replicate_zero, List.append_nil]
    | succ n =>
      have hn' : n = padN ((l ++ [0]).length - 1) := by simp; unfold padN at hn ⊢; omega
      have : l.length % 64 ≠ 56 := by unfold padN at hn; omega
      simp only [yy, hr, if_neg (show ¬ (((l.length % 64 : Nat) : Int) = 56) by omega), e0, v_bslb, v_appb (show l.length + 1 ≤ Lim by omega)]
      have h3 := v.pad8 b hb n (l ++ [0]) hn' (by simp) (by simp; omega)
      refine h3.trans ?_
      rw [List.append_assoc, List.singleton_append, ← List.replicate_succ]
def tailB : Nat → Nat → Bytes → Bytes
  | 0, _, t => t
  | k + 1, m, t => tailB k (m / 256) (UInt8.ofNat (m % 256) :: t)
theorem ofNat_eq {x y : Nat} (h : x % 256 = y % 256) : UInt8.ofNat x = UInt8.ofNat y := by
  apply UInt8.toNat_inj.1
  simp only [UInt8.toNat_ofNat']
  exact h
theorem tail_eq (n : Nat) : tailB 7 (n / 32) [UInt8.ofNat (n % 32 * 8)] = lenB n := by
  show [_, _, _, _, _, _, _, _] = [_, _, _, _, _, _, _, _]
  simp only [Nat.div_div_eq_div_mul, Nat.reduceMul, Nat.reduceSub, Nat.reducePow]
  congr 1
  · exact ofNat_eq (by omega)
  congr 1
  · exact ofNat_eq (by omega)
  congr 1
  · exact ofNat_eq (by omega)
  congr 1
  · exact ofNat_eq (by omega)
  congr 1
  · exact ofNat_eq (by omega)
  congr 1
  · exact ofNat_eq (by omega)
  congr 1
  · exact ofNat_eq (by omega)
  congr 1
  · exact ofNat_eq (by omega)
theorem tailB_len : ∀ (k m : Nat) (t : Bytes), (tailB k m t).length = k + t.length
  | 0, _, _ => by simp [tailB]
  | k + 1, m, t => by rw [tailB, tailB_len k]; simp; omega
theorem v.pad25 (out : Bytes) (ho : out.length ≤ 2000000000) : ∀ (k i m : Nat) (t : Bytes), i + k = 8 → 1 ≤ i → m ≤ 1000000000 → t.length = i →
    vl e 49 25 [bsl out, I m, bsl t, I i] = some (bsl (out ++ tailB k m t))
  | 0, i, m, t, hi, h1, hm, ht => by
    have hLim : Lim = 4294967296 := rfl
    rw [w.seicheref02_Padded_25]; unfold y.seicheref02_Padded_25
    simp only [yy, if_neg (show ¬ ((i : Int) < 8) by omega), v_appB (show out.length + t.length ≤ Lim by omega)]; rfl
  | k + 1, i, m, t, hi, h1, hm, ht => by
    have hLim : Lim = 4294967296 := rfl
    have hr : evp (.bin .rem .no) [.int .i64 (m : Int), .int .i64 256] = some (.int .i64 ((m % 256 : Nat) : Int)) := v_rem (k := 256) (by decide)
    have hq : evp (.bin .quo .no) [.int .i64 (m : Int), .int .i64 256] = some (.int .i64 ((m / 256 : Nat) : Int)) := v_quo (k := 256) (by decide) (by omega)
    have hn : evp (.i2i .u8) [.int .i64 ((m % 256 : Nat) : Int)] = some (byteV (UInt8.ofNat (m % 256))) := congrArg some (ofNat_byte _)
    have ha : evp (.app 1) [.sl false 1 [byteV (UInt8.ofNat (m % 256))], bsl t] = some (bsl (UInt8.ofNat (m % 256) :: t)) := v_appB (l := [UInt8.ofNat (m % 256)]) (by simp; omega)
    rw [w.seicheref02_Padded_25]; unfold y.seicheref02_Padded_25
    simp only [yy, if_pos (show (i : Int) < 8 by omega), if_neg (show ¬ ((i : Int) = 0) by omega), hr, hn, v_bslb, ha, hq, next64 (show i < 64 by omega) (by decide)]
    exact v.pad25 out ho k (i + 1) (m / 256) _ (by omega) (by omega) (by omega) (by simp; omega)
theorem v.Padded (b : Bytes) (hb : b.length ≤ 1000000000) : vl e 49 0 [bsl b] = some (bsl (padB b.length b)) := by
  have hLim : Lim = 4294967296 := rfl
  have hpn := (padN_spec b.length).2
  have e128 : V.int .u8 128 = byteV 128 := rfl
  have h0 : evp (.bsl 1) [] = some (bsl []) := rfl
  have h8 := v.pad8 (e := e) b hb (padN b.length) (b ++ [128]) (by simp) (by simp) (by simp; omega)
  have hr : evp (.bin .rem .no) [.int .i64 (b.length : Int), .int .i64 32] = some (.int .i64 ((b.length % 32 : Nat) : Int)) := v_rem (k := 32) (by decide)
  have hq : evp (.bin .quo .no) [.int .i64 (b.length : Int), .int .i64 32] = some (.int .i64 ((b.length / 32 : Nat) : Int)) := v_quo (k := 32) (by decide) (by omega)
  have hm : IntKind.i64.wrap (((b.length % 32 : Nat) : Int) * 8) = ((b.length % 32 * 8 : Nat) : Int) := by rw [w64 _ (by omega)]; omega
  have hn : evp (.i2i .u8) [.int .i64 ((b.length % 32 * 8 : Nat) : Int)] = some (byteV (UInt8.ofNat (b.length % 32 * 8))) := congrArg some (ofNat_byte _)
  have ha : evp (.app 1) [.sl false 1 [byteV (UInt8.ofNat (b.length % 32 * 8))], .sl false 1 []] = some (bsl [UInt8.ofNat (b.length % 32 * 8)]) := v_appB (l := [UInt8.ofNat (b.length % 32 * 8)]) (m := []) (by simp; omega)
  have h25 := v.pad25 (e := e) (b ++ [128] ++ List.replicate (padN b.length) 0) (by simp; omega) 7 1 (b.length / 32) [UInt8.ofNat (b.length % 32 * 8)] (by omega) (by omega) (by omega) rfl
  rw [tail_eq] at h25
  rw [w.seicheref02_Padded]; unfold y.seicheref02_Padded
  simp only [yy, h0, v_appB (l := []) (m := b) (by simp; omega), e128, v_bslb]
  rw [List.nil_append, v_appb (by omega)]
  simp only [yy]
  refine h8.trans ?_
  rw [w.seicheref02_Padded_25]; unfold y.seicheref02_Padded_25
  simp only [yy, if_pos (show (0 : Int) < 8 by omega), if_true, hr, v_mul, hm, hn, v_bslb, ha, hq]
  refine h25.trans ?_
  unfold padB; simp
theorem v_slb {l : Bytes} {i j : Nat} (h1 : i ≤ j) (h2 : j ≤ l.length) : evp (.slc 1 true true false) [bsl l, .int .i64 (i : Int), .int .i64 (j : Int)] = some (bsl ((l.take j).drop i)) := by
  simp only [evp, vSlcC, vSlc, vOpt]
  simp [cut3]
  exact ⟨h2, h1⟩
theorem v_cat8 {l : List W32} (n : Nat) (h : l.length = n) : evp (.cat [some n]) [wl l] = some (wl l) := by
  show ((if (wl l).cells.length = n ∧ (wl l).cells.all V.sc = true then (catV [] []).map ((wl l).cells ++ ·) else none)).map V.agg = _
  rw [if_pos ⟨by show (l.map bv).length = n; simpa using h, by
    rw [List.all_eq_true]; intro c hc
    obtain ⟨x, _, rfl⟩ := List.mem_map.1 (show c ∈ l.map bv from hc); rfl⟩]
  show some (V.agg ((wl l).cells ++ [])) = _
  rw [List.append_nil]; rfl
theorem v.nOf14 (all : Bytes) (ha : all.length ≤ 2000000000) : ∀ (n j : Nat) (st : List W32), all.length = 64 * (j + n) → st.length = 8 →
    vl e 26 14 [bsl all, I ((64 * j : Nat) : Int), V.agg (repl 32 (.int .u8 0)), wl st, wl KT] = some (bl (outB (foldC KT n (all.drop (64 * j)) st)))
  | 0, j, st, hj, h8 => by
    rw [w.seicheref02_Of_14]; unfold y.seicheref02_Of_14
    simp only [yy, if_neg (show ¬ (((64 * j : Nat) : Int) < (all.length : Int)) by omega)]
    have h := v.nout (e := e) st h8 8 0 (by omega)
    rw [Nat.mul_zero, List.take_zero, List.drop_zero, List.nil_append] at h
    exact h
  | n + 1, j, st, hj, h8 => by
    have e1 : IntKind.i64.wrap (((64 * j : Nat) : Int) + 64) = ((64 * (j + 1) : Nat) : Int) := by rw [w64 _ (by omega)]; omega
    have hsl := v_slb (l := all) (i := 64 * j) (j := 64 * (j + 1)) (by omega) (by omega)
    have hcl : (all.take (64 * (j + 1))).drop (64 * j) = (all.drop (64 * j)).take 64 := by rw [List.drop_take, show 64 * (j + 1) - 64 * j = 64 by omega]
    rw [hcl] at hsl
    have hN := v.Next (e := e) st h8 ((all.drop (64 * j)).take 64) (by simp; omega)
    rw [w.seicheref02_Of_14]; unfold y.seicheref02_Of_14
    simp only [yy, if_pos (show ((64 * j : Nat) : Int) < (all.length : Int) by omega), e1, hsl, hN, v_cat8 8 (show (blockW KT st ((all.drop (64 * j)).take 64)).length = 8 by rw [blockW_len]; exact h8)]
    have h := v.nOf14 all ha n (j + 1) (blockW KT st ((all.drop (64 * j)).take 64)) (by omega) (by rw [blockW_len]; exact h8)
    rw [foldC, List.drop_drop, show 64 * j + 64 = 64 * (j + 1) by omega]
    exact h
theorem v.refOf (b : Bytes) (hb : b.length ≤ 1000000000) : vl e 26 0 [bsl b] = some (bl (digest b)) := by
  have hpn := padN_spec b.length
  have hl := padB_len b.length b
  have hc : evp (.cat [none, none, none, none, none, none, none, none]) [.int .u32 1779033703, .int .u32 3144134277, .int .u32 1013904242, .int .u32 2773480762, .int .u32 1359893119, .int .u32 2600822924, .int .u32 528734635, .int .u32 1541459225] = some (wl H0) := rfl
  have h := v.nOf14 (e := e) (padB b.length b) (by omega) ((b.length + 9 + padN b.length) / 64) 0 H0 (by omega) rfl
  rw [w.seicheref02_Of]; unfold y.seicheref02_Of
  simp only [yy, hc, v.Padded b hb, v.Numbers, v_cat8 64 kt_len]
  exact h
end Go.Proofs.YtghjeddphkmciaaDoor
/-
  S6: names: parts joined, and their digests. Own work of this seat.
-/
namespace Go.Proofs.YtghjeddphkmciaaDoor
open Go.Abs
set_option maxRecDepth 10000
variable {e : Nat → List V → Option V}
/-! ## numbers -/
def numB (n : Nat) : Bytes := (List.range 8).map fun i => UInt8.ofNat (n / 2 ^ (56 - 8 * i))
theorem numB_len (n : Nat) : (numB n).length = 8 := by simp [numB]
theorem numB_get (n : Nat) {i : Nat} (h : i < (numB n).length) : (numB n)[i] = UInt8.ofNat (n / 2 ^ (56 - 8 * i)) := by simp [numB]
theorem toBytes_map : ∀ l : Bytes, toBytes (l.map byteV) = some l
  | [] => rfl
  | c :: r => by
    have ih := toBytes_map r
    have hc : UInt8.ofNat ((c.toNat : Int).toNat) = c := by rw [Int.toNat_natCast]; exact UInt8.ofNat_toNat
    show ((toBytes (r.map byteV)).map (UInt8.ofNat ((c.toNat : Int).toNat) :: ·)) = _
    rw [ih, hc]; rfl
theorem v_b2s {l : Bytes} : evp .b2s [bsl l] = some (.str l) := by
  show (toBytes (l.map byteV)).map V.str = _
  rw [toBytes_map]; rfl
theorem v_b2so {l : Bytes} {k : Nat} (h : l.length = k) : evp (.b2so 0 k) [bl l] = some (.str l) := by
  show (if 0 + k ≤ (l.map byteV).length then (toBytes (((l.map byteV).drop 0).take k)).map V.str else none) = _
  rw [List.drop_zero, List.take_of_length_le (by simp; omega), toBytes_map]
  exact if_pos (by simp; omega)
theorem v.num10 (n : Nat) (hn : n ≤ 1000000000000) : ∀ (m i : Nat), i + m = 8 → vl e 72 10 [I n, I i, bl ((numB n).take i ++ (List.replicate 8 0).drop i)] = some (.str (numB n))
  | 0, i, hi => by
    have hl := numB_len n
    rw [List.take_of_length_le (by omega), List.drop_eq_nil_of_le (by simp; omega), List.append_nil]
    have hb : evp (.b2so 0 8) [bl (numB n)] = some (.str (numB n)) := v_b2so (by omega)
    rw [w.code_Num_10]; unfold y.code_Num_10
    simp only [yy, if_neg (show ¬ ((i : Int) < 8) by omega), hb]
  | m + 1, i, hi => by
    have hl := numB_len n
    have e1 : IntKind.i64.wrap (8 * (i : Int)) = ((8 * i : Nat) : Int) := by rw [w64 _ (by omega)]; omega
    have e2 : IntKind.i64.wrap (56 - ((8 * i : Nat) : Int)) = ((56 - 8 * i : Nat) : Int) := by rw [w64 _ (by omega)]; omega
    have e3 : evp (.i2i .u64) [.int .i64 (n : Int)] = some (.int .u64 (n : Int)) := by
      show some (V.int .u64 (IntKind.u64.wrap (n : Int))) = _
      rw [wrapU64, Int.emod_eq_of_lt (by omega) (by omega)]
    have e5 : evp (.bin .shr .no) [.int .u64 (n : Int), .int .i64 ((56 - 8 * i : Nat) : Int)] = some (.int .u64 ((n / 2 ^ (56 - 8 * i) : Nat) : Int)) := by
      show (if ((56 - 8 * i : Nat) : Int) < 0 then none else some (V.int .u64 ((n : Int).fdiv (2 ^ (min ((56 - 8 * i : Nat) : Int).toNat IntKind.u64.bits))))) = _
      have : min ((56 - 8 * i : Nat) : Int).toNat IntKind.u64.bits = 56 - 8 * i := by show min _ 64 = _; omega
      rw [if_neg (by omega), this, Int.fdiv_eq_ediv_of_nonneg _ (Int.le_of_lt (Int.pow_pos (by decide)))]
      simp
    have e6 : evp (.i2i .u8) [.int .u64 ((n / 2 ^ (56 - 8 * i) : Nat) : Int)] = some (byteV (UInt8.ofNat (n / 2 ^ (56 - 8 * i)))) := congrArg some (ofNat_byte _)
    have hset : ((numB n).take i ++ (List.replicate 8 0).drop i).set i (UInt8.ofNat (n / 2 ^ (56 - 8 * i))) = (numB n).take (i + 1) ++ (List.replicate 8 0).drop (i + 1) := by
      rw [← numB_get n (by omega)]; exact fill (by omega) (by simpa using hl)
    have hst := v_stb8 (k := .i64) (l := (numB n).take i ++ (List.replicate 8 0).drop i) (i := i) (x := UInt8.ofNat (n / 2 ^ (56 - 8 * i))) (by rw [fill_len (by omega) (by simpa using hl)]; omega)
    rw [hset] at hst
    rw [w.code_Num_10]; unfold y.code_Num_10
    simp only [yy, if_pos (show (i : Int) < 8 by omega), e3, v_mul, e1, e2, e5, e6, v_chk (m := 8) (k := .i64) (i := (i : Int)) (by omega) (by omega), hst, next64 (show i < 64 by omega) (by decide)]
    exact v.num10 n hn m (i + 1) (by omega)
theorem v.codeNum (n : Nat) (hn : n ≤ 1000000000000) : vl e 72 0 [I n] = some (.str (numB n)) := by
  have h := v.num10 (e := e) n hn 8 0 (by omega)
  rw [List.take_zero, List.drop_zero, List.nil_append] at h
  rw [w.code_Num]; exact h
theorem tail8 (n : Nat) : tailB 8 n [] = numB n := by
  show [_, _, _, _, _, _, _, _] = [_, _, _, _, _, _, _, _]
  simp only [Nat.div_div_eq_div_mul, Nat.reduceMul, Nat.reduceSub, Nat.reducePow]
  congr 1
  · exact ofNat_eq (by omega)
  congr 1
  · exact ofNat_eq (by omega)
  congr 1
  · exact ofNat_eq (by omega)
  congr 1
  · exact ofNat_eq (by omega)
  congr 1
  · exact ofNat_eq (by omega)
  congr 1
  · exact ofNat_eq (by omega)
  congr 1
  · exact ofNat_eq (by omega)
  congr 1
  · exact ofNat_eq (by omega)
theorem v.num12 : ∀ (k i m : Nat) (t : Bytes), i + k = 8 → t.length = i → m ≤ 1000000000000 → vl e 52 12 [.int .u64 (m : Int), .str t, I i] = some (.str (tailB k m t))
  | 0, i, m, t, hi, ht, hm => by
    rw [w.seicheref01_Num_12]; unfold y.seicheref01_Num_12
    simp only [yy, if_neg (show ¬ ((i : Int) < 8) by omega)]; rfl
  | k + 1, i, m, t, hi, ht, hm => by
    have hr : evp (.bin .rem .no) [.int .u64 (m : Int), .int .u64 256] = some (.int .u64 ((m % 256 : Nat) : Int)) := by
      show some (V.int .u64 ((m : Int).tmod (256 : Nat))) = _
      rw [← Int.ofNat_tmod]
    have hq : evp (.bin .quo .no) [.int .u64 (m : Int), .int .u64 256] = some (.int .u64 ((m / 256 : Nat) : Int)) := by
      show some (V.int .u64 (IntKind.u64.wrap ((m : Int).tdiv (256 : Nat)))) = _
      rw [← Int.ofNat_tdiv, wrapU64]
      have := Nat.div_le_self m 256
      generalize m / 256 = q at *
      rw [Int.emod_eq_of_lt (by omega) (by omega)]
    have hn : evp (.i2i .u8) [.int .u64 ((m % 256 : Nat) : Int)] = some (byteV (UInt8.ofNat (m % 256))) := congrArg some (ofNat_byte _)
    have hb : evp .b2s [.sl false 1 [byteV (UInt8.ofNat (m % 256))]] = some (.str [UInt8.ofNat (m % 256)]) := v_b2s (l := [UInt8.ofNat (m % 256)])
    have := Nat.div_le_self m 256
    rw [w.seicheref01_Num_12]; unfold y.seicheref01_Num_12
    simp only [yy, if_pos (show (i : Int) < 8 by omega), hr, hn, v_bslb, hb, v_sadd (show ([UInt8.ofNat (m % 256)] : Bytes).length + t.length ≤ 4611686018427387904 by simp; omega), hq, next64 (show i < 64 by omega) (by decide)]
    exact v.num12 k (i + 1) (m / 256) _ (by omega) (by simp; omega) (by omega)
theorem v.refNum (n : Nat) (hn : n ≤ 1000000000000) : vl e 52 0 [I n] = some (.str (numB n)) := by
  have e3 : evp (.i2i .u64) [.int .i64 (n : Int)] = some (.int .u64 (n : Int)) := by
    show some (V.int .u64 (IntKind.u64.wrap (n : Int))) = _
    rw [wrapU64, Int.emod_eq_of_lt (by omega) (by omega)]
  rw [w.seicheref01_Num]; unfold y.seicheref01_Num
  simp only [yy, e3]
  exact (v.num12 8 0 n [] (by omega) rfl hn).trans (by rw [tail8])
/-! ## parts -/
def partsB (l : List Bytes) : Bytes := (l.map fun p => numB p.length ++ p).flatten
def joinC (l : List Bytes) : Bytes := numB l.length ++ partsB l
def sumL (l : List Bytes) : Nat := (l.map fun p => 8 + p.length).sum
theorem sumL_cons (x : Bytes) (r : List Bytes) : sumL (x :: r) = 8 + x.length + sumL r := rfl
theorem partsB_cons (x : Bytes) (r : List Bytes) : partsB (x :: r) = numB x.length ++ x ++ partsB r := rfl
theorem partsB_len : ∀ l : List Bytes, (partsB l).length = sumL l
  | [] => rfl
  | x :: r => by
    have := partsB_len r
    simp only [partsB, sumL, List.map_cons, List.flatten_cons, List.length_append, List.sum_cons, numB_len] at this ⊢; omega
theorem sumL_len (m : List Bytes) : 8 * m.length ≤ sumL m := by
  induction m with
  | nil => simp [sumL]
  | cons x r ih => simp only [sumL, List.map_cons, List.sum_cons, List.length_cons] at ih ⊢; omega
theorem v_appS {l : Bytes} {s : Bytes} (h : l.length + s.length ≤ Lim) : evp (.app 1) [bsl l, .str s] = some (bsl (l ++ s)) := by
  show vAppC 1 (bsl l) (.str s) = _
  show (if (l.map byteV).length + (encB s).length ≤ Lim ∧ 1 = 1 then some (V.sl false 1 (l.map byteV ++ encB s)) else none) = _
  rw [if_pos ⟨by simpa [encB] using h, rfl⟩, encB_map, ← List.map_append]
theorem v.join31 (l : List Bytes) (hl : sumL l ≤ 1000000000) : ∀ (n i : Nat) (out : Bytes), i + n = l.length → out.length + sumL (l.drop i) ≤ 2000000000 →
    vl e 45 31 [bsl out, strs l, I l.length, I i] = some (.str (out ++ partsB (l.drop i)))
  | 0, i, out, hi, ho => by
    rw [w.code_Join_31, List.drop_eq_nil_of_le (by omega)]; unfold y.code_Join_31
    simp only [yy, if_neg (show ¬ ((i : Int) < (l.length : Int)) by omega), v_b2s]
    simp [partsB]
  | n + 1, i, out, hi, ho => by
    have hLim : Lim = 4294967296 := rfl
    have hlt : i < l.length := by omega
    rw [List.drop_eq_getElem_cons hlt] at ho ⊢
    rw [sumL_cons] at ho
    rw [partsB_cons]
    have hn := numB_len l[i].length
    have hlen := sumL_len l
    rw [w.code_Join_31]; unfold y.code_Join_31
    simp only [yy, if_pos (show (i : Int) < (l.length : Int) by omega), v_get hlt, v_lds, v.codeNum l[i].length (by omega), v_appS (show out.length + (numB l[i].length).length ≤ Lim by omega), v_appS (show (out ++ numB l[i].length).length + l[i].length ≤ Lim by simp; omega), next64 hlt (by omega)]
    refine (v.join31 l hl n (i + 1) _ (by omega) (by simp only [List.length_append]; omega)).trans ?_
    rw [List.append_assoc, List.append_assoc, List.append_assoc]
theorem sumL_mem : ∀ {l : List Bytes} {x : Bytes}, x ∈ l → 8 + x.length ≤ sumL l
  | y :: r, x, h => by
    rcases List.mem_cons.1 h with rfl | h
    · simp [sumL]
    · have := sumL_mem h; simp only [sumL, List.map_cons, List.sum_cons] at this ⊢; omega
theorem v.join10 (l : List Bytes) (hl : sumL l ≤ 1000000000) : ∀ (n i m : Nat), i + n = l.length → m + sumL (l.drop i) ≤ 2000000000 →
    vl e 45 10 [strs l, I m, strs l, I l.length, I i] = some (.str (joinC l))
  | 0, i, m, hi, hm => by
    have hLim : Lim = 4294967296 := rfl
    have h8 := sumL_len l
    have hn := numB_len l.length
    have hk : evp (.mks 1) [.int .i64 0, .int .i64 (m : Int)] = some (bsl []) := by
      show (if (0 : Int) = 0 ∧ 0 ≤ (m : Int) ∧ (m : Int) ≤ Lim then some (⟨.sl false 1 [], true, none⟩ : Res) else none).map (·.v) = _
      rw [if_pos ⟨rfl, by omega, by omega⟩]; rfl
    rw [w.code_Join_10]; unfold y.code_Join_10
    simp only [yy, if_neg (show ¬ ((i : Int) < (l.length : Int)) by omega), hk, v.codeNum l.length (by omega), v_appS (l := []) (s := numB l.length) (by simp; omega)]
    refine (v.join31 l hl l.length 0 _ (by omega) (by rw [List.drop_zero]; simp; omega)).trans ?_
    simp [joinC]
  | n + 1, i, m, hi, hm => by
    have hlt : i < l.length := by omega
    rw [List.drop_eq_getElem_cons hlt] at hm
    rw [sumL_cons] at hm
    have h8 := sumL_len l
    have e1 : IntKind.i64.wrap (8 + (l[i].length : Int)) = ((8 + l[i].length : Nat) : Int) := by rw [w64 _ (by omega)]; omega
    have e2 : IntKind.i64.wrap ((m : Int) + ((8 + l[i].length : Nat) : Int)) = ((m + (8 + l[i].length) : Nat) : Int) := by rw [w64 _ (by omega)]; omega
    rw [w.code_Join_10]; unfold y.code_Join_10
    simp only [yy, if_pos (show (i : Int) < (l.length : Int) by omega), v_get hlt, v_lds, e1, e2, next64 hlt (by omega)]
    exact v.join10 l hl n (i + 1) _ (by omega) (by omega)
theorem v.codeJoin (l : List Bytes) (hl : sumL l ≤ 1000000000) : vl e 45 0 [strs l] = some (.str (joinC l)) := by
  rw [w.code_Join]; unfold y.code_Join
  simp only [yy]
  exact v.join10 l hl l.length 0 8 (by omega) (by rw [List.drop_zero]; omega)
theorem v.rjoin10 (l : List Bytes) (hl : sumL l ≤ 1000000000) : ∀ (n i : Nat) (out : Bytes), i + n = l.length → out.length + sumL (l.drop i) ≤ 2000000000 →
    vl e 27 10 [.str out, strs l, I l.length, I i] = some (.str (out ++ partsB (l.drop i)))
  | 0, i, out, hi, ho => by
    rw [w.seicheref01_Join_10, List.drop_eq_nil_of_le (by omega)]; unfold y.seicheref01_Join_10
    simp only [yy, if_neg (show ¬ ((i : Int) < (l.length : Int)) by omega)]
    simp [partsB]
  | n + 1, i, out, hi, ho => by
    have hlt : i < l.length := by omega
    rw [List.drop_eq_getElem_cons hlt] at ho ⊢
    rw [sumL_cons] at ho
    rw [partsB_cons]
    have hn := numB_len l[i].length
    have h8 := sumL_len l
    rw [w.seicheref01_Join_10]; unfold y.seicheref01_Join_10
    simp only [yy, if_pos (show (i : Int) < (l.length : Int) by omega), v_get hlt, v_lds, v.refNum l[i].length (by omega), v_sadd (show out.length + (numB l[i].length).length ≤ 4611686018427387904 by omega), v_sadd (show (out ++ numB l[i].length).length + l[i].length ≤ 4611686018427387904 by simp; omega), next64 hlt (by omega)]
    refine (v.rjoin10 l hl n (i + 1) _ (by omega) (by simp only [List.length_append]; omega)).trans ?_
    rw [List.append_assoc, List.append_assoc, List.append_assoc]
theorem v.refJoin (l : List Bytes) (hl : sumL l ≤ 1000000000) : vl e 27 0 [strs l] = some (.str (joinC l)) := by
  have h8 := sumL_len l
  have hn := numB_len l.length
  rw [w.seicheref01_Join]; unfold y.seicheref01_Join
  simp only [yy, v.refNum l.length (by omega)]
  refine (v.rjoin10 l hl l.length 0 _ (by omega) (by rw [List.drop_zero]; omega)).trans ?_
  simp [joinC]
theorem joinC_len (l : List Bytes) : (joinC l).length = 8 + sumL l := by simp [joinC, numB_len, partsB_len]
/-- the digest of a text for a purpose -/
def nameD (p s : Bytes) : Bytes := digest (joinC [p, s])
theorem nameD_len (p s : Bytes) : (nameD p s).length = 32 := digest_len _
theorem v_bsl2 {x y : Bytes} : evp (.bsl 1) [.str x, .str y] = some (strs [x, y]) := rfl
theorem v_push2 {x y : Bytes} : evp (.app 1) [.sl false 1 [.str x], .sl false 1 [.str y]] = some (strs [x, y]) := by
  have := v_push (l := [x]) (x := y) (show 1 + 1 ≤ Lim by decide)
  exact this
theorem v.shaSum (p s : Bytes) (hp : p.length ≤ 100) (hs : s.length ≤ 100000000) : vl e 25 0 [.str p, .sl false 1 [.str s]] = some (bl (nameD p s)) := by
  have hl : sumL [p, s] = 16 + p.length + s.length := by simp [sumL]; omega
  have hj := joinC_len [p, s]
  rw [w.sha_Sum]; unfold y.sha_Sum
  simp only [yy, v_bsl1, v_push2, v.codeJoin [p, s] (by omega), v.shaOf (joinC [p, s]) (by omega), v_cat32 (digest_len (joinC [p, s]))]
  rfl
theorem v.refSum (p s : Bytes) (hp : p.length ≤ 100) (hs : s.length ≤ 100000000) : vl e 11 0 [.str p, .str s] = some (bl (nameD p s)) := by
  have hl : sumL [p, s] = 16 + p.length + s.length := by simp [sumL]; omega
  have hj := joinC_len [p, s]
  have h2 : evp .s2b [.str (joinC [p, s])] = some (bsl (joinC [p, s])) := rfl
  rw [w.seicheref07_Sum]; unfold y.seicheref07_Sum
  simp only [yy, v_bsl2, v.refJoin [p, s] (by omega), h2, v.refOf (joinC [p, s]) (by omega), v_cat32 (digest_len (joinC [p, s]))]
  rfl
/-! ## two digests -/
theorem flat_eq : ∀ {n : Nat} {x y : Bytes}, x.length = n → y.length = n → flatEq (List.replicate n (some .u8, true)) (x.map byteV) (y.map byteV) = some (decide (x = y))
  | 0, [], [], _, _ => rfl
  | n + 1, a :: x, b :: y, hx, hy => by
    have ih := flat_eq (n := n) (x := x) (y := y) (by simpa using hx) (by simpa using hy)
    show (kdEq (some .u8, true) (byteV a) (byteV b)).bind (fun c => (flatEq (List.replicate n (some .u8, true)) (x.map byteV) (y.map byteV)).map (c && ·)) = _
    rw [ih]
    show some (decide ((a.toNat : Int) = (b.toNat : Int)) && decide (x = y)) = _
    have : ((a.toNat : Int) = (b.toNat : Int)) ↔ a = b := ⟨fun h => UInt8.toNat_inj.1 (by omega), fun h => by rw [h]⟩
    by_cases h1 : a = b
    · subst h1; simp
    · rw [decide_eq_false (fun h => h1 (this.1 h))]; simp [h1]
theorem v_feq {x y : Bytes} (hx : x.length = 32) (hy : y.length = 32) : evp (.bin .eql (.flat [(some .u8, true), (some .u8, true), (some .u8, true), (some .u8, true), (some .u8, true), (some .u8, true), (some .u8, true), (some .u8, true), (some .u8, true), (some .u8, true), (some .u8, true), (some .u8, true), (some .u8, true), (some .u8, true), (some .u8, true), (some .u8, true), (some .u8, true), (some .u8, true), (some .u8, true), (some .u8, true), (some .u8, true), (some .u8, true), (some .u8, true), (some .u8, true), (some .u8, true), (some .u8, true), (some .u8, true), (some .u8, true), (some .u8, true), (some .u8, true), (some .u8, true), (some .u8, true)])) [bl x, bl y] = some (.bool (decide (x = y))) := by
  show (flatEq (List.replicate 32 (some .u8, true)) (x.map byteV) (y.map byteV)).map V.bool = _
  rw [flat_eq hx hy]; rfl
theorem v_fne {x y : Bytes} (hx : x.length = 32) (hy : y.length = 32) : evp (.bin .neq (.flat [(some .u8, true), (some .u8, true), (some .u8, true), (some .u8, true), (some .u8, true), (some .u8, true), (some .u8, true), (some .u8, true), (some .u8, true), (some .u8, true), (some .u8, true), (some .u8, true), (some .u8, true), (some .u8, true), (some .u8, true), (some .u8, true), (some .u8, true), (some .u8, true), (some .u8, true), (some .u8, true), (some .u8, true), (some .u8, true), (some .u8, true), (some .u8, true), (some .u8, true), (some .u8, true), (some .u8, true), (some .u8, true), (some .u8, true), (some .u8, true), (some .u8, true), (some .u8, true)])) [bl x, bl y] = some (.bool (!decide (x = y))) := by
  show (flatEq (List.replicate 32 (some .u8, true)) (x.map byteV) (y.map byteV)).map (fun b => V.bool !b) = _
  rw [flat_eq hx hy]; rfl
end Go.Proofs.YtghjeddphkmciaaDoor
/-
  S7: the law ObjectNames. Own work of this seat.
-/
namespace Go.Proofs.YtghjeddphkmciaaDoor
open Go.Abs
set_option maxRecDepth 10000
variable {e : Nat → List V → Option V}
theorem v.alive7 : vl e 7 0 [] = some (.bool true) := by
  have hgt : vl e 44 0 [.sl false 34 []] = some (.bool true) := by
    rw [w.object_GoodTree]; unfold y.object_GoodTree
    simp only [yy, List.length_nil, Int.natCast_zero]
    rw [w.object_GoodTree_8]; unfold y.object_GoodTree_8
    simp only [yy, List.length_nil, Int.natCast_zero, if_neg (show ¬ ((0 : Int) < 0) by omega)]
    rfl
  have hp : vl e 22 0 [.sl false 34 []] = some (.tup [.str (joinC []), I 0]) := by
    rw [w.object_PutTree]; unfold y.object_PutTree
    simp only [yy, hgt, List.length_nil, Int.natCast_zero]
    rw [w.object_PutTree_18]; unfold y.object_PutTree_18
    have hj := v.codeJoin (e := e) [] (by decide)
    simp only [yy, if_neg (show ¬ ((0 : Int) < 0) by omega)]
    exact bind_eq hj rfl
  have hs : vl e 46 0 [.str [120]] = some (.tup [.sl false 1 [], I 4]) := by
    have hr : vl e 73 0 [.str [120]] = some (.tup [I 0, .bool false]) := by
      rw [w.code_ReadNum]; unfold y.code_ReadNum
      simp only [yy]
      rw [if_pos (by decide)]
    rw [w.code_Split]; unfold y.code_Split
    simp only [yy, hr]
    rw [if_neg (by decide), w.code_Split_17]; unfold y.code_Split_17
    simp only [yy]
  have hg : vl e 23 0 [.str [120]] = some (.tup [.sl false 34 [], I 4]) := by
    rw [w.object_GetTree]; unfold y.object_GetTree
    simp only [yy, hs]
    rw [if_neg (by decide), w.object_GetTree_9]; unfold y.object_GetTree_9
    simp only [yy]
  have hc : vl e 24 0 [V.agg (repl 32 (.int .u8 0) ++ [.sl false 32 [], .str []])] = some (.bool true) := by
    rw [w.object_GoodCommit]; unfold y.object_GoodCommit
    have h1 : evp .scs [V.agg (repl 32 (.int .u8 0) ++ [.sl false 32 [], .str []])] = some (V.agg (repl 32 (.int .u8 0) ++ [.sl false 32 [], .str []])) := rfl
    have h2 : evp (.ld none 33) [V.agg (repl 32 (.int .u8 0) ++ [.sl false 32 [], .str []])] = some (.str []) := rfl
    have h3 : evp (.ld none 32) [V.agg (repl 32 (.int .u8 0) ++ [.sl false 32 [], .str []])] = some (.sl false 32 []) := rfl
    simp only [yy, h1, h2, h3, List.length_nil, Int.natCast_zero]
    rw [if_pos (by decide)]; rfl
  have hcat : evp (.cat [some 32, none, none]) [.agg (repl 32 (.int .u8 0)), .sl false 32 [], .str []] = some (V.agg (repl 32 (.int .u8 0) ++ [.sl false 32 [], .str []])) := rfl
  have hcat0 : evp (.cat []) [] = some (.agg []) := rfl
  have hl : (joinC []).length = 8 := by rw [joinC_len]; rfl
  rw [w.seichelaw07_alive]; unfold y.seichelaw07_alive
  simp only [yy, hp, hg, hl, if_true, hcat0, hcat, hc]
  rfl
abbrev dl (l : List Bytes) : V := .sl false 32 (l.map bl)
theorem cells32 {x : Bytes} (h : x.length = 32) : (bl x).cells.length = 32 := by show (x.map byteV).length = 32; simpa using h
theorem v_eld {l : List Bytes} {i : Nat} (h : i < l.length) : evp (.elem 32) [dl l, .int .i64 (i : Int)] = some (bl l[i]) := v_elem (by simp [h])
theorem v_ld32 {x : Bytes} (h : x.length = 32) : evp (.ld (some 32) 0) [bl x] = some (bl x) := by
  show (if 0 + 32 ≤ (x.map byteV).length then some (V.agg (((x.map byteV).drop 0).take 32)) else none) = _
  rw [if_pos (by simp; omega), List.drop_zero, List.take_of_length_le (by simp; omega)]
theorem v_pushd {l : List Bytes} {x : Bytes} (h : l.length + 1 ≤ Lim) : evp (.app 32) [dl l, .sl false 32 [bl x]] = some (dl (l ++ [x])) := by
  rw [dl, v_app (by simpa using h)]; simp
theorem v_bsld {x : Bytes} (h : x.length = 32) : evp (.bsl 32) [bl x] = some (.sl false 32 [bl x]) := by
  refine if_pos ?_
  simp [fits]
  exact ⟨h, fun _ _ => rfl⟩
/-- the digests so far against a new one -/
theorem v.in67 (a b q arr kinds X Y Z : V) (A B : Bytes) (ha : a = .str A) (hb : b = .str B) (o k : Int) (sums : List Bytes) (h32 : ∀ x ∈ sums, x.length = 32) (hl : sums.length ≤ 100) (d : Bytes) (hd : d.length = 32) (hk : IntKind.i64.wrap (k + 1) = k + 1) : ∀ (n i : Nat), i + n = sums.length →
    vl e 3 67 [a, b, dl sums, q, arr, I o, kinds, I k, dl sums, I sums.length, I i, X, Y, Z, bl d] = some (.bool true) ∨
    ((∀ j (h : j < sums.length), i ≤ j → sums[j] = d → A = B ∧ j % 3 = sums.length % 3) ∧
      vl e 3 67 [a, b, dl sums, q, arr, I o, kinds, I k, dl sums, I sums.length, I i, X, Y, Z, bl d] = vl e 3 50 [a, b, dl (sums ++ [d]), q, arr, I o, kinds, I (k + 1), X, Y, Z])
  | 0, i, hi => by
    have hLim : Lim = 4294967296 := rfl
    right
    refine ⟨fun j h h2 => by omega, ?_⟩
    rw [w.seichelaw07_ObjectNames_67]; unfold y.seichelaw07_ObjectNames_67
    simp only [yy, if_neg (show ¬ ((i : Int) < (sums.length : Int)) by omega), v_bsld hd, v_pushd (show sums.length + 1 ≤ Lim by omega), hk]
  | n + 1, i, hi => by
    have hlt : i < sums.length := by omega
    have hx := h32 _ (List.getElem_mem hlt)
    have hne : evp (.bin .neq .no) [a, b] = some (.bool (!decide (A = B))) := by rw [ha, hb]; exact v_sneq
    have hr : evp (.bin .rem .no) [.int .i64 (i : Int), .int .i64 3] = some (.int .i64 ((i % 3 : Nat) : Int)) := v_rem (k := 3) (by decide)
    have hr2 : evp (.bin .rem .no) [.int .i64 (sums.length : Int), .int .i64 3] = some (.int .i64 ((sums.length % 3 : Nat) : Int)) := v_rem (k := 3) (by decide)
    have ih := v.in67 a b q arr kinds X Y Z A B ha hb o k sums h32 hl d hd hk n (i + 1) (by omega)
    rw [w.seichelaw07_ObjectNames_67]; unfold y.seichelaw07_ObjectNames_67
    simp only [yy, if_pos (show (i : Int) < (sums.length : Int) by omega), v_eld hlt, v_ld32 hx, v_cat32 hx, v_feq hx hd, next64 hlt (by omega)]
    by_cases h1 : sums[i] = d
    · rw [if_pos h1]
      simp only [yy, hne]
      by_cases h2 : A = B
      · rw [if_pos h2]
        simp only [yy, hr, hr2]
        by_cases h3 : ((i % 3 : Nat) : Int) = ((sums.length % 3 : Nat) : Int)
        · rw [if_pos h3]
          rcases ih with ih | ⟨ih1, ih2⟩
          · exact .inl ih
          · refine .inr ⟨fun j h hj hjd => ?_, ih2⟩
            by_cases hji : j = i
            · subst hji; exact ⟨h2, by omega⟩
            · exact ih1 j h (by omega) hjd
        · rw [if_neg h3]; exact .inl rfl
      · rw [if_neg h2]; exact .inl rfl
    · rw [if_neg h1]
      rcases ih with ih | ⟨ih1, ih2⟩
      · exact .inl ih
      · refine .inr ⟨fun j h hj hjd => ?_, ih2⟩
        by_cases hji : j = i
        · subst hji; exact absurd hjd h1
        · exact ih1 j h (by omega) hjd
theorem v.step (X Y Z arr kinds : V) (A B Q kd : Bytes) (o k : Int) (sums : List Bytes) (h32 : ∀ x ∈ sums, x.length = 32) (hl : sums.length ≤ 100) (hk0 : IntKind.i64.wrap (k + 1) = k + 1) (hk3 : k < 3) (hkd : evp (.idxa 3 1 none) [kinds, .int .i64 k] = some (.str kd)) (hkl : kd.length ≤ 100) (hQ : Q.length ≤ 100000000) :
    vl e 3 50 [.str A, .str B, dl sums, .str Q, arr, I o, kinds, I k, X, Y, Z] = some (.bool true) ∨
    ((∀ j (h : j < sums.length), sums[j] = nameD kd Q → A = B ∧ j % 3 = sums.length % 3) ∧
      vl e 3 50 [.str A, .str B, dl sums, .str Q, arr, I o, kinds, I k, X, Y, Z] = vl e 3 50 [.str A, .str B, dl (sums ++ [nameD kd Q]), .str Q, arr, I o, kinds, I (k + 1), X, Y, Z]) := by
  have h50 : vl e 3 50 [.str A, .str B, dl sums, .str Q, arr, I o, kinds, I k, X, Y, Z] = vl e 3 67 [.str A, .str B, dl sums, .str Q, arr, I o, kinds, I k, dl sums, I sums.length, I ((0 : Nat) : Int), X, Y, Z, bl (nameD kd Q)] := by
    rw [w.seichelaw07_ObjectNames_50]; unfold y.seichelaw07_ObjectNames_50
    simp only [yy, if_pos hk3, hkd, v.refSum kd Q hkl hQ, v_cat32 (nameD_len kd Q)]
    rfl
  rw [h50]
  rcases v.in67 (e := e) (.str A) (.str B) (.str Q) arr kinds X Y Z A B rfl rfl o k sums h32 hl (nameD kd Q) (nameD_len kd Q) hk0 sums.length 0 (Nat.zero_add _) with h | ⟨h1, h2⟩
  · exact .inl h
  · exact .inr ⟨fun j h hj => h1 j h (Nat.zero_le _) hj, h2⟩
def kB : Bytes := [98, 108, 111, 98]
def kT : Bytes := [116, 114, 101, 101]
def kC : Bytes := [99, 111, 109, 109, 105, 116]
theorem v.Blob (s : Bytes) (hs : s.length ≤ 100000000) : vl e 8 0 [.str s] = some (bl (nameD kB s)) := by
  rw [w.object_Blob]; unfold y.object_Blob
  have h := v.shaSum (e := e) kB s (by decide) hs
  simp only [yy, v_bsl1]
  refine bind_eq h ?_
  simp only [yy, v_cat32 (nameD_len kB s)]
theorem v.TreeName (s : Bytes) (hs : s.length ≤ 100000000) : vl e 9 0 [.str s] = some (bl (nameD kT s)) := by
  rw [w.object_TreeName]; unfold y.object_TreeName
  have h := v.shaSum (e := e) kT s (by decide) hs
  simp only [yy, v_bsl1]
  refine bind_eq h ?_
  simp only [yy, v_cat32 (nameD_len kT s)]
theorem v.CommitName (s : Bytes) (hs : s.length ≤ 100000000) : vl e 10 0 [.str s] = some (bl (nameD kC s)) := by
  rw [w.object_CommitName]; unfold y.object_CommitName
  have h := v.shaSum (e := e) kC s (by decide) hs
  simp only [yy, v_bsl1]
  refine bind_eq h ?_
  simp only [yy, v_cat32 (nameD_len kC s)]
theorem v.three50 (X Y Z arr kinds : V) (A B Q : Bytes) (o : Int) (sums : List Bytes) (h32 : ∀ x ∈ sums, x.length = 32) (hl : sums.length ≤ 50) (hkinds : kinds = .agg [.str kB, .str kT, .str kC]) (ho : IntKind.i64.wrap (o + 1) = o + 1) (hQ : Q.length ≤ 100000000) :
    vl e 3 50 [.str A, .str B, dl sums, .str Q, arr, I o, kinds, I 0, X, Y, Z] = some (.bool true) ∨
    ((∀ j (h : j < sums.length), sums[j] = nameD kB Q → A = B ∧ j % 3 = sums.length % 3) ∧ (∀ j (h : j < (sums ++ [nameD kB Q]).length), (sums ++ [nameD kB Q])[j] = nameD kT Q → A = B ∧ j % 3 = (sums.length + 1) % 3) ∧ (∀ j (h : j < (sums ++ [nameD kB Q] ++ [nameD kT Q]).length), (sums ++ [nameD kB Q] ++ [nameD kT Q])[j] = nameD kC Q → A = B ∧ j % 3 = (sums.length + 2) % 3) ∧
      vl e 3 50 [.str A, .str B, dl sums, .str Q, arr, I o, kinds, I 0, X, Y, Z] = vl e 3 36 [.str A, .str B, dl (sums ++ [nameD kB Q] ++ [nameD kT Q] ++ [nameD kC Q]), arr, I (o + 1), X, Y, Z]) := by
  subst hkinds
  have n1 := nameD_len kB Q; have n2 := nameD_len kT Q
  rcases v.step (e := e) X Y Z arr (.agg [.str kB, .str kT, .str kC]) A B Q kB o 0 sums h32 (by omega) rfl (by decide) rfl (by decide) hQ with h | ⟨c1, s1⟩
  · exact .inl h
  have s1 : _ = vl e 3 50 [.str A, .str B, dl (sums ++ [nameD kB Q]), .str Q, arr, I o, .agg [.str kB, .str kT, .str kC], I 1, X, Y, Z] := s1
  have m1 : ∀ x ∈ sums ++ [nameD kB Q], x.length = 32 := fun x hx => by
    rcases List.mem_append.1 hx with h | h
    · exact h32 x h
    · rw [List.mem_singleton.1 h]; exact n1
  rw [s1]
  rcases v.step (e := e) X Y Z arr (.agg [.str kB, .str kT, .str kC]) A B Q kT o 1 (sums ++ [nameD kB Q]) m1 (by simp; omega) rfl (by decide) rfl (by decide) hQ with h | ⟨c2, s2⟩
  · exact .inl h
  have s2 : _ = vl e 3 50 [.str A, .str B, dl (sums ++ [nameD kB Q] ++ [nameD kT Q]), .str Q, arr, I o, .agg [.str kB, .str kT, .str kC], I 2, X, Y, Z] := s2
  have m2 : ∀ x ∈ sums ++ [nameD kB Q] ++ [nameD kT Q], x.length = 32 := fun x hx => by
    rcases List.mem_append.1 hx with h | h
    · exact m1 x h
    · rw [List.mem_singleton.1 h]; exact n2
  rw [s2]
  rcases v.step (e := e) X Y Z arr (.agg [.str kB, .str kT, .str kC]) A B Q kC o 2 (sums ++ [nameD kB Q] ++ [nameD kT Q]) m2 (by simp; omega) rfl (by decide) rfl (by decide) hQ with h | ⟨c3, s3⟩
  · exact .inl h
  have s3 : _ = vl e 3 50 [.str A, .str B, dl (sums ++ [nameD kB Q] ++ [nameD kT Q] ++ [nameD kC Q]), .str Q, arr, I o, .agg [.str kB, .str kT, .str kC], I 3, X, Y, Z] := s3
  rw [s3]
  refine .inr ⟨c1, fun j h hj => ?_, fun j h hj => ?_, ?_⟩
  · have := c2 j h hj; simpa using this
  · have := c3 j h hj; simpa using this
  · rw [w.seichelaw07_ObjectNames_50]; unfold y.seichelaw07_ObjectNames_50
    simp only [yy, ho]
    rw [if_neg (by decide)]
theorem p_objectNames (A B : Bytes) (_ : (V.str A).wt ≤ 1048576) (_ : (V.str B).wt ≤ 1048576) : vl e 3 0 [.str A, .str B] = some (.bool true) := by
  rw [w.seichelaw07_ObjectNames]; unfold y.seichelaw07_ObjectNames
  have hA : A.length ≤ 1048576 := by
    have h : (V.str A).wt ≤ 1048576 := by assumption
    simp only [V.wt] at h; omega
  have hB : B.length ≤ 1048576 := by
    have h : (V.str B).wt ≤ 1048576 := by assumption
    simp only [V.wt] at h; omega
  have e1 : IntKind.i64.wrap ((A.length : Int) + (B.length : Int)) = ((A.length + B.length : Nat) : Int) := by rw [w64 _ (by omega)]; omega
  by_cases hg : 4096 < A.length + B.length
  · simp only [yy, v.alive7, e1, if_pos (show (4096 : Int) < ((A.length + B.length : Nat) : Int) by omega)]
  · have rB := v.refSum (e := e) kB A (by decide) (by omega)
    have rT := v.refSum (e := e) kT A (by decide) (by omega)
    have rC := v.refSum (e := e) kC A (by decide) (by omega)
    have nB := nameD_len kB A; have nT := nameD_len kT A; have nC := nameD_len kC A
    have mB := nameD_len kB B; have mT := nameD_len kT B; have mC := nameD_len kC B
    simp only [yy, v.alive7, e1, if_neg (show ¬ ((4096 : Int) < ((A.length + B.length : Nat) : Int)) by omega), v.Blob A (by omega), v.TreeName A (by omega), v.CommitName A (by omega), v_cat32 nB, v_cat32 nT, v_cat32 nC]
    refine bind_eq rB ?_
    simp only [yy, v_fne nB nB, if_true]
    refine bind_eq rT ?_
    simp only [yy, v_fne nT nT, if_true]
    refine bind_eq rC ?_
    simp only [yy, v_fne nC nC, decide_true]
    rw [w.seichelaw07_ObjectNames_25]; unfold y.seichelaw07_ObjectNames_25
    have hc2 : evp (.cat [none, none]) [.str A, .str B] = some (.agg [.str A, .str B]) := rfl
    simp only [yy, hc2]
    have hk : ∀ i, evp (.cat [none, none, none]) [.str kB, .str kT, .str kC] = some (.agg [.str kB, .str kT, .str kC]) := fun _ : Nat => rfl
    have h36 : ∀ (sums : List Bytes) (o : Int) (Q : Bytes), o < 2 → evp (.idxa 2 1 none) [.agg [.str A, .str B], .int .i64 o] = some (.str Q) → vl e 3 36 [.str A, .str B, dl sums, .agg [.str A, .str B], I o, bl (nameD kB A), bl (nameD kT A), bl (nameD kC A)] =
        vl e 3 50 [.str A, .str B, dl sums, .str Q, .agg [.str A, .str B], I o, .agg [.str kB, .str kT, .str kC], I 0, bl (nameD kB A), bl (nameD kT A), bl (nameD kC A)] := by
      intro sums o Q ho hq
      rw [w.seichelaw07_ObjectNames_36]; unfold y.seichelaw07_ObjectNames_36
      simp only [yy, if_pos ho, hq]
      exact bind_eq (hk 0) rfl
    refine (h36 [] 0 A (by decide) rfl).trans ?_
    rcases v.three50 (e := e) (bl (nameD kB A)) (bl (nameD kT A)) (bl (nameD kC A)) (.agg [.str A, .str B]) _ A B A 0 [] (fun _ h => nomatch h) (by decide) rfl rfl (by omega) with h | ⟨_, _, _, s1⟩
    · exact h
    rw [s1]
    refine (h36 _ 1 B (by decide) rfl).trans ?_
    have hm3 : ∀ x ∈ [nameD kB A, nameD kT A, nameD kC A], x.length = 32 := fun x hx => by
      rcases List.mem_cons.1 hx with h | hx
      · rw [h]; exact nB
      rcases List.mem_cons.1 hx with h | hx
      · rw [h]; exact nT
      rw [List.mem_singleton.1 hx]; exact nC
    rcases v.three50 (e := e) (bl (nameD kB A)) (bl (nameD kT A)) (bl (nameD kC A)) (.agg [.str A, .str B]) _ A B B 1 [nameD kB A, nameD kT A, nameD kC A] hm3 (show 3 ≤ 50 by decide) rfl rfl (by omega) with h | ⟨c1, c2, c3, s2⟩
    · exact h
    refine s2.trans ?_
    rw [w.seichelaw07_ObjectNames_36]; unfold y.seichelaw07_ObjectNames_36
    have q0 : nameD kB A = nameD kB B ↔ A = B := ⟨fun h => (c1 0 (show 0 < 3 by decide) h).1, fun h => by rw [h]⟩
    have q1 : nameD kT A = nameD kT B ↔ A = B := ⟨fun h => (c2 1 (show 1 < 4 by decide) h).1, fun h => by rw [h]⟩
    have q2 : nameD kC A = nameD kC B ↔ A = B := ⟨fun h => (c3 2 (show 2 < 5 by decide) h).1, fun h => by rw [h]⟩
    have q3 : ¬ nameD kB A = nameD kT B := fun h => absurd (c2 0 (show 0 < 4 by decide) h).2 (show ¬ 0 % 3 = (3 + 1) % 3 by decide)
    have q4 : ¬ nameD kT A = nameD kC B := fun h => absurd (c3 1 (show 1 < 5 by decide) h).2 (show ¬ 1 % 3 = (3 + 2) % 3 by decide)
    have q5 : ¬ nameD kC A = nameD kB B := fun h => absurd (c1 2 (show 2 < 3 by decide) h).2 (show ¬ 2 % 3 = 3 % 3 by decide)
    have b0 : (decide (nameD kB A = nameD kB B) == decide (A = B)) = true := by simp [q0]
    have b1 : (decide (nameD kT A = nameD kT B) == decide (A = B)) = true := by simp [q1]
    have b2 : (decide (nameD kC A = nameD kC B) == decide (A = B)) = true := by simp [q2]
    simp only [yy, if_neg (show ¬ ((1 : Int) + 1 < 2) by decide), v.Blob B (by omega), v.TreeName B (by omega), v.CommitName B (by omega), v_feq nB mB, v_feq nT mT, v_feq nC mC, v_fne nB mT, v_fne nT mC, v_fne nC mB, b0, b1, b2, if_neg q3, if_neg q4, decide_eq_false q5]
end Go.Proofs.YtghjeddphkmciaaDoor
/-
  Ext, part 2: the world of a call; the words for one seat. Own work of this seat.
-/
namespace Go.Proofs.YtghjeddphkmciaaDoor
open Go.Abs Go.RowKit

noncomputable def cxD (w : World) : Cx := ⟨Tryd.prog, w, fun _ => none⟩
theorem mixed : Tryd.prog.follows .mixedOrders = true := by kernel_rfl
theorem glD (w : World) : GlOK (cxD w) := fun g cs h => by cases h
def HasMax (w : World) : Prop := ∃ m, w.cell? ⟨1, 0, none⟩ = some (.int .i64 m)
structure EnvOK (w : World) : Prop where
  max : HasMax w
end Go.Proofs.YtghjeddphkmciaaDoor
/-
  GL: package tables that a row's premise lays: what they read as. Own work of this seat.
-/
namespace Go.Proofs.YtghjeddphkmciaaDoor
open Go.Abs Go.RowKit Go.ChangeShapes Go.WideShapes
section
variable {P : Program} {w : World}
theorem laid_mem {n : String} {d : DataW Unit} : ∀ {l : List (String × DataW Unit)} {ps : List MemPlace}, DataW.LaidVars P w l ps → (n, d) ∈ l →
    ∃ g t cs fuel p, P.globalNamed n = some g ∧ (P.globals[g]?).map (·.type) = some t ∧ w.var? P n = some cs ∧ DataW.trod (fun _ => ()) P w 0 (fun _ => true) false fuel t cs.toList = some (d, p)
  | [], _, _, h => by cases h
  | (m, c) :: r, ps, hl, h => by
    obtain ⟨g, t, cs, fuel, p, q, h1, h2, h3, h4, h5, _⟩ := hl
    rcases List.mem_cons.1 h with e | h
    · cases e; exact ⟨g, t, cs, fuel, p, h1, h2, h3, h4⟩
    · exact laid_mem h5 h
theorem var_cells {n : String} {g : Nat} {cs : Array Value} (hg : P.globalNamed n = some g) (h : w.var? P n = some cs) : ∃ t x, w.heap[g]? = some (.cells cs t x) := by
  unfold World.var? at h
  rw [hg, Option.bind_some] at h
  split at h
  · rename_i c t x hx; cases h; exact ⟨t, x, hx⟩
  · cases h
theorem trod_int {enc : TypeId × Value → Unit} {held : Bool} {fuel : Nat} {e : TypeId} {k k' : IntKind} {cs : List Value} {n : Int} {p : List MemPlace} (he : P.underlying e = some (.int k)) (h : DataW.trod enc P w 0 (fun _ => true) held fuel e cs = some (.lit (.int k' n), p)) : cs = [.int k n] ∧ k' = k := by
  cases fuel with
  | zero => simp [DataW.trod] at h
  | succ m =>
    unfold DataW.trod at h
    rw [he] at h
    split at h <;> simp_all
theorem trod_str {enc : TypeId × Value → Unit} {held : Bool} {fuel : Nat} {e : TypeId} {cs : List Value} {s : Bytes} {p : List MemPlace} (he : P.underlying e = some .string) (h : DataW.trod enc P w 0 (fun _ => true) held fuel e cs = some (.lit (.string s), p)) : ∃ b : ByteArray, cs = [.string b] ∧ b.data.toList = s := by
  cases fuel with
  | zero => simp [DataW.trod] at h
  | succ m =>
    unfold DataW.trod at h
    rw [he] at h
    split at h <;> simp_all
/-- a table of numbers -/
theorem gl_ints {laid : List (String × DataW Unit)} {n : String} {d : DataW Unit} {g : Nat} {t e : TypeId} {k : IntKind} {m : Nat} (ns : List Int) (h : laidMet P laid w) (hm : (n, d) ∈ laid) (hg : P.globalNamed n = some g) (ht : (P.globals[g]?).map (·.type) = some t)
    (hu : P.underlying t = some (.array m e)) (he : P.underlying e = some (.int k)) (hc : P.cellsOf e = 1) (hct : P.cellsOf t = ns.length) (hd : d = .agg (ns.map fun i => .lit (.int k i))) : Row w (G0 w) (fun _ => none) (ns.map (V.int k)) g 0 ∧ (ns.map (V.int k)).length ≤ G0 w g := by
  obtain ⟨ps, hl, _, _⟩ := h
  obtain ⟨g', t', cs, fuel, p, h1, h2, h3, h4⟩ := laid_mem hl hm
  rw [hg] at h1; cases h1
  rw [ht] at h2; cases h2
  obtain ⟨t1, x1, hh⟩ := var_cells hg h3
  obtain ⟨xs, fu, _, hx, hlen, hxl, hel⟩ := DataW.trod_array hu h4
  have hxs : xs.map (·.1) = ns.map fun i => (DataW.lit (.int k i) : DataW Unit) := by
    have := (Prod.mk.inj hx).1
    rw [hd] at this
    exact (DataW.agg.inj this).symm
  have hnl : xs.length = ns.length := by have := congrArg List.length hxs; simpa using this
  have hsz : cs.size = ns.length := by rw [← hct, ← hlen]; simp
  have hcell : ∀ i, (hi : i < ns.length) → cs[i]? = some (.int k ns[i]) := by
    intro i hi
    have h5 := hel i (by omega)
    rw [hc, Nat.mul_one, List.getElem?_eq_getElem (by omega)] at h5
    have h6 : xs[i].1 = DataW.lit (.int k ns[i]) := by
      have h7 : (xs.map (·.1))[i]? = (ns.map fun i => (DataW.lit (.int k i) : DataW Unit))[i]? := by rw [hxs]
      rw [List.getElem?_map, List.getElem?_map, List.getElem?_eq_getElem (by omega), List.getElem?_eq_getElem hi] at h7
      simpa using h7
    obtain ⟨h8, _⟩ := trod_int (n := ns[i]) (p := xs[i].2) (k' := k) he (by rw [h5]; exact congrArg some (Prod.ext h6 rfl))
    have hi' : i < cs.toList.length := by simp; omega
    rw [List.drop_eq_getElem_cons hi', List.take_succ_cons, List.take_zero] at h8
    have h9 := (List.cons.inj h8).1
    rw [Array.getElem?_eq_getElem (by omega)]
    simpa using h9
  refine ⟨⟨fun c hc => ?_, fun i c hc => ?_⟩, ?_⟩
  · obtain ⟨j, _, rfl⟩ := List.mem_map.1 hc; rfl
  · rw [List.getElem?_map] at hc
    obtain ⟨j, hj, rfl⟩ := Option.map_eq_some_iff.1 hc
    obtain ⟨hi, hj⟩ := List.getElem?_eq_some_iff.1 hj
    refine ⟨.int k j, ?_, .int k j⟩
    rw [Nat.zero_add]
    simp only [World.cell?, hh]
    rw [← hj]; exact hcell i hi
  · simp only [List.length_map, G0, hh]; omega
/-- a table of texts -/
theorem gl_strs {laid : List (String × DataW Unit)} {n : String} {d : DataW Unit} {g : Nat} {t e : TypeId} (ss : List Bytes) (h : laidMet P laid w) (hm : (n, d) ∈ laid) (hg : P.globalNamed n = some g) (ht : (P.globals[g]?).map (·.type) = some t)
    (hu : P.underlying t = some (.slice e)) (he : P.underlying e = some .string) (hc : P.cellsOf e = 1) (hd : ∃ r, d = .slice (ss.map fun s => .lit (.string s)) r) (hne : ss ≠ []) : Row w (G0 w) (fun _ => none) [.sl false 1 (ss.map V.str)] g 0 ∧ ([V.sl false 1 (ss.map V.str)] : List V).length ≤ G0 w g := by
  obtain ⟨ps, hl, _, _⟩ := h
  obtain ⟨g', t', cs, fuel, p, h1, h2, h3, h4⟩ := laid_mem hl hm
  rw [hg] at h1; cases h1
  rw [ht] at h2; cases h2
  obtain ⟨t1, x1, hh⟩ := var_cells hg h3
  obtain ⟨rr, hd⟩ := hd
  rcases DataW.trod_slice hu h4 with ⟨_, hx⟩ | ⟨a, len, cap, elems, rest, fu, _, hcs, hx, _, hlc, _, hel, hget, _, _⟩
  · have := (Prod.mk.inj hx).1; rw [hd] at this; cases this
  · have hxs : elems.map (·.1) = ss.map fun s => (DataW.lit (.string s) : DataW Unit) := by
      have := (Prod.mk.inj hx).1
      rw [hd] at this
      exact (DataW.slice.inj this).1.symm
    have hnl : elems.length = ss.length := by have := congrArg List.length hxs; simpa using this
    have hcell : ∀ i, (hi : i < ss.length) → ∃ b : ByteArray, w.cell? ((a.add i).add 0) = some (.string b) ∧ b.data.toList = ss[i] := by
      intro i hi
      have h5 := hget i (by omega)
      rw [hc, Nat.mul_one, List.getElem?_eq_getElem (by omega)] at h5
      obtain ⟨cc, h51, h52⟩ := Option.bind_eq_some_iff.1 h5
      have h6 : elems[i].1 = DataW.lit (.string ss[i]) := by
        have h7 : (elems.map (·.1))[i]? = (ss.map fun s => (DataW.lit (.string s) : DataW Unit))[i]? := by rw [hxs]
        rw [List.getElem?_map, List.getElem?_map, List.getElem?_eq_getElem (by omega), List.getElem?_eq_getElem hi] at h7
        simpa using h7
      obtain ⟨b, rfl, hb⟩ := trod_str (s := ss[i]) (p := elems[i].2) he (by rw [h52]; exact congrArg some (Prod.ext h6 rfl))
      refine ⟨b, ?_, hb⟩
      have h8 := (World.cells?_some h51).2.2 0 (by decide)
      simpa using h8
    have hpos : 0 < ss.length := List.length_pos_iff.2 hne
    obtain ⟨ab, ao, am⟩ := a
    have ham : am = none := by
      obtain ⟨b, hb, _⟩ := hcell 0 hpos
      unfold World.cell? at hb
      split at hb
      · cases am with
        | none => rfl
        | some _ => simp [Addr.add] at hb
      · cases hb
    subst ham
    have hcell : ∀ i, (hi : i < ss.length) → ∃ b : ByteArray, w.cell? ⟨ab, ao + i, none⟩ = some (.string b) ∧ b.data.toList = ss[i] := by
      intro i hi
      obtain ⟨b, h1, h2⟩ := hcell i hi
      rw [addr_add, addr_add, Nat.add_zero] at h1
      exact ⟨b, h1, h2⟩
    have hsz : cs = #[.slice (some ⟨ab, ao, none⟩) len cap] := by cases cs; simp_all
    refine ⟨⟨fun c hc => ?_, fun i c hc => ?_⟩, ?_⟩
    · obtain rfl := List.mem_singleton.1 hc; rfl
    · cases i with
      | succ i => simp at hc
      | zero =>
        simp at hc; subst hc
        refine ⟨.slice (some ⟨ab, ao, none⟩) len cap, by simp [World.cell?, hh, hsz], ?_⟩
        have hlen : (ss.map V.str).length = len := by simp; omega
        have hrep := Rep.sl (W := w) (G := G0 w) (φ := fun _ => none) 1 (ss.map V.str) ab ao cap (fun k => (w.cell? ⟨ab, ao + k, none⟩).getD undef) (by omega) ?_ ?_ ?_ ?_
        · rw [hlen] at hrep; exact hrep
        · obtain ⟨b, hb, _⟩ := hcell (ss.length - 1) (by omega)
          have := (cell_lt hb).2
          simp only [List.length_map, Nat.mul_one]; omega
        · intro x hx
          obtain ⟨s, _, rfl⟩ := List.mem_map.1 hx
          exact ⟨rfl, fun c hc => by obtain rfl := List.mem_singleton.1 hc; rfl⟩
        · intro k hk
          simp only [List.length_map, Nat.mul_one] at hk
          obtain ⟨b, hb, _⟩ := hcell k hk
          have hb' : w.cell? ⟨ab, ao + k, none⟩ = some (.string b) := hb
          rw [hb']; rfl
        · intro i x j c hx hj
          rw [List.getElem?_map] at hx
          obtain ⟨s, hs, rfl⟩ := Option.map_eq_some_iff.1 hx
          obtain ⟨hi, hs⟩ := List.getElem?_eq_some_iff.1 hs
          cases j with
          | succ j => simp [V.cells] at hj
          | zero =>
            simp [V.cells] at hj; subst hj
            obtain ⟨b, hb, hbs⟩ := hcell i hi
            have hb' : w.cell? ⟨ab, ao + (i * 1 + 0), none⟩ = some (.string b) := by rw [Nat.mul_one]; exact hb
            show Rep _ _ _ _ ((w.cell? ⟨ab, ao + (i * 1 + 0), none⟩).getD undef)
            rw [hb']; exact .str s b (by rw [hbs, hs])
    · simp only [G0, hh, hsz]; simp
end
/-! ## a world with tables -/
noncomputable def cxG (gls : Nat → Option (List V)) (w : World) : Cx := ⟨Tryd.prog, w, gls⟩
theorem okw_gl {gls : Nat → Option (List V)} {w W : World} {G : Nat → Nat} (h : OKW (cxG gls w) W G) : OKW (cxD w) W G := ⟨h.below, h.Glo, h.Gz⟩
theorem pc_gl {gls : Nat → Option (List V)} {w : World} {f : FuncId} {args : List V} {r : V × Bool} (h : PC (cxD w) f args r) : PC (cxG gls w) f args r := ⟨h.1, fun W G φ xs ho hr => h.2 W G φ xs (okw_gl ho) hr⟩
theorem hold_gl {gls : Nat → Option (List V)} {w : World} {c : FC} (h : c.Holds (cxD w)) : c.Holds (cxG gls w) := fun args y hr => by
  obtain ⟨v, o, h1, h2⟩ := h args y hr
  exact ⟨v, o, pc_gl h1, h2⟩
theorem gl_met {laid : List (String × DataW Unit)} {w : World} (h : laidMetH Tryd.prog laid w) (hn : (laid.filter fun x => x.2.handleName?.isSome) = []) : laidMet Tryd.prog laid w := by
  unfold laidMetH at h
  rw [hn] at h; exact h
end Go.Proofs.YtghjeddphkmciaaDoor
/-
  DERIVED: THE SHELF's CONTRACTS AT THIS DUMP, IN PLAIN WORDS (tools/lay-plain.mjs out of 'TrydShelf.lean', which tools/lay-shelf.mjs wrote): THE SAME DECLARATIONS UNDER THE SAME NAMES: 'import', 'namespace', 'open', 'def', 'theorem' AND NOTHING ELSE: no command of the shelf's: FOR A HAND-IN. Each laying: the table of numbers ('.._ren') and one theorem, a field a fact of the dump's own or the kernel's comparison; each contract: ONE APPLICATION.
-/
namespace Go.Proofs
open Go.Shelf
def Tryd.lays169_ren : Go.Shelf.Ren := ⟨fun | 169 => 85 | n => n, fun | 70 => 108 | 9 => 9 | 0 => 0 | 72 => 110 | 37 => 53 | 127 => 128 | 3 => 3 | 5 => 5 | n => n, fun | n => n⟩
theorem Tryd.lays169 : Go.Proofs.Lays.n169 Tryd.prog Tryd.lays169_ren := {
  mixed := by kernel_rfl
  f169 := Tryd.func85.trans (congrArg some (by kernel_rfl))
  t0 := Tryd.underlying0
  a0 := Tryd.isAgg0
  z0 := Tryd.sizeOf0
  v0 := Tryd.zeroValue0
  t3 := Tryd.underlying3
  a3 := Tryd.isAgg3
  z3 := Tryd.sizeOf3
  v3 := Tryd.zeroValue3
  t9 := Tryd.underlying9
  a9 := Tryd.isAgg9
  z9 := Tryd.sizeOf9
  v9 := Tryd.zeroValue9
  t37 := Tryd.underlying53
  a37 := Tryd.isAgg53
  z37 := Tryd.sizeOf53
  v37 := Tryd.zeroValue53
  t70 := Tryd.underlying108
  a70 := Tryd.isAgg108
  z70 := Tryd.sizeOf108
  v70 := Tryd.zeroValue108
  t72 := Tryd.underlying110
  a72 := Tryd.isAgg110
  z72 := Tryd.sizeOf110
  v72 := Tryd.zeroValue110
  t127 := Tryd.underlying128
  a127 := Tryd.isAgg128
  z127 := Tryd.sizeOf128
  v127 := Tryd.zeroValue128 }
theorem Tryd.Builder_Extra_169 : Builder.Extra Tryd.prog Tryd.lays169_ren := {
  sizeBuilder := by kernel_rfl
  liesBuilder := by kernel_rfl
  t5 := Tryd.underlying5
  a5 := Tryd.isAgg5
  z5 := Tryd.sizeOf5
  v5 := Tryd.zeroValue5
  infoByte := by kernel_rfl
  cellsByte := by kernel_rfl
  sizeByte := by kernel_rfl
  neB5 := by decide }
open Go.RowKit in
/-- (*strings.Builder).String: "String returns the accumulated string.": OF A BUILDER THAT HOLDS AT LEAST ONE BYTE. ✋ THE MODEL FREEZES THOSE BYTES IN THE BUFFER (unsafe.String): a later write INTO them ends the model's run without an answer; a later append BEHIND them goes on. The statement's order of evaluation is drawn: one draw. (LAID: no walk: one application.) -/
theorem Tryd.Builder_String (B b : Nat) (l : List UInt8) (w : World) (h : Lib.IsBuilder 110 5 B b (Lib.byteCells l) w) (h0 : l ≠ []) :
    Calls Tryd.prog 85 #[.pointer (some ⟨b, 0, none⟩)] w fun e w' => e = .returned (.string ⟨l.toArray⟩) ∧ Below B w w' := Any.Builder_String Tryd.lays169 Tryd.Builder_Extra_169 B b l w h h0
open Go.RowKit in
/-- (*strings.Builder).String OF A BUILDER THAT HOLDS NO BYTE: the empty string. (Its buffer is nil, or a row of which it has taken nothing yet; where that row has NO capacity the model lays one new block for unsafe.SliceData's 'some address'.) One draw. (LAID: no walk: one application.) -/
theorem Tryd.Builder_String_empty (B b : Nat) (w : World) (h : Lib.IsBuilder 110 5 B b [] w) (hBw : B ≤ w.heap.size) :
    Calls Tryd.prog 85 #[.pointer (some ⟨b, 0, none⟩)] w fun e w' => e = .returned (.string ⟨#[]⟩) ∧ Below B w w' := Any.Builder_String_empty Tryd.lays169 Tryd.Builder_Extra_169 B b w h hBw
open Go.RowKit in
/-- (*strings.Builder).String: "String returns the accumulated string.": WHATEVER THE BUILDER HOLDS. (LAID: no walk: one application.) -/
theorem Tryd.Builder_String_any (B b : Nat) (l : List UInt8) (w : World) (h : Lib.IsBuilder 110 5 B b (Lib.byteCells l) w) (hBw : B ≤ w.heap.size) :
    Calls Tryd.prog 85 #[.pointer (some ⟨b, 0, none⟩)] w fun e w' => e = .returned (.string ⟨l.toArray⟩) ∧ Below B w w' := Any.Builder_String_any Tryd.lays169 Tryd.Builder_Extra_169 B b l w h hBw
def Tryd.lays241_ren : Go.Shelf.Ren := ⟨fun | 241 => 102 | 277 => 115 | n => n, fun | 70 => 108 | 3 => 3 | 0 => 0 | 72 => 110 | 37 => 53 | 5 => 5 | n => n, fun | n => n⟩
theorem Tryd.lays241 : Go.Proofs.Lays.n241 Tryd.prog Tryd.lays241_ren := {
  mixed := by kernel_rfl
  f241 := Tryd.func102.trans (congrArg some (by kernel_rfl))
  f277 := Tryd.func115.trans (congrArg some (by kernel_rfl))
  t0 := Tryd.underlying0
  a0 := Tryd.isAgg0
  z0 := Tryd.sizeOf0
  v0 := Tryd.zeroValue0
  t3 := Tryd.underlying3
  a3 := Tryd.isAgg3
  z3 := Tryd.sizeOf3
  v3 := Tryd.zeroValue3
  t37 := Tryd.underlying53
  a37 := Tryd.isAgg53
  z37 := Tryd.sizeOf53
  v37 := Tryd.zeroValue53
  t70 := Tryd.underlying108
  a70 := Tryd.isAgg108
  z70 := Tryd.sizeOf108
  v70 := Tryd.zeroValue108
  t72 := Tryd.underlying110
  a72 := Tryd.isAgg110
  z72 := Tryd.sizeOf110
  v72 := Tryd.zeroValue110 }
theorem Tryd.Builder_Extra_241 : Builder.Extra Tryd.prog Tryd.lays241_ren := {
  sizeBuilder := by kernel_rfl
  liesBuilder := by kernel_rfl
  t5 := Tryd.underlying5
  a5 := Tryd.isAgg5
  z5 := Tryd.sizeOf5
  v5 := Tryd.zeroValue5
  infoByte := by kernel_rfl
  cellsByte := by kernel_rfl
  sizeByte := by kernel_rfl
  neB5 := by decide }
open Go.RowKit in
/-- (*strings.Builder).grow (no doc but "grow copies the buffer to a new, larger buffer so that there are at least n bytes of capacity beyond len(b.buf)."): AT A BUILDER WITHOUT A BUFFER: a new row of whatever bytes for its buffer, none of them its own yet. Three draws. (LAID: no walk: one application.) -/
theorem Tryd.Builder_grow_fresh (B b n : Nat) (w : World) (hB : B ≤ b) (hbk : w.heap[b]? = some (.cells #[.pointer (some ⟨b, 0, none⟩), .slice none 0 0] 110 (0, 0))) (hBw : B ≤ w.heap.size) (hn : n ≤ 281474976710656) :
    Calls Tryd.prog 102 #[.pointer (some ⟨b, 0, none⟩), .int .i64 n] w fun e w' => e = .returned (.tuple #[]) ∧ (Lib.BuilderAt 110 5 B b (.pointer (some ⟨b, 0, none⟩)) [] w' ∧ Below B w w') := Any.Builder_grow_fresh Tryd.lays241 Tryd.Builder_Extra_241 B b n w hB hbk hBw hn
def Tryd.lays165_ren : Go.Shelf.Ren := ⟨fun | 165 => 83 | 240 => 101 | 241 => 102 | 276 => 114 | 277 => 115 | n => n, fun | 70 => 108 | 3 => 3 | 0 => 0 | 4 => 4 | 9 => 9 | 20 => 20 | 72 => 110 | 37 => 53 | 164 => 131 | 5 => 5 | n => n, fun | n => n⟩
theorem Tryd.lays165 : Go.Proofs.Lays.n165 Tryd.prog Tryd.lays165_ren := {
  mixed := by kernel_rfl
  f165 := Tryd.func83.trans (congrArg some (by kernel_rfl))
  f240 := Tryd.func101.trans (congrArg some (by kernel_rfl))
  f241 := Tryd.func102.trans (congrArg some (by kernel_rfl))
  f276 := Tryd.func114.trans (congrArg some (by kernel_rfl))
  f277 := Tryd.func115.trans (congrArg some (by kernel_rfl))
  t0 := Tryd.underlying0
  a0 := Tryd.isAgg0
  z0 := Tryd.sizeOf0
  v0 := Tryd.zeroValue0
  t3 := Tryd.underlying3
  a3 := Tryd.isAgg3
  z3 := Tryd.sizeOf3
  v3 := Tryd.zeroValue3
  t4 := Tryd.underlying4
  a4 := Tryd.isAgg4
  z4 := Tryd.sizeOf4
  v4 := Tryd.zeroValue4
  t9 := Tryd.underlying9
  a9 := Tryd.isAgg9
  z9 := Tryd.sizeOf9
  v9 := Tryd.zeroValue9
  t20 := Tryd.underlying20
  a20 := Tryd.isAgg20
  z20 := Tryd.sizeOf20
  v20 := Tryd.zeroValue20
  t37 := Tryd.underlying53
  a37 := Tryd.isAgg53
  z37 := Tryd.sizeOf53
  v37 := Tryd.zeroValue53
  t70 := Tryd.underlying108
  a70 := Tryd.isAgg108
  z70 := Tryd.sizeOf108
  v70 := Tryd.zeroValue108
  t72 := Tryd.underlying110
  a72 := Tryd.isAgg110
  z72 := Tryd.sizeOf110
  v72 := Tryd.zeroValue110
  t164 := Tryd.underlying131
  a164 := Tryd.isAgg131
  z164 := Tryd.sizeOf131
  v164 := Tryd.zeroValue131 }
theorem Tryd.Builder_Extra_165 : Builder.Extra Tryd.prog Tryd.lays165_ren := {
  sizeBuilder := by kernel_rfl
  liesBuilder := by kernel_rfl
  t5 := Tryd.underlying5
  a5 := Tryd.isAgg5
  z5 := Tryd.sizeOf5
  v5 := Tryd.zeroValue5
  infoByte := by kernel_rfl
  cellsByte := by kernel_rfl
  sizeByte := by kernel_rfl
  neB5 := by decide }
open Go.RowKit in
/-- (*strings.Builder).Grow AT A BUILDER THAT HAS NOT BEEN WRITTEN ('var b strings.Builder; b.Grow(n)'): "Grow grows b's capacity, if necessary, to guarantee space for another n bytes.": it holds no byte behind it as before it. (LAID: no walk: one application.) -/
theorem Tryd.Builder_Grow_fresh (B b n : Nat) (w : World) (hB : B ≤ b) (hbk : w.heap[b]? = some (.cells #[.pointer none, .slice none 0 0] 110 (0, 0))) (hBw : B ≤ w.heap.size) (hn : n ≤ 281474976710656) :
    Calls Tryd.prog 83 #[.pointer (some ⟨b, 0, none⟩), .int .i64 n] w fun e w' => e = .returned (.tuple #[]) ∧ (Lib.BuilderAt 110 5 B b (.pointer (some ⟨b, 0, none⟩)) [] w' ∧ Below B w w') := Any.Builder_Grow_fresh Tryd.lays165 Tryd.Builder_Extra_165 B b n w hB hbk hBw hn
def Tryd.lays156_ren : Go.Shelf.Ren := ⟨fun | 156 => 61 | 165 => 83 | 166 => 84 | 169 => 85 | 240 => 101 | 241 => 102 | 276 => 114 | 277 => 115 | n => n, fun | 31 => 31 | 9 => 9 | 3 => 3 | 4 => 4 | 0 => 0 | 20 => 20 | 72 => 110 | 76 => 114 | 70 => 108 | 37 => 53 | 75 => 113 | 127 => 128 | 164 => 131 | 5 => 5 | 80 => 116 | n => n, fun | n => n⟩
theorem Tryd.lays156 : Go.Proofs.Lays.n156 Tryd.prog Tryd.lays156_ren := {
  mixed := by kernel_rfl
  f156 := Tryd.func61.trans (congrArg some (by kernel_rfl))
  f165 := Tryd.func83.trans (congrArg some (by kernel_rfl))
  f166 := Tryd.func84.trans (congrArg some (by kernel_rfl))
  f169 := Tryd.func85.trans (congrArg some (by kernel_rfl))
  f240 := Tryd.func101.trans (congrArg some (by kernel_rfl))
  f241 := Tryd.func102.trans (congrArg some (by kernel_rfl))
  f276 := Tryd.func114.trans (congrArg some (by kernel_rfl))
  f277 := Tryd.func115.trans (congrArg some (by kernel_rfl))
  t0 := Tryd.underlying0
  a0 := Tryd.isAgg0
  z0 := Tryd.sizeOf0
  v0 := Tryd.zeroValue0
  t3 := Tryd.underlying3
  a3 := Tryd.isAgg3
  z3 := Tryd.sizeOf3
  v3 := Tryd.zeroValue3
  t4 := Tryd.underlying4
  a4 := Tryd.isAgg4
  z4 := Tryd.sizeOf4
  v4 := Tryd.zeroValue4
  t9 := Tryd.underlying9
  a9 := Tryd.isAgg9
  z9 := Tryd.sizeOf9
  v9 := Tryd.zeroValue9
  t20 := Tryd.underlying20
  a20 := Tryd.isAgg20
  z20 := Tryd.sizeOf20
  v20 := Tryd.zeroValue20
  t31 := Tryd.underlying31
  a31 := Tryd.isAgg31
  z31 := Tryd.sizeOf31
  v31 := Tryd.zeroValue31
  t37 := Tryd.underlying53
  a37 := Tryd.isAgg53
  z37 := Tryd.sizeOf53
  v37 := Tryd.zeroValue53
  t70 := Tryd.underlying108
  a70 := Tryd.isAgg108
  z70 := Tryd.sizeOf108
  v70 := Tryd.zeroValue108
  t72 := Tryd.underlying110
  a72 := Tryd.isAgg110
  z72 := Tryd.sizeOf110
  v72 := Tryd.zeroValue110
  t75 := Tryd.underlying113
  a75 := Tryd.isAgg113
  z75 := Tryd.sizeOf113
  v75 := Tryd.zeroValue113
  t76 := Tryd.underlying114
  a76 := Tryd.isAgg114
  z76 := Tryd.sizeOf114
  v76 := Tryd.zeroValue114
  t127 := Tryd.underlying128
  a127 := Tryd.isAgg128
  z127 := Tryd.sizeOf128
  v127 := Tryd.zeroValue128
  t164 := Tryd.underlying131
  a164 := Tryd.isAgg131
  z164 := Tryd.sizeOf131
  v164 := Tryd.zeroValue131 }
theorem Tryd.Builder_Extra_156 : Builder.Extra Tryd.prog Tryd.lays156_ren := {
  sizeBuilder := by kernel_rfl
  liesBuilder := by kernel_rfl
  t5 := Tryd.underlying5
  a5 := Tryd.isAgg5
  z5 := Tryd.sizeOf5
  v5 := Tryd.zeroValue5
  infoByte := by kernel_rfl
  cellsByte := by kernel_rfl
  sizeByte := by kernel_rfl
  neB5 := by decide }
open Go.RowKit in
/-- No element: the empty string; the world is as it was. (Whatever the slice's address and capacity: a nil slice too.) (LAID: no walk: one application.) -/
theorem Tryd.strings_Join_none (a : Option Addr) (c : Nat) (sep : ByteArray) (w : World) :
    Calls Tryd.prog 61 #[.slice a 0 c, .string sep] w fun e w' => e = .returned (.string ⟨#[]⟩) ∧ w' = w := Any.strings_Join_none Tryd.lays156 Tryd.Builder_Extra_156 a c sep w
open Go.RowKit in
/-- strings.Join: "Join concatenates the elements of its first argument to create a single string. The separator string sep is placed between elements in the resulting string.": HOWEVER MANY ELEMENTS. Below the heap's end the world is as it was. (LAID: no walk: one application.) -/
theorem Tryd.strings_Join (bk o c : Nat) (xs : List ByteArray) (sep : ByteArray) (w : World) (hcells : ∀ (j : Nat) x, xs[j]? = some x → w.cell? ⟨bk, o + j, none⟩ = some (.string x)) (hbk : bk < w.heap.size) (hN : xs.length ≤ 140737488355328) (hcap : xs.length ≤ c) (hlen : (Lib.join (xs.map (·.data.toList)) sep.data.toList).length ≤ 140737488355328) :
    Calls Tryd.prog 61 #[.slice (some ⟨bk, o, none⟩) xs.length c, .string sep] w fun e w' => e = .returned (.string ⟨(Lib.join (xs.map (·.data.toList)) sep.data.toList).toArray⟩) ∧ Below w.heap.size w w' := Any.strings_Join Tryd.lays156 Tryd.Builder_Extra_156 bk o c xs sep w hcells hbk hN hcap hlen
def Tryd.lays210_ren : Go.Shelf.Ren := ⟨fun | 210 => 103 | 206 => 53 | n => n, fun | 9 => 9 | 4 => 4 | 3 => 3 | n => n, fun | n => n⟩
theorem Tryd.lays210 : Go.Proofs.Lays.n210 Tryd.prog Tryd.lays210_ren := {
  mixed := by kernel_rfl
  f206 := Tryd.func53.trans (congrArg some (by kernel_rfl))
  f210 := Tryd.func103.trans (congrArg some (by kernel_rfl))
  t3 := Tryd.underlying3
  a3 := Tryd.isAgg3
  z3 := Tryd.sizeOf3
  v3 := Tryd.zeroValue3
  t4 := Tryd.underlying4
  a4 := Tryd.isAgg4
  z4 := Tryd.sizeOf4
  v4 := Tryd.zeroValue4
  t9 := Tryd.underlying9
  a9 := Tryd.isAgg9
  z9 := Tryd.sizeOf9
  v9 := Tryd.zeroValue9 }
open Go.RowKit in
/-- internal/stringslite.CutPrefix (what strings.CutPrefix calls). (LAID: no walk: one application.) -/
theorem Tryd.stringslite_CutPrefix (s p : ByteArray) (w : World) :
    Calls Tryd.prog 103 #[.string s, .string p] w fun e w' => e = .returned (.tuple #[.string ⟨(Lib.trimPrefix s.data.toList p.data.toList).toArray⟩, .bool (Lib.hasPrefix s.data.toList p.data.toList)]) ∧ w' = w := Any.stringslite_CutPrefix Tryd.lays210 s p w
def Tryd.lays103_ren : Go.Shelf.Ren := ⟨fun | 103 => 86 | 210 => 103 | 206 => 53 | n => n, fun | 9 => 9 | 4 => 4 | 24 => 58 | 3 => 3 | n => n, fun | n => n⟩
theorem Tryd.lays103 : Go.Proofs.Lays.n103 Tryd.prog Tryd.lays103_ren := {
  mixed := by kernel_rfl
  f103 := Tryd.func86.trans (congrArg some (by kernel_rfl))
  f206 := Tryd.func53.trans (congrArg some (by kernel_rfl))
  f210 := Tryd.func103.trans (congrArg some (by kernel_rfl))
  t3 := Tryd.underlying3
  a3 := Tryd.isAgg3
  z3 := Tryd.sizeOf3
  v3 := Tryd.zeroValue3
  t4 := Tryd.underlying4
  a4 := Tryd.isAgg4
  z4 := Tryd.sizeOf4
  v4 := Tryd.zeroValue4
  t9 := Tryd.underlying9
  a9 := Tryd.isAgg9
  z9 := Tryd.sizeOf9
  v9 := Tryd.zeroValue9
  t24 := Tryd.underlying58
  a24 := Tryd.isAgg58
  z24 := Tryd.sizeOf58
  v24 := Tryd.zeroValue58 }
open Go.RowKit in
/-- strings.CutPrefix: "CutPrefix returns s without the provided leading prefix string and reports whether it found the prefix. If s doesn't start with prefix, CutPrefix returns s, false. If prefix is the empty string, CutPrefix returns s, true.": IT RETURNS '(Lib.trimPrefix s p, Lib.hasPrefix s p)'; the world is as it was. (LAID: no walk: one application.) -/
theorem Tryd.strings_CutPrefix (s p : ByteArray) (w : World) :
    Calls Tryd.prog 86 #[.string s, .string p] w fun e w' => e = .returned (.tuple #[.string ⟨(Lib.trimPrefix s.data.toList p.data.toList).toArray⟩, .bool (Lib.hasPrefix s.data.toList p.data.toList)]) ∧ w' = w := Any.strings_CutPrefix Tryd.lays103 s p w
open Go.RowKit in
/-- (*strings.Builder).String: "String returns the accumulated string.": OF A BUILDER THAT HOLDS AT LEAST ONE BYTE. ✋ THE MODEL FREEZES THOSE BYTES IN THE BUFFER (unsafe.String): a later write INTO them ends the model's run without an answer; a later append BEHIND them goes on. The statement's order of evaluation is drawn: one draw. THE FORM '_f': IT SAYS BESIDES THAT THE BUILDER IS A BUILDER STILL ('Lib.IsBuilderF', the same bytes): SO IT CAN BE WRITTEN ON: 'b.WriteString(b.String()[:k])'. (LAID: no walk: one application.) -/
theorem Tryd.Builder_String_f (B b : Nat) (l : List UInt8) (w : World) (h : Lib.IsBuilderF 110 5 B b (Lib.byteCells l) w) (h0 : l ≠ []) :
    Calls Tryd.prog 85 #[.pointer (some ⟨b, 0, none⟩)] w fun e w' => e = .returned (.string ⟨l.toArray⟩) ∧ (Lib.IsBuilderF 110 5 B b (Lib.byteCells l) w' ∧ Below B w w') := Any.Builder_String_f Tryd.lays169 Tryd.Builder_Extra_169 B b l w h h0
open Go.RowKit in
/-- (*strings.Builder).String OF A BUILDER THAT HOLDS NO BYTE: the empty string; THE FORM '_f': a builder still. (LAID: no walk: one application.) -/
theorem Tryd.Builder_String_empty_f (B b : Nat) (w : World) (h : Lib.IsBuilderF 110 5 B b [] w) (hBw : B ≤ w.heap.size) :
    Calls Tryd.prog 85 #[.pointer (some ⟨b, 0, none⟩)] w fun e w' => e = .returned (.string ⟨#[]⟩) ∧ (Lib.IsBuilderF 110 5 B b [] w' ∧ Below B w w') := Any.Builder_String_empty_f Tryd.lays169 Tryd.Builder_Extra_169 B b w h hBw
open Go.RowKit in
/-- (*strings.Builder).String: "String returns the accumulated string.": WHATEVER THE BUILDER HOLDS; THE FORM '_f': OF A BUILDER THAT MAY HAVE BEEN READ BEFORE; AND IT IS A BUILDER STILL, holding the same bytes: it can be written on. (LAID: no walk: one application.) -/
theorem Tryd.Builder_String_any_f (B b : Nat) (l : List UInt8) (w : World) (h : Lib.IsBuilderF 110 5 B b (Lib.byteCells l) w) (hBw : B ≤ w.heap.size) :
    Calls Tryd.prog 85 #[.pointer (some ⟨b, 0, none⟩)] w fun e w' => e = .returned (.string ⟨l.toArray⟩) ∧ (Lib.IsBuilderF 110 5 B b (Lib.byteCells l) w' ∧ Below B w w') := Any.Builder_String_any_f Tryd.lays169 Tryd.Builder_Extra_169 B b l w h hBw
open Go.RowKit in
/-- (*strings.Builder).String: "String returns the accumulated string.": OF A BUILDER THAT HOLDS AT LEAST ONE BYTE. ✋ THE MODEL FREEZES THOSE BYTES IN THE BUFFER (unsafe.String): a later write INTO them ends the model's run without an answer; a later append BEHIND them goes on. The statement's order of evaluation is drawn: one draw. THE FORM '_k': OVER 'Lib.IsBuilderF' (a builder that 'String()' may have read), AND WITH THE FRAME THAT REACHES ABOVE THE BUILDER: 'Lib.OthersKept': every block that is not b and is no row of uint8's stands as it stood: the iterator of a range among them. (LAID: no walk: one application.) -/
theorem Tryd.Builder_String_k (B b : Nat) (l : List UInt8) (w : World) (h : Lib.IsBuilderF 110 5 B b (Lib.byteCells l) w) (h0 : l ≠ []) :
    Calls Tryd.prog 85 #[.pointer (some ⟨b, 0, none⟩)] w fun e w' => e = .returned (.string ⟨l.toArray⟩) ∧ (Lib.IsBuilderF 110 5 B b (Lib.byteCells l) w' ∧ Below B w w' ∧ Lib.OthersKept 5 (some b) w w') := Any.Builder_String_k Tryd.lays169 Tryd.Builder_Extra_169 B b l w h h0
open Go.RowKit in
/-- (*strings.Builder).String OF A BUILDER THAT HOLDS NO BYTE: the empty string; THE FORM '_k': OVER 'Lib.IsBuilderF' (a builder that 'String()' may have read), AND WITH THE FRAME THAT REACHES ABOVE THE BUILDER: 'Lib.OthersKept': every block that is not b and is no row of uint8's stands as it stood: the iterator of a range among them. (LAID: no walk: one application.) -/
theorem Tryd.Builder_String_empty_k (B b : Nat) (w : World) (h : Lib.IsBuilderF 110 5 B b [] w) (hBw : B ≤ w.heap.size) :
    Calls Tryd.prog 85 #[.pointer (some ⟨b, 0, none⟩)] w fun e w' => e = .returned (.string ⟨#[]⟩) ∧ (Lib.IsBuilderF 110 5 B b [] w' ∧ Below B w w' ∧ Lib.OthersKept 5 (some b) w w') := Any.Builder_String_empty_k Tryd.lays169 Tryd.Builder_Extra_169 B b w h hBw
open Go.RowKit in
/-- (*strings.Builder).String: "String returns the accumulated string.": WHATEVER THE BUILDER HOLDS; THE FORM '_k': OVER 'Lib.IsBuilderF' (a builder that 'String()' may have read), AND WITH THE FRAME THAT REACHES ABOVE THE BUILDER: 'Lib.OthersKept': every block that is not b and is no row of uint8's stands as it stood: the iterator of a range among them. (LAID: no walk: one application.) -/
theorem Tryd.Builder_String_any_k (B b : Nat) (l : List UInt8) (w : World) (h : Lib.IsBuilderF 110 5 B b (Lib.byteCells l) w) (hBw : B ≤ w.heap.size) :
    Calls Tryd.prog 85 #[.pointer (some ⟨b, 0, none⟩)] w fun e w' => e = .returned (.string ⟨l.toArray⟩) ∧ (Lib.IsBuilderF 110 5 B b (Lib.byteCells l) w' ∧ Below B w w' ∧ Lib.OthersKept 5 (some b) w w') := Any.Builder_String_any_k Tryd.lays169 Tryd.Builder_Extra_169 B b l w h hBw
def Tryd.lays217_ren : Go.Shelf.Ren := ⟨fun | 217 => 109 | 266 => 116 | n => n, fun | 9 => 9 | 5 => 5 | 3 => 3 | n => n, fun | n => n⟩
theorem Tryd.lays217 : Go.Proofs.Lays.n217 Tryd.prog Tryd.lays217_ren := {
  mixed := by kernel_rfl
  f217 := Tryd.func109.trans (congrArg some (by kernel_rfl))
  f266 := Tryd.func116.trans (congrArg some (by kernel_rfl))
  t3 := Tryd.underlying3
  a3 := Tryd.isAgg3
  z3 := Tryd.sizeOf3
  v3 := Tryd.zeroValue3
  t5 := Tryd.underlying5
  a5 := Tryd.isAgg5
  z5 := Tryd.sizeOf5
  v5 := Tryd.zeroValue5
  t9 := Tryd.underlying9
  a9 := Tryd.isAgg9
  z9 := Tryd.sizeOf9
  v9 := Tryd.zeroValue9 }
open Go.RowKit Go.Lib in
/-- internal/stringslite.IndexByte (what strings.IndexByte calls): IT RETURNS 'Lib.indexByte s c'; the world is as it was. (LAID: no walk: one application.) -/
theorem Tryd.stringslite_IndexByte (s : ByteArray) (c : Int) (w : World) :
    Calls Tryd.prog 109 #[.string s, .int .u8 c] w fun e w' => e = .returned (.int .i64 (Lib.indexByte s.data.toList c.toNat.toUInt8)) ∧ w' = w := Any.stringslite_IndexByte Tryd.lays217 s c w
def Tryd.lays224_ren : Go.Shelf.Ren := ⟨fun | 224 => 111 | n => n, fun | 3 => 3 | n => n, fun | n => n⟩
theorem Tryd.lays224 : Go.Proofs.Lays.n224 Tryd.prog Tryd.lays224_ren := {
  mixed := by kernel_rfl
  f224 := Tryd.func111.trans (congrArg some (by kernel_rfl))
  t3 := Tryd.underlying3
  a3 := Tryd.isAgg3
  z3 := Tryd.sizeOf3
  v3 := Tryd.zeroValue3 }
open Go.RowKit Go.Lib in
/-- internal/bytealg.Cutover: "Cutover reports the number of failures of IndexByte we should tolerate before switching over to Index. n is the number of bytes processed so far.": on amd64: (n + 16) / 8. (LAID: no walk: one application.) -/
theorem Tryd.bytealg_Cutover (n : Int) (h0 : 0 ≤ n) (h1 : n < 4611686018427387904) (w : World) :
    Calls Tryd.prog 111 #[.int .i64 n] w fun e w' => e = .returned (.int .i64 ((n + 16) / 8)) ∧ w' = w := Any.bytealg_Cutover Tryd.lays224 n h0 h1 w
def Tryd.lays314_ren : Go.Shelf.Ren := ⟨fun | 314 => 117 | n => n, fun | 9 => 9 | 51 => 77 | 3 => 3 | 4 => 4 | 5 => 5 | 46 => 83 | n => n, fun | n => n⟩
theorem Tryd.lays314 : Go.Proofs.Lays.n314 Tryd.prog Tryd.lays314_ren := {
  mixed := by kernel_rfl
  f314 := Tryd.func117.trans (congrArg some (by kernel_rfl))
  t3 := Tryd.underlying3
  a3 := Tryd.isAgg3
  z3 := Tryd.sizeOf3
  v3 := Tryd.zeroValue3
  t4 := Tryd.underlying4
  a4 := Tryd.isAgg4
  z4 := Tryd.sizeOf4
  v4 := Tryd.zeroValue4
  t5 := Tryd.underlying5
  a5 := Tryd.isAgg5
  z5 := Tryd.sizeOf5
  v5 := Tryd.zeroValue5
  t9 := Tryd.underlying9
  a9 := Tryd.isAgg9
  z9 := Tryd.sizeOf9
  v9 := Tryd.zeroValue9
  t46 := Tryd.underlying83
  a46 := Tryd.isAgg83
  z46 := Tryd.sizeOf83
  v46 := Tryd.zeroValue83
  t51 := Tryd.underlying77
  a51 := Tryd.isAgg77
  z51 := Tryd.sizeOf77
  v51 := Tryd.zeroValue77 }
open Go.RowKit Go.Lib in
/-- hashStr: "returns the hash and the appropriate multiplicative factor for use in Rabin-Karp algorithm": THE HASH OF ALL OF sep, AND 16777619 ^ len(sep), both in uint32. (LAID: no walk: one application.) -/
theorem Tryd.bytealg_hashStr (sep : ByteArray) (hs : sep.size < 4294967281) (w : World) :
    Calls Tryd.prog 117 #[.string sep] w fun e w' => e = .returned (.tuple #[.int .u32 (RK.H sep.data.toList % 4294967296), .int .u32 (16777619 ^ sep.size % 4294967296)]) ∧ w' = w := Any.bytealg_hashStr Tryd.lays314 sep hs w
def Tryd.lays267_ren : Go.Shelf.Ren := ⟨fun | 267 => 112 | 314 => 117 | n => n, fun | 9 => 9 | 3 => 3 | 146 => 138 | 51 => 77 | 4 => 4 | 5 => 5 | 46 => 83 | n => n, fun | n => n⟩
theorem Tryd.lays267 : Go.Proofs.Lays.n267 Tryd.prog Tryd.lays267_ren := {
  mixed := by kernel_rfl
  f267 := Tryd.func112.trans (congrArg some (by kernel_rfl))
  f314 := Tryd.func117.trans (congrArg some (by kernel_rfl))
  t3 := Tryd.underlying3
  a3 := Tryd.isAgg3
  z3 := Tryd.sizeOf3
  v3 := Tryd.zeroValue3
  t4 := Tryd.underlying4
  a4 := Tryd.isAgg4
  z4 := Tryd.sizeOf4
  v4 := Tryd.zeroValue4
  t5 := Tryd.underlying5
  a5 := Tryd.isAgg5
  z5 := Tryd.sizeOf5
  v5 := Tryd.zeroValue5
  t9 := Tryd.underlying9
  a9 := Tryd.isAgg9
  z9 := Tryd.sizeOf9
  v9 := Tryd.zeroValue9
  t46 := Tryd.underlying83
  a46 := Tryd.isAgg83
  z46 := Tryd.sizeOf83
  v46 := Tryd.zeroValue83
  t51 := Tryd.underlying77
  a51 := Tryd.isAgg77
  z51 := Tryd.sizeOf77
  v51 := Tryd.zeroValue77
  t146 := Tryd.underlying138
  a146 := Tryd.isAgg138
  z146 := Tryd.sizeOf138
  v146 := Tryd.zeroValue138 }
open Go.RowKit Go.Lib in
theorem Tryd.bytealg_IndexRabinKarp (s sep : ByteArray) (h1 : 1 ≤ sep.size) (h2 : sep.size ≤ s.size) (hs : s.size < 4294967281) (w : World) :
    Calls Tryd.prog 112 #[.string s, .string sep] w fun e w' => e = .returned (.int .i64 (Lib.index s.data.toList sep.data.toList)) ∧ w' = w := Any.bytealg_IndexRabinKarp Tryd.lays267 s sep h1 h2 hs w
def Tryd.lays219_ren : Go.Shelf.Ren := ⟨fun | 219 => 99 | 217 => 109 | 225 => 110 | 224 => 111 | 267 => 112 | 266 => 116 | 314 => 117 | n => n, fun | 9 => 9 | 3 => 3 | 4 => 4 | 5 => 5 | 46 => 83 | 146 => 138 | 51 => 77 | n => n, fun | 1 => 1 | n => n⟩
theorem Tryd.lays219 : Go.Proofs.Lays.n219 Tryd.prog Tryd.lays219_ren := {
  mixed := by kernel_rfl
  f217 := Tryd.func109.trans (congrArg some (by kernel_rfl))
  f219 := Tryd.func99.trans (congrArg some (by kernel_rfl))
  f224 := Tryd.func111.trans (congrArg some (by kernel_rfl))
  f225 := Tryd.func110.trans (congrArg some (by kernel_rfl))
  f266 := Tryd.func116.trans (congrArg some (by kernel_rfl))
  f267 := Tryd.func112.trans (congrArg some (by kernel_rfl))
  f314 := Tryd.func117.trans (congrArg some (by kernel_rfl))
  t3 := Tryd.underlying3
  a3 := Tryd.isAgg3
  z3 := Tryd.sizeOf3
  v3 := Tryd.zeroValue3
  t4 := Tryd.underlying4
  a4 := Tryd.isAgg4
  z4 := Tryd.sizeOf4
  v4 := Tryd.zeroValue4
  t5 := Tryd.underlying5
  a5 := Tryd.isAgg5
  z5 := Tryd.sizeOf5
  v5 := Tryd.zeroValue5
  t9 := Tryd.underlying9
  a9 := Tryd.isAgg9
  z9 := Tryd.sizeOf9
  v9 := Tryd.zeroValue9
  t46 := Tryd.underlying83
  a46 := Tryd.isAgg83
  z46 := Tryd.sizeOf83
  v46 := Tryd.zeroValue83
  t51 := Tryd.underlying77
  a51 := Tryd.isAgg77
  z51 := Tryd.sizeOf77
  v51 := Tryd.zeroValue77
  t146 := Tryd.underlying138
  a146 := Tryd.isAgg138
  z146 := Tryd.sizeOf138
  v146 := Tryd.zeroValue138
  g1 := by kernel_rfl }
open Go.RowKit Go.Lib in
/-- internal/stringslite.Index (what strings.Index calls) AT A substr OF ONE BYTE c: IT RETURNS 'Lib.indexByte s c'; the world is as it was. (LAID: no walk: one application.) -/
theorem Tryd.stringslite_Index_one (s : ByteArray) (c : UInt8) (w : World) :
    Calls Tryd.prog 99 #[.string s, .string ⟨#[c]⟩] w fun e w' => e = .returned (.int .i64 (Lib.indexByte s.data.toList c)) ∧ w' = w := Any.stringslite_Index_one Tryd.lays219 s c w
open Go.RowKit Go.Lib in
/-- internal/stringslite.Index (what strings.Index calls) AT A substr OF WHATEVER LENGTH: IT RETURNS 'Lib.index s substr'; the world is as it was. 'm': what internal/bytealg.MaxLen holds: whatever. (LAID: no walk: one application.) -/
theorem Tryd.stringslite_Index (s sub : ByteArray) (m : Int) (w : World) (hs : s.size < 4294967281) (hm : w.cell? ⟨1, 0, none⟩ = some (.int .i64 m)) :
    Calls Tryd.prog 99 #[.string s, .string sub] w fun e w' => e = .returned (.int .i64 (Lib.index s.data.toList sub.data.toList)) ∧ w' = w := Any.stringslite_Index Tryd.lays219 s sub m w hs hm
def Tryd.lays143_ren : Go.Shelf.Ren := ⟨fun | 143 => 79 | 219 => 99 | 217 => 109 | 225 => 110 | 224 => 111 | 267 => 112 | 266 => 116 | 314 => 117 | n => n, fun | 9 => 9 | 3 => 3 | 4 => 4 | 5 => 5 | 46 => 83 | 146 => 138 | 51 => 77 | n => n, fun | 1 => 1 | n => n⟩
theorem Tryd.lays143 : Go.Proofs.Lays.n143 Tryd.prog Tryd.lays143_ren := {
  mixed := by kernel_rfl
  f143 := Tryd.func79.trans (congrArg some (by kernel_rfl))
  f217 := Tryd.func109.trans (congrArg some (by kernel_rfl))
  f219 := Tryd.func99.trans (congrArg some (by kernel_rfl))
  f224 := Tryd.func111.trans (congrArg some (by kernel_rfl))
  f225 := Tryd.func110.trans (congrArg some (by kernel_rfl))
  f266 := Tryd.func116.trans (congrArg some (by kernel_rfl))
  f267 := Tryd.func112.trans (congrArg some (by kernel_rfl))
  f314 := Tryd.func117.trans (congrArg some (by kernel_rfl))
  t3 := Tryd.underlying3
  a3 := Tryd.isAgg3
  z3 := Tryd.sizeOf3
  v3 := Tryd.zeroValue3
  t4 := Tryd.underlying4
  a4 := Tryd.isAgg4
  z4 := Tryd.sizeOf4
  v4 := Tryd.zeroValue4
  t5 := Tryd.underlying5
  a5 := Tryd.isAgg5
  z5 := Tryd.sizeOf5
  v5 := Tryd.zeroValue5
  t9 := Tryd.underlying9
  a9 := Tryd.isAgg9
  z9 := Tryd.sizeOf9
  v9 := Tryd.zeroValue9
  t46 := Tryd.underlying83
  a46 := Tryd.isAgg83
  z46 := Tryd.sizeOf83
  v46 := Tryd.zeroValue83
  t51 := Tryd.underlying77
  a51 := Tryd.isAgg77
  z51 := Tryd.sizeOf77
  v51 := Tryd.zeroValue77
  t146 := Tryd.underlying138
  a146 := Tryd.isAgg138
  z146 := Tryd.sizeOf138
  v146 := Tryd.zeroValue138
  g1 := by kernel_rfl }
open Go.RowKit Go.Lib in
/-- strings.Index: "Index returns the index of the first instance of substr in s, or -1 if substr is not present in s.": AT A substr OF ONE BYTE c: IT RETURNS 'Lib.indexByte s c'; the world is as it was. (LAID: no walk: one application.) -/
theorem Tryd.strings_Index_one (s : ByteArray) (c : UInt8) (w : World) :
    Calls Tryd.prog 79 #[.string s, .string ⟨#[c]⟩] w fun e w' => e = .returned (.int .i64 (Lib.indexByte s.data.toList c)) ∧ w' = w := Any.strings_Index_one Tryd.lays143 s c w
open Go.RowKit Go.Lib in
/-- strings.Index: "Index returns the index of the first instance of substr in s, or -1 if substr is not present in s.": IT RETURNS 'Lib.index s substr'; the world is as it was. (LAID: no walk: one application.) -/
theorem Tryd.strings_Index (s sub : ByteArray) (m : Int) (w : World) (hs : s.size < 4294967281) (hm : w.cell? ⟨1, 0, none⟩ = some (.int .i64 m)) :
    Calls Tryd.prog 79 #[.string s, .string sub] w fun e w' => e = .returned (.int .i64 (Lib.index s.data.toList sub.data.toList)) ∧ w' = w := Any.strings_Index Tryd.lays143 s sub m w hs hm
def Tryd.lays144_ren : Go.Shelf.Ren := ⟨fun | 144 => 106 | 143 => 79 | 219 => 99 | 217 => 109 | 225 => 110 | 224 => 111 | 267 => 112 | 266 => 116 | 314 => 117 | n => n, fun | 9 => 9 | 4 => 4 | 3 => 3 | 5 => 5 | 46 => 83 | 146 => 138 | 51 => 77 | n => n, fun | 1 => 1 | n => n⟩
theorem Tryd.lays144 : Go.Proofs.Lays.n144 Tryd.prog Tryd.lays144_ren := {
  mixed := by kernel_rfl
  f143 := Tryd.func79.trans (congrArg some (by kernel_rfl))
  f144 := Tryd.func106.trans (congrArg some (by kernel_rfl))
  f217 := Tryd.func109.trans (congrArg some (by kernel_rfl))
  f219 := Tryd.func99.trans (congrArg some (by kernel_rfl))
  f224 := Tryd.func111.trans (congrArg some (by kernel_rfl))
  f225 := Tryd.func110.trans (congrArg some (by kernel_rfl))
  f266 := Tryd.func116.trans (congrArg some (by kernel_rfl))
  f267 := Tryd.func112.trans (congrArg some (by kernel_rfl))
  f314 := Tryd.func117.trans (congrArg some (by kernel_rfl))
  t3 := Tryd.underlying3
  a3 := Tryd.isAgg3
  z3 := Tryd.sizeOf3
  v3 := Tryd.zeroValue3
  t4 := Tryd.underlying4
  a4 := Tryd.isAgg4
  z4 := Tryd.sizeOf4
  v4 := Tryd.zeroValue4
  t5 := Tryd.underlying5
  a5 := Tryd.isAgg5
  z5 := Tryd.sizeOf5
  v5 := Tryd.zeroValue5
  t9 := Tryd.underlying9
  a9 := Tryd.isAgg9
  z9 := Tryd.sizeOf9
  v9 := Tryd.zeroValue9
  t46 := Tryd.underlying83
  a46 := Tryd.isAgg83
  z46 := Tryd.sizeOf83
  v46 := Tryd.zeroValue83
  t51 := Tryd.underlying77
  a51 := Tryd.isAgg77
  z51 := Tryd.sizeOf77
  v51 := Tryd.zeroValue77
  t146 := Tryd.underlying138
  a146 := Tryd.isAgg138
  z146 := Tryd.sizeOf138
  v146 := Tryd.zeroValue138
  g1 := by kernel_rfl }
open Go.RowKit Go.Lib in
/-- strings.Contains: "Contains reports whether substr is within s.": AT A substr OF ONE BYTE c: IT RETURNS 'decide (0 ≤ Lib.indexByte s c)'; the world is as it was. (LAID: no walk: one application.) -/
theorem Tryd.strings_Contains_one (s : ByteArray) (c : UInt8) (w : World) :
    Calls Tryd.prog 106 #[.string s, .string ⟨#[c]⟩] w fun e w' => e = .returned (.bool (decide (0 ≤ Lib.indexByte s.data.toList c))) ∧ w' = w := Any.strings_Contains_one Tryd.lays144 s c w
open Go.RowKit Go.Lib in
/-- strings.Contains: "Contains reports whether substr is within s.": IT RETURNS 'Lib.contains s substr'; the world is as it was. (LAID: no walk: one application.) -/
theorem Tryd.strings_Contains (s sub : ByteArray) (m : Int) (w : World) (hs : s.size < 4294967281) (hm : w.cell? ⟨1, 0, none⟩ = some (.int .i64 m)) :
    Calls Tryd.prog 106 #[.string s, .string sub] w fun e w' => e = .returned (.bool (Lib.contains s.data.toList sub.data.toList)) ∧ w' = w := Any.strings_Contains Tryd.lays144 s sub m w hs hm
def Tryd.lays138_ren : Go.Shelf.Ren := ⟨fun | 138 => 78 | 195 => 96 | 218 => 98 | 143 => 79 | 219 => 99 | 217 => 109 | 225 => 110 | 224 => 111 | 267 => 112 | 266 => 116 | 314 => 117 | n => n, fun | 9 => 9 | 3 => 3 | 4 => 4 | 5 => 5 | 0 => 0 | 46 => 83 | 146 => 138 | 51 => 77 | n => n, fun | 1 => 1 | n => n⟩
theorem Tryd.lays138 : Go.Proofs.Lays.n138 Tryd.prog Tryd.lays138_ren := {
  mixed := by kernel_rfl
  f138 := Tryd.func78.trans (congrArg some (by kernel_rfl))
  f143 := Tryd.func79.trans (congrArg some (by kernel_rfl))
  f195 := Tryd.func96.trans (congrArg some (by kernel_rfl))
  f217 := Tryd.func109.trans (congrArg some (by kernel_rfl))
  f218 := Tryd.func98.trans (congrArg some (by kernel_rfl))
  f219 := Tryd.func99.trans (congrArg some (by kernel_rfl))
  f224 := Tryd.func111.trans (congrArg some (by kernel_rfl))
  f225 := Tryd.func110.trans (congrArg some (by kernel_rfl))
  f266 := Tryd.func116.trans (congrArg some (by kernel_rfl))
  f267 := Tryd.func112.trans (congrArg some (by kernel_rfl))
  f314 := Tryd.func117.trans (congrArg some (by kernel_rfl))
  t0 := Tryd.underlying0
  a0 := Tryd.isAgg0
  z0 := Tryd.sizeOf0
  v0 := Tryd.zeroValue0
  t3 := Tryd.underlying3
  a3 := Tryd.isAgg3
  z3 := Tryd.sizeOf3
  v3 := Tryd.zeroValue3
  t4 := Tryd.underlying4
  a4 := Tryd.isAgg4
  z4 := Tryd.sizeOf4
  v4 := Tryd.zeroValue4
  t5 := Tryd.underlying5
  a5 := Tryd.isAgg5
  z5 := Tryd.sizeOf5
  v5 := Tryd.zeroValue5
  t9 := Tryd.underlying9
  a9 := Tryd.isAgg9
  z9 := Tryd.sizeOf9
  v9 := Tryd.zeroValue9
  t46 := Tryd.underlying83
  a46 := Tryd.isAgg83
  z46 := Tryd.sizeOf83
  v46 := Tryd.zeroValue83
  t51 := Tryd.underlying77
  a51 := Tryd.isAgg77
  z51 := Tryd.sizeOf77
  v51 := Tryd.zeroValue77
  t146 := Tryd.underlying138
  a146 := Tryd.isAgg138
  z146 := Tryd.sizeOf138
  v146 := Tryd.zeroValue138
  g1 := by kernel_rfl }
open Go.RowKit Go.Lib in
/-- strings.Count AT A substr OF ONE BYTE ('hp'): "Count counts the number of non-overlapping instances of substr in s.": IT RETURNS 'Lib.countByte s (that byte)'; the world is as it was. ✋ NO CONTRACT HERE YET at an empty substr (utf8.RuneCountInString) or at a longer one (a loop over strings.Index). (LAID: no walk: one application.) -/
theorem Tryd.strings_Count_one (s : ByteArray) (c : UInt8) (w : World) :
    Calls Tryd.prog 78 #[.string s, .string ⟨#[c]⟩] w fun e w' => e = .returned (.int .i64 (Lib.countByte s.data.toList c)) ∧ w' = w := Any.strings_Count_one Tryd.lays138 s c w
open Go.RowKit Go.Lib in
/-- strings.Count AT A substr OF TWO BYTES OR MORE: "Count counts the number of non-overlapping instances of substr in s.": IT RETURNS 'Lib.count s substr'; the world is as it was. (LAID: no walk: one application.) -/
theorem Tryd.strings_Count (s sub : ByteArray) (m : Int) (w : World) (hs : s.size < 4294967281) (hm : w.cell? ⟨1, 0, none⟩ = some (.int .i64 m)) (h2 : 2 ≤ sub.size) :
    Calls Tryd.prog 78 #[.string s, .string sub] w fun e w' => e = .returned (.int .i64 (Lib.countB s sub)) ∧ w' = w := Any.strings_Count Tryd.lays138 s sub m w hs hm h2
def Tryd.laysM219_ren : Go.Shelf.Ren := ⟨fun | 219 => 99 | 217 => 109 | 225 => 110 | 224 => 111 | 267 => 112 | 266 => 116 | 314 => 117 | n => n, fun | 9 => 9 | 3 => 3 | 4 => 4 | 5 => 5 | 46 => 83 | 146 => 138 | 51 => 77 | n => n, fun | 1 => 1 | n => n⟩
theorem Tryd.laysM219 : Go.Proofs.LaysM.n219 Tryd.prog Tryd.laysM219_ren := {
  mixed := by kernel_rfl
  f217 := Tryd.func109.trans (congrArg some (by kernel_rfl))
  f219 := Tryd.func99.trans (congrArg some (by kernel_rfl))
  f224 := Tryd.func111.trans (congrArg some (by kernel_rfl))
  f225 := Tryd.func110.trans (congrArg some (by kernel_rfl))
  f266 := Tryd.func116.trans (congrArg some (by kernel_rfl))
  f267 := Tryd.func112.trans (congrArg some (by kernel_rfl))
  f314 := Tryd.func117.trans (congrArg some (by kernel_rfl))
  t3 := Tryd.underlying3
  a3 := Tryd.isAgg3
  z3 := Tryd.sizeOf3
  v3 := Tryd.zeroValue3
  t4 := Tryd.underlying4
  a4 := Tryd.isAgg4
  z4 := Tryd.sizeOf4
  v4 := Tryd.zeroValue4
  t5 := Tryd.underlying5
  a5 := Tryd.isAgg5
  z5 := Tryd.sizeOf5
  v5 := Tryd.zeroValue5
  t9 := Tryd.underlying9
  a9 := Tryd.isAgg9
  z9 := Tryd.sizeOf9
  v9 := Tryd.zeroValue9
  t46 := Tryd.underlying83
  a46 := Tryd.isAgg83
  z46 := Tryd.sizeOf83
  v46 := Tryd.zeroValue83
  t51 := Tryd.underlying77
  a51 := Tryd.isAgg77
  z51 := Tryd.sizeOf77
  v51 := Tryd.zeroValue77
  t146 := Tryd.underlying138
  a146 := Tryd.isAgg138
  z146 := Tryd.sizeOf138
  v146 := Tryd.zeroValue138
  g1 := by kernel_rfl
  i3 := by kernel_rfl
  i4 := by kernel_rfl
  i5 := by kernel_rfl
  i9 := by kernel_rfl
  i46 := by kernel_rfl
  i51 := by kernel_rfl
  i146 := by kernel_rfl
  m1 := by kernel_rfl
  s1_3 := fun w h => Go.Proofs.cell_of_shapedOpen_int (zero := #[.int .i64 0]) (t := 3) h (of_decide_eq_true (by kernel_rfl)) (by kernel_rfl) rfl (by kernel_rfl) (by kernel_rfl) Tryd.underlying3 }
open Go.RowKit Go.Lib in
theorem Tryd.stringslite_Index_shaped (s sub : ByteArray) (w : World) (h : w.ShapedOpen Tryd.prog) (hs : s.size < 4294967281) :
    Calls Tryd.prog 99 #[.string s, .string sub] w fun e w' => e = .returned (.int .i64 (Lib.index s.data.toList sub.data.toList)) ∧ w' = w := Any.stringslite_Index_shaped Tryd.laysM219 s sub w h hs
def Tryd.laysM143_ren : Go.Shelf.Ren := ⟨fun | 143 => 79 | 219 => 99 | 217 => 109 | 225 => 110 | 224 => 111 | 267 => 112 | 266 => 116 | 314 => 117 | n => n, fun | 9 => 9 | 3 => 3 | 4 => 4 | 5 => 5 | 46 => 83 | 146 => 138 | 51 => 77 | n => n, fun | 1 => 1 | n => n⟩
theorem Tryd.laysM143 : Go.Proofs.LaysM.n143 Tryd.prog Tryd.laysM143_ren := {
  mixed := by kernel_rfl
  f143 := Tryd.func79.trans (congrArg some (by kernel_rfl))
  f217 := Tryd.func109.trans (congrArg some (by kernel_rfl))
  f219 := Tryd.func99.trans (congrArg some (by kernel_rfl))
  f224 := Tryd.func111.trans (congrArg some (by kernel_rfl))
  f225 := Tryd.func110.trans (congrArg some (by kernel_rfl))
  f266 := Tryd.func116.trans (congrArg some (by kernel_rfl))
  f267 := Tryd.func112.trans (congrArg some (by kernel_rfl))
  f314 := Tryd.func117.trans (congrArg some (by kernel_rfl))
  t3 := Tryd.underlying3
  a3 := Tryd.isAgg3
  z3 := Tryd.sizeOf3
  v3 := Tryd.zeroValue3
  t4 := Tryd.underlying4
  a4 := Tryd.isAgg4
  z4 := Tryd.sizeOf4
  v4 := Tryd.zeroValue4
  t5 := Tryd.underlying5
  a5 := Tryd.isAgg5
  z5 := Tryd.sizeOf5
  v5 := Tryd.zeroValue5
  t9 := Tryd.underlying9
  a9 := Tryd.isAgg9
  z9 := Tryd.sizeOf9
  v9 := Tryd.zeroValue9
  t46 := Tryd.underlying83
  a46 := Tryd.isAgg83
  z46 := Tryd.sizeOf83
  v46 := Tryd.zeroValue83
  t51 := Tryd.underlying77
  a51 := Tryd.isAgg77
  z51 := Tryd.sizeOf77
  v51 := Tryd.zeroValue77
  t146 := Tryd.underlying138
  a146 := Tryd.isAgg138
  z146 := Tryd.sizeOf138
  v146 := Tryd.zeroValue138
  g1 := by kernel_rfl
  i3 := by kernel_rfl
  i4 := by kernel_rfl
  i5 := by kernel_rfl
  i9 := by kernel_rfl
  i46 := by kernel_rfl
  i51 := by kernel_rfl
  i146 := by kernel_rfl
  m1 := by kernel_rfl
  s1_3 := fun w h => Go.Proofs.cell_of_shapedOpen_int (zero := #[.int .i64 0]) (t := 3) h (of_decide_eq_true (by kernel_rfl)) (by kernel_rfl) rfl (by kernel_rfl) (by kernel_rfl) Tryd.underlying3 }
open Go.RowKit Go.Lib in
theorem Tryd.strings_Index_shaped (s sub : ByteArray) (w : World) (h : w.ShapedOpen Tryd.prog) (hs : s.size < 4294967281) :
    Calls Tryd.prog 79 #[.string s, .string sub] w fun e w' => e = .returned (.int .i64 (Lib.index s.data.toList sub.data.toList)) ∧ w' = w := Any.strings_Index_shaped Tryd.laysM143 s sub w h hs
def Tryd.laysM144_ren : Go.Shelf.Ren := ⟨fun | 144 => 106 | 143 => 79 | 219 => 99 | 217 => 109 | 225 => 110 | 224 => 111 | 267 => 112 | 266 => 116 | 314 => 117 | n => n, fun | 9 => 9 | 4 => 4 | 3 => 3 | 5 => 5 | 46 => 83 | 146 => 138 | 51 => 77 | n => n, fun | 1 => 1 | n => n⟩
theorem Tryd.laysM144 : Go.Proofs.LaysM.n144 Tryd.prog Tryd.laysM144_ren := {
  mixed := by kernel_rfl
  f143 := Tryd.func79.trans (congrArg some (by kernel_rfl))
  f144 := Tryd.func106.trans (congrArg some (by kernel_rfl))
  f217 := Tryd.func109.trans (congrArg some (by kernel_rfl))
  f219 := Tryd.func99.trans (congrArg some (by kernel_rfl))
  f224 := Tryd.func111.trans (congrArg some (by kernel_rfl))
  f225 := Tryd.func110.trans (congrArg some (by kernel_rfl))
  f266 := Tryd.func116.trans (congrArg some (by kernel_rfl))
  f267 := Tryd.func112.trans (congrArg some (by kernel_rfl))
  f314 := Tryd.func117.trans (congrArg some (by kernel_rfl))
  t3 := Tryd.underlying3
  a3 := Tryd.isAgg3
  z3 := Tryd.sizeOf3
  v3 := Tryd.zeroValue3
  t4 := Tryd.underlying4
  a4 := Tryd.isAgg4
  z4 := Tryd.sizeOf4
  v4 := Tryd.zeroValue4
  t5 := Tryd.underlying5
  a5 := Tryd.isAgg5
  z5 := Tryd.sizeOf5
  v5 := Tryd.zeroValue5
  t9 := Tryd.underlying9
  a9 := Tryd.isAgg9
  z9 := Tryd.sizeOf9
  v9 := Tryd.zeroValue9
  t46 := Tryd.underlying83
  a46 := Tryd.isAgg83
  z46 := Tryd.sizeOf83
  v46 := Tryd.zeroValue83
  t51 := Tryd.underlying77
  a51 := Tryd.isAgg77
  z51 := Tryd.sizeOf77
  v51 := Tryd.zeroValue77
  t146 := Tryd.underlying138
  a146 := Tryd.isAgg138
  z146 := Tryd.sizeOf138
  v146 := Tryd.zeroValue138
  g1 := by kernel_rfl
  i3 := by kernel_rfl
  i4 := by kernel_rfl
  i5 := by kernel_rfl
  i9 := by kernel_rfl
  i46 := by kernel_rfl
  i51 := by kernel_rfl
  i146 := by kernel_rfl
  m1 := by kernel_rfl
  s1_3 := fun w h => Go.Proofs.cell_of_shapedOpen_int (zero := #[.int .i64 0]) (t := 3) h (of_decide_eq_true (by kernel_rfl)) (by kernel_rfl) rfl (by kernel_rfl) (by kernel_rfl) Tryd.underlying3 }
open Go.RowKit Go.Lib in
theorem Tryd.strings_Contains_shaped (s sub : ByteArray) (w : World) (h : w.ShapedOpen Tryd.prog) (hs : s.size < 4294967281) :
    Calls Tryd.prog 106 #[.string s, .string sub] w fun e w' => e = .returned (.bool (Lib.contains s.data.toList sub.data.toList)) ∧ w' = w := Any.strings_Contains_shaped Tryd.laysM144 s sub w h hs
def Tryd.laysM138_ren : Go.Shelf.Ren := ⟨fun | 138 => 78 | 195 => 96 | 218 => 98 | 143 => 79 | 219 => 99 | 217 => 109 | 225 => 110 | 224 => 111 | 267 => 112 | 266 => 116 | 314 => 117 | n => n, fun | 9 => 9 | 3 => 3 | 4 => 4 | 5 => 5 | 0 => 0 | 46 => 83 | 146 => 138 | 51 => 77 | n => n, fun | 1 => 1 | n => n⟩
theorem Tryd.laysM138 : Go.Proofs.LaysM.n138 Tryd.prog Tryd.laysM138_ren := {
  mixed := by kernel_rfl
  f138 := Tryd.func78.trans (congrArg some (by kernel_rfl))
  f143 := Tryd.func79.trans (congrArg some (by kernel_rfl))
  f195 := Tryd.func96.trans (congrArg some (by kernel_rfl))
  f217 := Tryd.func109.trans (congrArg some (by kernel_rfl))
  f218 := Tryd.func98.trans (congrArg some (by kernel_rfl))
  f219 := Tryd.func99.trans (congrArg some (by kernel_rfl))
  f224 := Tryd.func111.trans (congrArg some (by kernel_rfl))
  f225 := Tryd.func110.trans (congrArg some (by kernel_rfl))
  f266 := Tryd.func116.trans (congrArg some (by kernel_rfl))
  f267 := Tryd.func112.trans (congrArg some (by kernel_rfl))
  f314 := Tryd.func117.trans (congrArg some (by kernel_rfl))
  t0 := Tryd.underlying0
  a0 := Tryd.isAgg0
  z0 := Tryd.sizeOf0
  v0 := Tryd.zeroValue0
  t3 := Tryd.underlying3
  a3 := Tryd.isAgg3
  z3 := Tryd.sizeOf3
  v3 := Tryd.zeroValue3
  t4 := Tryd.underlying4
  a4 := Tryd.isAgg4
  z4 := Tryd.sizeOf4
  v4 := Tryd.zeroValue4
  t5 := Tryd.underlying5
  a5 := Tryd.isAgg5
  z5 := Tryd.sizeOf5
  v5 := Tryd.zeroValue5
  t9 := Tryd.underlying9
  a9 := Tryd.isAgg9
  z9 := Tryd.sizeOf9
  v9 := Tryd.zeroValue9
  t46 := Tryd.underlying83
  a46 := Tryd.isAgg83
  z46 := Tryd.sizeOf83
  v46 := Tryd.zeroValue83
  t51 := Tryd.underlying77
  a51 := Tryd.isAgg77
  z51 := Tryd.sizeOf77
  v51 := Tryd.zeroValue77
  t146 := Tryd.underlying138
  a146 := Tryd.isAgg138
  z146 := Tryd.sizeOf138
  v146 := Tryd.zeroValue138
  g1 := by kernel_rfl
  i0 := by kernel_rfl
  i3 := by kernel_rfl
  i4 := by kernel_rfl
  i5 := by kernel_rfl
  i9 := by kernel_rfl
  i46 := by kernel_rfl
  i51 := by kernel_rfl
  i146 := by kernel_rfl
  m1 := by kernel_rfl
  s1_3 := fun w h => Go.Proofs.cell_of_shapedOpen_int (zero := #[.int .i64 0]) (t := 3) h (of_decide_eq_true (by kernel_rfl)) (by kernel_rfl) rfl (by kernel_rfl) (by kernel_rfl) Tryd.underlying3 }
open Go.RowKit Go.Lib in
theorem Tryd.strings_Count_shaped (s sub : ByteArray) (w : World) (h : w.ShapedOpen Tryd.prog) (hs : s.size < 4294967281) (h2 : 2 ≤ sub.size) :
    Calls Tryd.prog 78 #[.string s, .string sub] w fun e w' => e = .returned (.int .i64 (Lib.countB s sub)) ∧ w' = w := Any.strings_Count_shaped Tryd.laysM138 s sub w h hs h2
def Tryd.lays222_ren : Go.Shelf.Ren := ⟨fun | 222 => 107 | n => n, fun | 9 => 9 | 5 => 5 | 3 => 3 | 4 => 4 | n => n, fun | n => n⟩
theorem Tryd.lays222 : Go.Proofs.Lays.n222 Tryd.prog Tryd.lays222_ren := {
  mixed := by kernel_rfl
  f222 := Tryd.func107.trans (congrArg some (by kernel_rfl))
  t3 := Tryd.underlying3
  a3 := Tryd.isAgg3
  z3 := Tryd.sizeOf3
  v3 := Tryd.zeroValue3
  t4 := Tryd.underlying4
  a4 := Tryd.isAgg4
  z4 := Tryd.sizeOf4
  v4 := Tryd.zeroValue4
  t5 := Tryd.underlying5
  a5 := Tryd.isAgg5
  z5 := Tryd.sizeOf5
  v5 := Tryd.zeroValue5
  t9 := Tryd.underlying9
  a9 := Tryd.isAgg9
  z9 := Tryd.sizeOf9
  v9 := Tryd.zeroValue9 }
open Go.RowKit Go.Lib in
/-- internal/bytealg.LastIndexByteString: 'for i := len(s) - 1; i >= 0; i-- { if s[i] == c { return i } }; return -1'. (LAID: no walk: one application.) -/
theorem Tryd.bytealg_LastIndexByteString_nm (s : ByteArray) (c : Int) (hs : s.size < 4611686018427387904) (w : World) :
    Calls Tryd.prog 107 #[.string s, .int .u8 c] w fun e w' => e = .returned (.int .i64 (Lib.lastIndexByte s c)) ∧ w' = w := Any.bytealg_LastIndexByteString_nm Tryd.lays222 s c hs w
def Tryd.lays149_ren : Go.Shelf.Ren := ⟨fun | 149 => 93 | 222 => 107 | n => n, fun | 9 => 9 | 5 => 5 | 3 => 3 | 4 => 4 | n => n, fun | n => n⟩
theorem Tryd.lays149 : Go.Proofs.Lays.n149 Tryd.prog Tryd.lays149_ren := {
  mixed := by kernel_rfl
  f149 := Tryd.func93.trans (congrArg some (by kernel_rfl))
  f222 := Tryd.func107.trans (congrArg some (by kernel_rfl))
  t3 := Tryd.underlying3
  a3 := Tryd.isAgg3
  z3 := Tryd.sizeOf3
  v3 := Tryd.zeroValue3
  t4 := Tryd.underlying4
  a4 := Tryd.isAgg4
  z4 := Tryd.sizeOf4
  v4 := Tryd.zeroValue4
  t5 := Tryd.underlying5
  a5 := Tryd.isAgg5
  z5 := Tryd.sizeOf5
  v5 := Tryd.zeroValue5
  t9 := Tryd.underlying9
  a9 := Tryd.isAgg9
  z9 := Tryd.sizeOf9
  v9 := Tryd.zeroValue9 }
open Go.RowKit Go.Lib in
/-- strings.LastIndexByte: "LastIndexByte returns the index of the last instance of c in s, or -1 if c is not present in s." (LAID: no walk: one application.) -/
theorem Tryd.strings_LastIndexByte (s : ByteArray) (c : Int) (hs : s.size < 4611686018427387904) (w : World) :
    Calls Tryd.prog 93 #[.string s, .int .u8 c] w fun e w' => e = .returned (.int .i64 (Lib.lastIndexByte s c)) ∧ w' = w := Any.strings_LastIndexByte Tryd.lays149 s c hs w
def Tryd.lays206_ren : Go.Shelf.Ren := ⟨fun | 206 => 53 | n => n, fun | 9 => 9 | 4 => 4 | 3 => 3 | n => n, fun | n => n⟩
theorem Tryd.lays206 : Go.Proofs.Lays.n206 Tryd.prog Tryd.lays206_ren := {
  mixed := by kernel_rfl
  f206 := Tryd.func53.trans (congrArg some (by kernel_rfl))
  t3 := Tryd.underlying3
  a3 := Tryd.isAgg3
  z3 := Tryd.sizeOf3
  v3 := Tryd.zeroValue3
  t4 := Tryd.underlying4
  a4 := Tryd.isAgg4
  z4 := Tryd.sizeOf4
  v4 := Tryd.zeroValue4
  t9 := Tryd.underlying9
  a9 := Tryd.isAgg9
  z9 := Tryd.sizeOf9
  v9 := Tryd.zeroValue9 }
open Go.RowKit Go.Lib in
/-- internal/stringslite.HasPrefix (what strings.HasPrefix calls). (LAID: no walk: one application.) -/
theorem Tryd.stringslite_HasPrefix (s p : ByteArray) (w : World) :
    Calls Tryd.prog 53 #[.string s, .string p] w fun e w' => e = .returned (.bool (Lib.hasPrefix s.data.toList p.data.toList)) ∧ w' = w := Any.stringslite_HasPrefix Tryd.lays206 s p w
def Tryd.lays99_ren : Go.Shelf.Ren := ⟨fun | 99 => 28 | 206 => 53 | n => n, fun | 9 => 9 | 4 => 4 | 3 => 3 | n => n, fun | n => n⟩
theorem Tryd.lays99 : Go.Proofs.Lays.n99 Tryd.prog Tryd.lays99_ren := {
  mixed := by kernel_rfl
  f99 := Tryd.func28.trans (congrArg some (by kernel_rfl))
  f206 := Tryd.func53.trans (congrArg some (by kernel_rfl))
  t3 := Tryd.underlying3
  a3 := Tryd.isAgg3
  z3 := Tryd.sizeOf3
  v3 := Tryd.zeroValue3
  t4 := Tryd.underlying4
  a4 := Tryd.isAgg4
  z4 := Tryd.sizeOf4
  v4 := Tryd.zeroValue4
  t9 := Tryd.underlying9
  a9 := Tryd.isAgg9
  z9 := Tryd.sizeOf9
  v9 := Tryd.zeroValue9 }
open Go.RowKit Go.Lib in
/-- strings.HasPrefix: "HasPrefix reports whether the string s begins with prefix.": IT RETURNS 'Lib.hasPrefix s prefix'; the world is as it was. (LAID: no walk: one application.) -/
theorem Tryd.strings_HasPrefix (s p : ByteArray) (w : World) :
    Calls Tryd.prog 28 #[.string s, .string p] w fun e w' => e = .returned (.bool (Lib.hasPrefix s.data.toList p.data.toList)) ∧ w' = w := Any.strings_HasPrefix Tryd.lays99 s p w
def Tryd.lays208_ren : Go.Shelf.Ren := ⟨fun | 208 => 55 | 206 => 53 | n => n, fun | 9 => 9 | 4 => 4 | 3 => 3 | n => n, fun | n => n⟩
theorem Tryd.lays208 : Go.Proofs.Lays.n208 Tryd.prog Tryd.lays208_ren := {
  mixed := by kernel_rfl
  f206 := Tryd.func53.trans (congrArg some (by kernel_rfl))
  f208 := Tryd.func55.trans (congrArg some (by kernel_rfl))
  t3 := Tryd.underlying3
  a3 := Tryd.isAgg3
  z3 := Tryd.sizeOf3
  v3 := Tryd.zeroValue3
  t4 := Tryd.underlying4
  a4 := Tryd.isAgg4
  z4 := Tryd.sizeOf4
  v4 := Tryd.zeroValue4
  t9 := Tryd.underlying9
  a9 := Tryd.isAgg9
  z9 := Tryd.sizeOf9
  v9 := Tryd.zeroValue9 }
open Go.RowKit Go.Lib in
/-- internal/stringslite.TrimPrefix (what strings.TrimPrefix calls). (LAID: no walk: one application.) -/
theorem Tryd.stringslite_TrimPrefix (s p : ByteArray) (w : World) :
    Calls Tryd.prog 55 #[.string s, .string p] w fun e w' => e = .returned (.string ⟨(Lib.trimPrefix s.data.toList p.data.toList).toArray⟩) ∧ w' = w := Any.stringslite_TrimPrefix Tryd.lays208 s p w
def Tryd.lays101_ren : Go.Shelf.Ren := ⟨fun | 101 => 30 | 208 => 55 | 206 => 53 | n => n, fun | 9 => 9 | 4 => 4 | 3 => 3 | n => n, fun | n => n⟩
theorem Tryd.lays101 : Go.Proofs.Lays.n101 Tryd.prog Tryd.lays101_ren := {
  mixed := by kernel_rfl
  f101 := Tryd.func30.trans (congrArg some (by kernel_rfl))
  f206 := Tryd.func53.trans (congrArg some (by kernel_rfl))
  f208 := Tryd.func55.trans (congrArg some (by kernel_rfl))
  t3 := Tryd.underlying3
  a3 := Tryd.isAgg3
  z3 := Tryd.sizeOf3
  v3 := Tryd.zeroValue3
  t4 := Tryd.underlying4
  a4 := Tryd.isAgg4
  z4 := Tryd.sizeOf4
  v4 := Tryd.zeroValue4
  t9 := Tryd.underlying9
  a9 := Tryd.isAgg9
  z9 := Tryd.sizeOf9
  v9 := Tryd.zeroValue9 }
open Go.RowKit Go.Lib in
/-- strings.TrimPrefix: "TrimPrefix returns s without the provided leading prefix string. If s doesn't start with prefix, s is returned unchanged.": IT RETURNS 'Lib.trimPrefix s prefix'; the world is as it was. (LAID: no walk: one application.) -/
theorem Tryd.strings_TrimPrefix (s p : ByteArray) (w : World) :
    Calls Tryd.prog 30 #[.string s, .string p] w fun e w' => e = .returned (.string ⟨(Lib.trimPrefix s.data.toList p.data.toList).toArray⟩) ∧ w' = w := Any.strings_TrimPrefix Tryd.lays101 s p w
open Go.RowKit Go.Lib in
/-- strings.Count at whatever sep that is not empty: the two roads under one statement. (LAID: no walk: one application.) -/
theorem Tryd.strings_Count_any (s sep : ByteArray) (m : Int) (w : World) (hs : s.size < 4294967281) (hm : w.cell? ⟨1, 0, none⟩ = some (.int .i64 m)) (h1 : 1 ≤ sep.size) :
    Calls Tryd.prog 78 #[.string s, .string sep] w fun e w' => e = .returned (.int .i64 (Lib.countB s sep)) ∧ w' = w := Any.strings_Count_any Tryd.lays138 s sep m w hs hm h1
def Tryd.lays221_ren : Go.Shelf.Ren := ⟨fun | 221 => 54 | 268 => 77 | 138 => 78 | 143 => 79 | 195 => 96 | 197 => 97 | 218 => 98 | 219 => 99 | 260 => 108 | 217 => 109 | 225 => 110 | 224 => 111 | 267 => 112 | 266 => 116 | 314 => 117 | n => n, fun | 9 => 9 | 3 => 3 | 31 => 31 | 4 => 4 | 0 => 0 | 105 => 126 | 21 => 21 | 5 => 5 | 46 => 83 | 119 => 134 | 139 => 137 | 138 => 136 | 146 => 138 | 51 => 77 | n => n, fun | 1 => 1 | 3 => 2 | 4 => 3 | n => n⟩
theorem Tryd.lays221 : Go.Proofs.Lays.n221 Tryd.prog Tryd.lays221_ren := {
  mixed := by kernel_rfl
  f138 := Tryd.func78.trans (congrArg some (by kernel_rfl))
  f143 := Tryd.func79.trans (congrArg some (by kernel_rfl))
  f195 := Tryd.func96.trans (congrArg some (by kernel_rfl))
  f197 := Tryd.func97.trans (congrArg some (by kernel_rfl))
  f217 := Tryd.func109.trans (congrArg some (by kernel_rfl))
  f218 := Tryd.func98.trans (congrArg some (by kernel_rfl))
  f219 := Tryd.func99.trans (congrArg some (by kernel_rfl))
  f221 := Tryd.func54.trans (congrArg some (by kernel_rfl))
  f224 := Tryd.func111.trans (congrArg some (by kernel_rfl))
  f225 := Tryd.func110.trans (congrArg some (by kernel_rfl))
  f260 := Tryd.func108.trans (congrArg some (by kernel_rfl))
  f266 := Tryd.func116.trans (congrArg some (by kernel_rfl))
  f267 := Tryd.func112.trans (congrArg some (by kernel_rfl))
  f268 := Tryd.func77.trans (congrArg some (by kernel_rfl))
  f314 := Tryd.func117.trans (congrArg some (by kernel_rfl))
  t0 := Tryd.underlying0
  a0 := Tryd.isAgg0
  z0 := Tryd.sizeOf0
  v0 := Tryd.zeroValue0
  t3 := Tryd.underlying3
  a3 := Tryd.isAgg3
  z3 := Tryd.sizeOf3
  v3 := Tryd.zeroValue3
  t4 := Tryd.underlying4
  a4 := Tryd.isAgg4
  z4 := Tryd.sizeOf4
  v4 := Tryd.zeroValue4
  t5 := Tryd.underlying5
  a5 := Tryd.isAgg5
  z5 := Tryd.sizeOf5
  v5 := Tryd.zeroValue5
  t9 := Tryd.underlying9
  a9 := Tryd.isAgg9
  z9 := Tryd.sizeOf9
  v9 := Tryd.zeroValue9
  t21 := Tryd.underlying21
  a21 := Tryd.isAgg21
  z21 := Tryd.sizeOf21
  v21 := Tryd.zeroValue21
  t31 := Tryd.underlying31
  a31 := Tryd.isAgg31
  z31 := Tryd.sizeOf31
  v31 := Tryd.zeroValue31
  t46 := Tryd.underlying83
  a46 := Tryd.isAgg83
  z46 := Tryd.sizeOf83
  v46 := Tryd.zeroValue83
  t51 := Tryd.underlying77
  a51 := Tryd.isAgg77
  z51 := Tryd.sizeOf77
  v51 := Tryd.zeroValue77
  t105 := Tryd.underlying126
  a105 := Tryd.isAgg126
  z105 := Tryd.sizeOf126
  v105 := Tryd.zeroValue126
  t119 := Tryd.underlying134
  a119 := Tryd.isAgg134
  z119 := Tryd.sizeOf134
  t138 := Tryd.underlying136
  a138 := Tryd.isAgg136
  z138 := Tryd.sizeOf136
  v138 := Tryd.zeroValue136
  t139 := Tryd.underlying137
  a139 := Tryd.isAgg137
  z139 := Tryd.sizeOf137
  v139 := Tryd.zeroValue137
  t146 := Tryd.underlying138
  a146 := Tryd.isAgg138
  z146 := Tryd.sizeOf138
  v146 := Tryd.zeroValue138
  g1 := by kernel_rfl
  g3 := by kernel_rfl
  g4 := by kernel_rfl }
open Go.RowKit Go.Lib in
theorem Tryd.strings_genSplit (s sep : ByteArray) (sv : Nat) (n : Int) (N : Nat) (m : Int) (w : World) (hs : s.size < 4294967281) (hm : w.cell? ⟨1, 0, none⟩ = some (.int .i64 m)) (h1 : 1 ≤ sep.size) (hsv : sv ≤ sep.size) (hn0 : n ≠ 0) (hn63 : n ≤ 9223372036854775807) (hN : (N : Int) = min (if n < 0 then (Lib.countB s sep : Int) + 1 else n) ((s.size : Int) + 1)) :
    Calls Tryd.prog 54 #[.string s, .string sep, .int .i64 sv, .int .i64 n] w fun e w' =>
      e = .returned (.slice (some ⟨w.heap.size, 0, none⟩) (Lib.splitB sep sv (N - 1) s).length N) ∧ w' = w.alloc (.cells (Lib.cellsOf (Lib.splitB sep sv (N - 1) s) N) 9) := Any.strings_genSplit Tryd.lays221 (by kernel_rfl) s sep sv n N m w hs hm h1 hsv hn0 hn63 hN
def Tryd.lays146_ren : Go.Shelf.Ren := ⟨fun | 146 => 29 | 221 => 54 | 268 => 77 | 138 => 78 | 143 => 79 | 195 => 96 | 197 => 97 | 218 => 98 | 219 => 99 | 260 => 108 | 217 => 109 | 225 => 110 | 224 => 111 | 267 => 112 | 266 => 116 | 314 => 117 | n => n, fun | 9 => 9 | 31 => 31 | 3 => 3 | 4 => 4 | 0 => 0 | 105 => 126 | 21 => 21 | 5 => 5 | 46 => 83 | 119 => 134 | 139 => 137 | 138 => 136 | 146 => 138 | 51 => 77 | n => n, fun | 1 => 1 | 3 => 2 | 4 => 3 | n => n⟩
theorem Tryd.lays146 : Go.Proofs.Lays.n146 Tryd.prog Tryd.lays146_ren := {
  mixed := by kernel_rfl
  f138 := Tryd.func78.trans (congrArg some (by kernel_rfl))
  f143 := Tryd.func79.trans (congrArg some (by kernel_rfl))
  f146 := Tryd.func29.trans (congrArg some (by kernel_rfl))
  f195 := Tryd.func96.trans (congrArg some (by kernel_rfl))
  f197 := Tryd.func97.trans (congrArg some (by kernel_rfl))
  f217 := Tryd.func109.trans (congrArg some (by kernel_rfl))
  f218 := Tryd.func98.trans (congrArg some (by kernel_rfl))
  f219 := Tryd.func99.trans (congrArg some (by kernel_rfl))
  f221 := Tryd.func54.trans (congrArg some (by kernel_rfl))
  f224 := Tryd.func111.trans (congrArg some (by kernel_rfl))
  f225 := Tryd.func110.trans (congrArg some (by kernel_rfl))
  f260 := Tryd.func108.trans (congrArg some (by kernel_rfl))
  f266 := Tryd.func116.trans (congrArg some (by kernel_rfl))
  f267 := Tryd.func112.trans (congrArg some (by kernel_rfl))
  f268 := Tryd.func77.trans (congrArg some (by kernel_rfl))
  f314 := Tryd.func117.trans (congrArg some (by kernel_rfl))
  t0 := Tryd.underlying0
  a0 := Tryd.isAgg0
  z0 := Tryd.sizeOf0
  v0 := Tryd.zeroValue0
  t3 := Tryd.underlying3
  a3 := Tryd.isAgg3
  z3 := Tryd.sizeOf3
  v3 := Tryd.zeroValue3
  t4 := Tryd.underlying4
  a4 := Tryd.isAgg4
  z4 := Tryd.sizeOf4
  v4 := Tryd.zeroValue4
  t5 := Tryd.underlying5
  a5 := Tryd.isAgg5
  z5 := Tryd.sizeOf5
  v5 := Tryd.zeroValue5
  t9 := Tryd.underlying9
  a9 := Tryd.isAgg9
  z9 := Tryd.sizeOf9
  v9 := Tryd.zeroValue9
  t21 := Tryd.underlying21
  a21 := Tryd.isAgg21
  z21 := Tryd.sizeOf21
  v21 := Tryd.zeroValue21
  t31 := Tryd.underlying31
  a31 := Tryd.isAgg31
  z31 := Tryd.sizeOf31
  v31 := Tryd.zeroValue31
  t46 := Tryd.underlying83
  a46 := Tryd.isAgg83
  z46 := Tryd.sizeOf83
  v46 := Tryd.zeroValue83
  t51 := Tryd.underlying77
  a51 := Tryd.isAgg77
  z51 := Tryd.sizeOf77
  v51 := Tryd.zeroValue77
  t105 := Tryd.underlying126
  a105 := Tryd.isAgg126
  z105 := Tryd.sizeOf126
  v105 := Tryd.zeroValue126
  t119 := Tryd.underlying134
  a119 := Tryd.isAgg134
  z119 := Tryd.sizeOf134
  t138 := Tryd.underlying136
  a138 := Tryd.isAgg136
  z138 := Tryd.sizeOf136
  v138 := Tryd.zeroValue136
  t139 := Tryd.underlying137
  a139 := Tryd.isAgg137
  z139 := Tryd.sizeOf137
  v139 := Tryd.zeroValue137
  t146 := Tryd.underlying138
  a146 := Tryd.isAgg138
  z146 := Tryd.sizeOf138
  v146 := Tryd.zeroValue138
  g1 := by kernel_rfl
  g3 := by kernel_rfl
  g4 := by kernel_rfl }
open Go.RowKit Go.Lib in
/-- strings.Split. (LAID: no walk: one application.) -/
theorem Tryd.strings_Split (s sep : ByteArray) (m : Int) (w : World) (hs : s.size < 4294967281) (hm : w.cell? ⟨1, 0, none⟩ = some (.int .i64 m)) (h1 : 1 ≤ sep.size) :
    Calls Tryd.prog 29 #[.string s, .string sep] w fun e w' =>
      e = .returned (.slice (some ⟨w.heap.size, 0, none⟩) (Lib.countB s sep + 1) (Lib.countB s sep + 1)) ∧ w' = w.alloc (.cells ((Lib.splitB sep 0 (Lib.countB s sep) s).map Value.string).toArray 9) := Any.strings_Split Tryd.lays146 (by kernel_rfl) s sep m w hs hm h1
def Tryd.laysM146_ren : Go.Shelf.Ren := ⟨fun | 146 => 29 | 221 => 54 | 268 => 77 | 138 => 78 | 143 => 79 | 195 => 96 | 197 => 97 | 218 => 98 | 219 => 99 | 260 => 108 | 217 => 109 | 225 => 110 | 224 => 111 | 267 => 112 | 266 => 116 | 314 => 117 | n => n, fun | 9 => 9 | 31 => 31 | 3 => 3 | 4 => 4 | 0 => 0 | 105 => 126 | 21 => 21 | 5 => 5 | 46 => 83 | 119 => 134 | 139 => 137 | 138 => 136 | 146 => 138 | 51 => 77 | n => n, fun | 1 => 1 | 3 => 2 | 4 => 3 | n => n⟩
theorem Tryd.laysM146 : Go.Proofs.LaysM.n146 Tryd.prog Tryd.laysM146_ren := {
  mixed := by kernel_rfl
  f138 := Tryd.func78.trans (congrArg some (by kernel_rfl))
  f143 := Tryd.func79.trans (congrArg some (by kernel_rfl))
  f146 := Tryd.func29.trans (congrArg some (by kernel_rfl))
  f195 := Tryd.func96.trans (congrArg some (by kernel_rfl))
  f197 := Tryd.func97.trans (congrArg some (by kernel_rfl))
  f217 := Tryd.func109.trans (congrArg some (by kernel_rfl))
  f218 := Tryd.func98.trans (congrArg some (by kernel_rfl))
  f219 := Tryd.func99.trans (congrArg some (by kernel_rfl))
  f221 := Tryd.func54.trans (congrArg some (by kernel_rfl))
  f224 := Tryd.func111.trans (congrArg some (by kernel_rfl))
  f225 := Tryd.func110.trans (congrArg some (by kernel_rfl))
  f260 := Tryd.func108.trans (congrArg some (by kernel_rfl))
  f266 := Tryd.func116.trans (congrArg some (by kernel_rfl))
  f267 := Tryd.func112.trans (congrArg some (by kernel_rfl))
  f268 := Tryd.func77.trans (congrArg some (by kernel_rfl))
  f314 := Tryd.func117.trans (congrArg some (by kernel_rfl))
  t0 := Tryd.underlying0
  a0 := Tryd.isAgg0
  z0 := Tryd.sizeOf0
  v0 := Tryd.zeroValue0
  t3 := Tryd.underlying3
  a3 := Tryd.isAgg3
  z3 := Tryd.sizeOf3
  v3 := Tryd.zeroValue3
  t4 := Tryd.underlying4
  a4 := Tryd.isAgg4
  z4 := Tryd.sizeOf4
  v4 := Tryd.zeroValue4
  t5 := Tryd.underlying5
  a5 := Tryd.isAgg5
  z5 := Tryd.sizeOf5
  v5 := Tryd.zeroValue5
  t9 := Tryd.underlying9
  a9 := Tryd.isAgg9
  z9 := Tryd.sizeOf9
  v9 := Tryd.zeroValue9
  t21 := Tryd.underlying21
  a21 := Tryd.isAgg21
  z21 := Tryd.sizeOf21
  v21 := Tryd.zeroValue21
  t31 := Tryd.underlying31
  a31 := Tryd.isAgg31
  z31 := Tryd.sizeOf31
  v31 := Tryd.zeroValue31
  t46 := Tryd.underlying83
  a46 := Tryd.isAgg83
  z46 := Tryd.sizeOf83
  v46 := Tryd.zeroValue83
  t51 := Tryd.underlying77
  a51 := Tryd.isAgg77
  z51 := Tryd.sizeOf77
  v51 := Tryd.zeroValue77
  t105 := Tryd.underlying126
  a105 := Tryd.isAgg126
  z105 := Tryd.sizeOf126
  v105 := Tryd.zeroValue126
  t119 := Tryd.underlying134
  a119 := Tryd.isAgg134
  z119 := Tryd.sizeOf134
  t138 := Tryd.underlying136
  a138 := Tryd.isAgg136
  z138 := Tryd.sizeOf136
  v138 := Tryd.zeroValue136
  t139 := Tryd.underlying137
  a139 := Tryd.isAgg137
  z139 := Tryd.sizeOf137
  v139 := Tryd.zeroValue137
  t146 := Tryd.underlying138
  a146 := Tryd.isAgg138
  z146 := Tryd.sizeOf138
  v146 := Tryd.zeroValue138
  g1 := by kernel_rfl
  g3 := by kernel_rfl
  g4 := by kernel_rfl
  i0 := by kernel_rfl
  i3 := by kernel_rfl
  i4 := by kernel_rfl
  i5 := by kernel_rfl
  i9 := by kernel_rfl
  i21 := by kernel_rfl
  i31 := by kernel_rfl
  i46 := by kernel_rfl
  i51 := by kernel_rfl
  i105 := by kernel_rfl
  i138 := by kernel_rfl
  i139 := by kernel_rfl
  i146 := by kernel_rfl
  m1 := by kernel_rfl
  s1_3 := fun w h => Go.Proofs.cell_of_shapedOpen_int (zero := #[.int .i64 0]) (t := 3) h (of_decide_eq_true (by kernel_rfl)) (by kernel_rfl) rfl (by kernel_rfl) (by kernel_rfl) Tryd.underlying3
  m3 := by kernel_rfl
  m4 := by kernel_rfl }
open Go.RowKit Go.Lib in
/-- strings.Split, sep not empty. (LAID: no walk: one application.) -/
theorem Tryd.strings_Split_shaped (s sep : ByteArray) (w : World) (h : w.ShapedOpen Tryd.prog) (hs : s.size < 4294967281) (h1 : 1 ≤ sep.size) :
    Calls Tryd.prog 29 #[.string s, .string sep] w fun e w' =>
      e = .returned (.slice (some ⟨w.heap.size, 0, none⟩) (Lib.countB s sep + 1) (Lib.countB s sep + 1)) ∧ w' = w.alloc (.cells ((Lib.splitB sep 0 (Lib.countB s sep) s).map Value.string).toArray 9) := Any.strings_Split_shaped Tryd.laysM146 s sep w h hs h1
def Tryd.lays197_ren : Go.Shelf.Ren := ⟨fun | 197 => 97 | 260 => 108 | n => n, fun | 9 => 9 | 21 => 21 | 3 => 3 | 4 => 4 | 5 => 5 | 105 => 126 | 119 => 134 | 0 => 0 | 46 => 83 | 139 => 137 | 138 => 136 | n => n, fun | 3 => 2 | 4 => 3 | n => n⟩
theorem Tryd.lays197 : Go.Proofs.Lays.n197 Tryd.prog Tryd.lays197_ren := {
  mixed := by kernel_rfl
  f197 := Tryd.func97.trans (congrArg some (by kernel_rfl))
  f260 := Tryd.func108.trans (congrArg some (by kernel_rfl))
  t0 := Tryd.underlying0
  a0 := Tryd.isAgg0
  z0 := Tryd.sizeOf0
  v0 := Tryd.zeroValue0
  t3 := Tryd.underlying3
  a3 := Tryd.isAgg3
  z3 := Tryd.sizeOf3
  v3 := Tryd.zeroValue3
  t4 := Tryd.underlying4
  a4 := Tryd.isAgg4
  z4 := Tryd.sizeOf4
  v4 := Tryd.zeroValue4
  t5 := Tryd.underlying5
  a5 := Tryd.isAgg5
  z5 := Tryd.sizeOf5
  v5 := Tryd.zeroValue5
  t9 := Tryd.underlying9
  a9 := Tryd.isAgg9
  z9 := Tryd.sizeOf9
  v9 := Tryd.zeroValue9
  t21 := Tryd.underlying21
  a21 := Tryd.isAgg21
  z21 := Tryd.sizeOf21
  v21 := Tryd.zeroValue21
  t46 := Tryd.underlying83
  a46 := Tryd.isAgg83
  z46 := Tryd.sizeOf83
  v46 := Tryd.zeroValue83
  t105 := Tryd.underlying126
  a105 := Tryd.isAgg126
  z105 := Tryd.sizeOf126
  v105 := Tryd.zeroValue126
  t119 := Tryd.underlying134
  a119 := Tryd.isAgg134
  z119 := Tryd.sizeOf134
  t138 := Tryd.underlying136
  a138 := Tryd.isAgg136
  z138 := Tryd.sizeOf136
  v138 := Tryd.zeroValue136
  t139 := Tryd.underlying137
  a139 := Tryd.isAgg137
  z139 := Tryd.sizeOf137
  v139 := Tryd.zeroValue137
  g3 := by kernel_rfl
  g4 := by kernel_rfl }
open Go.RowKit Go.Lib in
/-- unicode/utf8.DecodeRuneInString: "DecodeRuneInString is like DecodeRune but its input is a string.": ("DecodeRune unpacks the first UTF-8 encoding in p and returns the rune and its width in bytes."): WHERE s BEGINS WITH AN ASCII BYTE x: (x, 1). (LAID: no walk: one application.) -/
theorem Tryd.utf8_DecodeRuneInString_ascii (s : ByteArray) (x : UInt8) (w : World) (h0 : s.data.toList[0]? = some x) (hx : x.toNat < 128) :
    Calls Tryd.prog 97 #[.string s] w fun e w' => e = .returned (.tuple #[.int .i32 x.toNat, .int .i64 1]) ∧ w' = w := Any.utf8_DecodeRuneInString_ascii Tryd.lays197 s x w h0 hx
def Tryd.lays195_ren : Go.Shelf.Ren := ⟨fun | 195 => 96 | n => n, fun | 9 => 9 | 3 => 3 | 0 => 0 | 4 => 4 | n => n, fun | n => n⟩
theorem Tryd.lays195 : Go.Proofs.Lays.n195 Tryd.prog Tryd.lays195_ren := {
  mixed := by kernel_rfl
  f195 := Tryd.func96.trans (congrArg some (by kernel_rfl))
  t0 := Tryd.underlying0
  a0 := Tryd.isAgg0
  z0 := Tryd.sizeOf0
  v0 := Tryd.zeroValue0
  t3 := Tryd.underlying3
  a3 := Tryd.isAgg3
  z3 := Tryd.sizeOf3
  v3 := Tryd.zeroValue3
  t4 := Tryd.underlying4
  a4 := Tryd.isAgg4
  z4 := Tryd.sizeOf4
  v4 := Tryd.zeroValue4
  t9 := Tryd.underlying9
  a9 := Tryd.isAgg9
  z9 := Tryd.sizeOf9
  v9 := Tryd.zeroValue9 }
open Go.RowKit Go.Lib in
theorem Tryd.utf8_RuneCountInString_ascii (s : ByteArray) (w : World) (hs : s.size < 4294967281) (hascii : ∀ (j : Nat) b, s.data.toList[j]? = some b → b.toNat < 128) :
    Calls Tryd.prog 96 #[.string s] w fun e w' => e = .returned (.int .i64 s.size) ∧ w' = w.iter s s.size := Any.utf8_RuneCountInString_ascii Tryd.lays195 s w hs hascii
def Tryd.lays268_ren : Go.Shelf.Ren := ⟨fun | 268 => 77 | 195 => 96 | 197 => 97 | 260 => 108 | n => n, fun | 9 => 9 | 3 => 3 | 31 => 31 | 4 => 4 | 105 => 126 | 21 => 21 | 0 => 0 | 5 => 5 | 119 => 134 | 46 => 83 | 139 => 137 | 138 => 136 | n => n, fun | 3 => 2 | 4 => 3 | n => n⟩
theorem Tryd.lays268 : Go.Proofs.Lays.n268 Tryd.prog Tryd.lays268_ren := {
  mixed := by kernel_rfl
  f195 := Tryd.func96.trans (congrArg some (by kernel_rfl))
  f197 := Tryd.func97.trans (congrArg some (by kernel_rfl))
  f260 := Tryd.func108.trans (congrArg some (by kernel_rfl))
  f268 := Tryd.func77.trans (congrArg some (by kernel_rfl))
  t0 := Tryd.underlying0
  a0 := Tryd.isAgg0
  z0 := Tryd.sizeOf0
  v0 := Tryd.zeroValue0
  t3 := Tryd.underlying3
  a3 := Tryd.isAgg3
  z3 := Tryd.sizeOf3
  v3 := Tryd.zeroValue3
  t4 := Tryd.underlying4
  a4 := Tryd.isAgg4
  z4 := Tryd.sizeOf4
  v4 := Tryd.zeroValue4
  t5 := Tryd.underlying5
  a5 := Tryd.isAgg5
  z5 := Tryd.sizeOf5
  v5 := Tryd.zeroValue5
  t9 := Tryd.underlying9
  a9 := Tryd.isAgg9
  z9 := Tryd.sizeOf9
  v9 := Tryd.zeroValue9
  t21 := Tryd.underlying21
  a21 := Tryd.isAgg21
  z21 := Tryd.sizeOf21
  v21 := Tryd.zeroValue21
  t31 := Tryd.underlying31
  a31 := Tryd.isAgg31
  z31 := Tryd.sizeOf31
  v31 := Tryd.zeroValue31
  t46 := Tryd.underlying83
  a46 := Tryd.isAgg83
  z46 := Tryd.sizeOf83
  v46 := Tryd.zeroValue83
  t105 := Tryd.underlying126
  a105 := Tryd.isAgg126
  z105 := Tryd.sizeOf126
  v105 := Tryd.zeroValue126
  t119 := Tryd.underlying134
  a119 := Tryd.isAgg134
  z119 := Tryd.sizeOf134
  t138 := Tryd.underlying136
  a138 := Tryd.isAgg136
  z138 := Tryd.sizeOf136
  v138 := Tryd.zeroValue136
  t139 := Tryd.underlying137
  a139 := Tryd.isAgg137
  z139 := Tryd.sizeOf137
  v139 := Tryd.zeroValue137
  g3 := by kernel_rfl
  g4 := by kernel_rfl }
open Go.RowKit Go.Lib in
theorem Tryd.strings_explode_all (s : ByteArray) (n : Int) (w : World) (hn : n < 0) (hs : s.size < 4294967281) (hascii : ∀ (j : Nat) b, s.data.toList[j]? = some b → b.toNat < 128) :
    Calls Tryd.prog 77 #[.string s, .int .i64 n] w fun e w' =>
      e = .returned (.slice (some ⟨(w.iter s s.size).heap.size, 0, none⟩) s.size s.size) ∧ w' = (w.iter s s.size).alloc (.cells ((Lib.charsB s).map Value.string).toArray 9) := Any.strings_explode_all Tryd.lays268 (by kernel_rfl) s n w hn hs hascii
open Go.RowKit Go.Lib in
/-- strings.genSplit at sep == "", n < 0: 'return explode(s, n)'. (LAID: no walk: one application.) -/
theorem Tryd.strings_genSplit_chars (s sep : ByteArray) (sv n : Int) (w : World) (h0 : sep.size = 0) (hn : n < 0) (hs : s.size < 4294967281) (hascii : ∀ (j : Nat) b, s.data.toList[j]? = some b → b.toNat < 128) :
    Calls Tryd.prog 54 #[.string s, .string sep, .int .i64 sv, .int .i64 n] w fun e w' =>
      e = .returned (.slice (some ⟨(w.iter s s.size).heap.size, 0, none⟩) s.size s.size) ∧ w' = (w.iter s s.size).alloc (.cells ((Lib.charsB s).map Value.string).toArray 9) := Any.strings_genSplit_chars Tryd.lays221 (by kernel_rfl) s sep sv n w h0 hn hs hascii
open Go.RowKit Go.Lib in
/-- strings.Split(s, ""), s ASCII: a piece a byte. (LAID: no walk: one application.) -/
theorem Tryd.strings_Split_chars (s sep : ByteArray) (w : World) (h0 : sep.size = 0) (hs : s.size < 4294967281) (hascii : ∀ (j : Nat) b, s.data.toList[j]? = some b → b.toNat < 128) :
    Calls Tryd.prog 29 #[.string s, .string sep] w fun e w' =>
      e = .returned (.slice (some ⟨(w.iter s s.size).heap.size, 0, none⟩) s.size s.size) ∧ w' = (w.iter s s.size).alloc (.cells ((Lib.charsB s).map Value.string).toArray 9) := Any.strings_Split_chars Tryd.lays146 (by kernel_rfl) s sep w h0 hs hascii
def Tryd.lays260_ren : Go.Shelf.Ren := ⟨fun | 260 => 108 | n => n, fun | 9 => 9 | 21 => 21 | 3 => 3 | 4 => 4 | 5 => 5 | 119 => 134 | 0 => 0 | 46 => 83 | 139 => 137 | 138 => 136 | n => n, fun | 3 => 2 | 4 => 3 | n => n⟩
theorem Tryd.lays260 : Go.Proofs.Lays.n260 Tryd.prog Tryd.lays260_ren := {
  mixed := by kernel_rfl
  f260 := Tryd.func108.trans (congrArg some (by kernel_rfl))
  t0 := Tryd.underlying0
  a0 := Tryd.isAgg0
  z0 := Tryd.sizeOf0
  v0 := Tryd.zeroValue0
  t3 := Tryd.underlying3
  a3 := Tryd.isAgg3
  z3 := Tryd.sizeOf3
  v3 := Tryd.zeroValue3
  t4 := Tryd.underlying4
  a4 := Tryd.isAgg4
  z4 := Tryd.sizeOf4
  v4 := Tryd.zeroValue4
  t5 := Tryd.underlying5
  a5 := Tryd.isAgg5
  z5 := Tryd.sizeOf5
  v5 := Tryd.zeroValue5
  t9 := Tryd.underlying9
  a9 := Tryd.isAgg9
  z9 := Tryd.sizeOf9
  v9 := Tryd.zeroValue9
  t21 := Tryd.underlying21
  a21 := Tryd.isAgg21
  z21 := Tryd.sizeOf21
  v21 := Tryd.zeroValue21
  t46 := Tryd.underlying83
  a46 := Tryd.isAgg83
  z46 := Tryd.sizeOf83
  v46 := Tryd.zeroValue83
  t119 := Tryd.underlying134
  a119 := Tryd.isAgg134
  z119 := Tryd.sizeOf134
  t138 := Tryd.underlying136
  a138 := Tryd.isAgg136
  z138 := Tryd.sizeOf136
  v138 := Tryd.zeroValue136
  t139 := Tryd.underlying137
  a139 := Tryd.isAgg137
  z139 := Tryd.sizeOf137
  v139 := Tryd.zeroValue137
  g3 := by kernel_rfl
  g4 := by kernel_rfl }
open Go.RowKit Go.Lib in
theorem Tryd.utf8_decodeRuneInStringSlow (s : ByteArray) (w : World) (hT : Lib.Utf8Tabs 2 3 w) :
    Calls Tryd.prog 108 #[.string s] w fun e w' => e = .returned (.tuple #[.int .i32 (Lib.decodeGo s).1, .int .i64 (Lib.decodeGo s).2]) ∧ Below w.heap.size w w' := Any.utf8_decodeRuneInStringSlow Tryd.lays260 s w hT
open Go.RowKit Go.Lib in
/-- **unicode/utf8.DecodeRuneInString AT EVERY STRING.** (LAID: no walk: one application.) -/
theorem Tryd.utf8_DecodeRuneInString (s : ByteArray) (w : World) (hT : Lib.Utf8Tabs 2 3 w) :
    Calls Tryd.prog 97 #[.string s] w fun e w' => e = .returned (.tuple #[.int .i32 (Lib.decodeGo s).1, .int .i64 (Lib.decodeGo s).2]) ∧ Below w.heap.size w w' := Any.utf8_DecodeRuneInString Tryd.lays197 s w hT
def Tryd.lays229_ren : Go.Shelf.Ren := ⟨fun | 229 => 34 | n => n, fun | 9 => 9 | 40 => 61 | 31 => 31 | 152 => 91 | 3 => 3 | 0 => 0 | 4 => 4 | 21 => 21 | 154 => 93 | n => n, fun | n => n⟩
theorem Tryd.lays229 : Go.Proofs.Lays.n229 Tryd.prog Tryd.lays229_ren := {
  mixed := by kernel_rfl
  f229 := Tryd.func34.trans (congrArg some (by kernel_rfl))
  t0 := Tryd.underlying0
  a0 := Tryd.isAgg0
  z0 := Tryd.sizeOf0
  v0 := Tryd.zeroValue0
  t3 := Tryd.underlying3
  a3 := Tryd.isAgg3
  z3 := Tryd.sizeOf3
  v3 := Tryd.zeroValue3
  t4 := Tryd.underlying4
  a4 := Tryd.isAgg4
  z4 := Tryd.sizeOf4
  v4 := Tryd.zeroValue4
  t9 := Tryd.underlying9
  a9 := Tryd.isAgg9
  z9 := Tryd.sizeOf9
  v9 := Tryd.zeroValue9
  t21 := Tryd.underlying21
  a21 := Tryd.isAgg21
  z21 := Tryd.sizeOf21
  v21 := Tryd.zeroValue21
  t31 := Tryd.underlying31
  a31 := Tryd.isAgg31
  z31 := Tryd.sizeOf31
  v31 := Tryd.zeroValue31
  t40 := Tryd.underlying61
  a40 := Tryd.isAgg61
  z40 := Tryd.sizeOf61
  v40 := Tryd.zeroValue61
  t152 := Tryd.underlying91
  a152 := Tryd.isAgg91
  z152 := Tryd.sizeOf91
  v152 := Tryd.zeroValue91
  t154 := Tryd.underlying93
  a154 := Tryd.isAgg93
  z154 := Tryd.sizeOf93
  v154 := Tryd.zeroValue93 }
open Go.RowKit Go.Lib in
theorem Tryd.strings_FieldsFunc_runes (g : Nat) (lb : Array Value) (eg : ∀ args w, (callFunc g args).run Tryd.prog w = .ok (.enter g args) w) (p : Nat → Bool) (s : ByteArray) (w : World) (hs : s.size ≤ 4294967296) (hp : PredAtRunes Tryd.prog g lb p w) :
    Calls Tryd.prog 34 #[.string s, .func (.func g) #[] lb] w fun e w' => ∃ A, e = .returned (.slice (some ⟨A, 0, none⟩) (Lib.goFieldsP p s).length (Lib.goFieldsP p s).length) ∧ w.heap.size ≤ A ∧
      w'.ownsRow w.heap.size 9 1 (.slice (some ⟨A, 0, none⟩) (Lib.goFieldsP p s).length (Lib.goFieldsP p s).length) (Lib.goFieldsP p s).length ((Lib.goFieldsP p s).map Value.string) ∧ Below w.heap.size w w' := Any.strings_FieldsFunc_runes Tryd.lays229 g lb eg p s w hs hp (by kernel_rfl) (by kernel_rfl)
open Go.RowKit Go.Lib in
/-- .. over a hand of the authors' house's premise as it stands. (LAID: no walk: one application.) -/
theorem Tryd.strings_FieldsFunc (g : Nat) (lb : Array Value) (eg : ∀ args w, (callFunc g args).run Tryd.prog w = .ok (.enter g args) w) (p : Nat → Bool) (s : ByteArray) (w : World) (hs : s.size ≤ 4294967296) (hp : PredAt Tryd.prog g lb encR p w) :
    Calls Tryd.prog 34 #[.string s, .func (.func g) #[] lb] w fun e w' => ∃ A, e = .returned (.slice (some ⟨A, 0, none⟩) (Lib.goFieldsP p s).length (Lib.goFieldsP p s).length) ∧ w.heap.size ≤ A ∧
      w'.ownsRow w.heap.size 9 1 (.slice (some ⟨A, 0, none⟩) (Lib.goFieldsP p s).length (Lib.goFieldsP p s).length) (Lib.goFieldsP p s).length ((Lib.goFieldsP p s).map Value.string) ∧ Below w.heap.size w w' := Any.strings_FieldsFunc Tryd.lays229 g lb eg p s w hs hp (by kernel_rfl) (by kernel_rfl)
open Go.RowKit Go.Lib in
theorem Tryd.strings_FieldsFunc_grows (g : Nat) (lb : Array Value) (eg : ∀ args w, (callFunc g args).run Tryd.prog w = .ok (.enter g args) w) (p : Nat → Bool) (s : ByteArray) (w : World) (hs : s.size ≤ 4294967296) (hp : PredGrows Tryd.prog g lb p w) :
    Calls Tryd.prog 34 #[.string s, .func (.func g) #[] lb] w fun e w' => ∃ A, e = .returned (.slice (some ⟨A, 0, none⟩) (Lib.goFieldsP p s).length (Lib.goFieldsP p s).length) ∧ w.heap.size ≤ A ∧
      w'.ownsRow w.heap.size 9 1 (.slice (some ⟨A, 0, none⟩) (Lib.goFieldsP p s).length (Lib.goFieldsP p s).length) (Lib.goFieldsP p s).length ((Lib.goFieldsP p s).map Value.string) ∧ Below w.heap.size w w' := Any.strings_FieldsFunc_grows Tryd.lays229 g lb eg p s w hs hp (by kernel_rfl) (by kernel_rfl)
def Tryd.laysSlH6_f105_ren : Go.Shelf.Ren := ⟨fun | 6 => 105 | n => n, fun | 22 => 31 | 23 => 9 | 25 => 36 | 3 => 3 | 0 => 0 | 4 => 4 | n => n, fun | n => n⟩
theorem Tryd.laysSlH6_f105 : Go.Proofs.SlLaysH.n6 Tryd.prog Tryd.laysSlH6_f105_ren := {
  mixed := by kernel_rfl
  f6 := ⟨Tryd.f105.name, by decide, Tryd.func105.trans (congrArg some (by kernel_rfl))⟩
  t0 := Tryd.underlying0
  a0 := Tryd.isAgg0
  z0 := Tryd.sizeOf0
  v0 := Tryd.zeroValue0
  t3 := Tryd.underlying3
  a3 := Tryd.isAgg3
  z3 := Tryd.sizeOf3
  v3 := Tryd.zeroValue3
  t4 := Tryd.underlying4
  a4 := Tryd.isAgg4
  z4 := Tryd.sizeOf4
  v4 := Tryd.zeroValue4
  t22 := Tryd.underlying31
  a22 := Tryd.isAgg31
  z22 := Tryd.sizeOf31
  v22 := Tryd.zeroValue31
  a23 := Tryd.isAgg9
  z23 := Tryd.sizeOf9
  t25 := Tryd.underlying36
  a25 := Tryd.isAgg36
  z25 := Tryd.sizeOf36
  v25 := Tryd.zeroValue36 }
open Go.RowKit Go.Lib in
/-- slices.IndexFunc: "IndexFunc returns the first index i satisfying f(s[i]), or -1 if none do." (LAID AT THE INSTANCE 'slices.IndexFunc[[]string,string]': no walk: one application.) -/
theorem Tryd.slices_IndexFunc {α : Type} [Inhabited α] (enc : α → Value) (p : α → Bool) (g : Nat) (lb : Array Value) (eg : ∀ args w, (callFunc g args).run Tryd.prog w = .ok (.enter g args) w) (b off n c : Nat) (zs : List α) (w : World) (hp : PredAt Tryd.prog g lb enc p w) (hz : n ≤ zs.length) (hbig : n ≤ 9223372036854775807) (hc : ∀ j, j < zs.length → w.cell? ⟨b, off + j, none⟩ = some (enc zs[j]!)) :
    Calls Tryd.prog 105 #[.slice (some ⟨b, off, none⟩) n c, .func (.func g) #[] lb] w fun e w' => e = .returned (.int .i64 (Lib.idxBy (fun _ y => p y) (zs.take n) default)) ∧ ∃ q, w' = w.drewN q := AnyE.slices_IndexFunc Tryd.laysSlH6_f105 enc p g lb eg b off n c zs w hp hz hbig hc
open Go.RowKit Go.Lib in
/-- The same at a slice of length 0, a nil one too: the predicate is not called: nothing is asked of it. (LAID AT THE INSTANCE 'slices.IndexFunc[[]string,string]': no walk: one application.) -/
theorem Tryd.slices_IndexFunc_empty {α : Type} [Inhabited α] (a : Option Addr) (c : Nat) (fv : Value) (w : World) :
    Calls Tryd.prog 105 #[.slice a 0 c, fv] w fun e w' => e = .returned (.int .i64 (-1)) ∧ w' = w := AnyE.slices_IndexFunc_empty Tryd.laysSlH6_f105 a c fv w
def Tryd.laysSlH8_f90_ren : Go.Shelf.Ren := ⟨fun | 8 => 90 | 6 => 105 | n => n, fun | 22 => 31 | 23 => 9 | 25 => 36 | 4 => 4 | 3 => 3 | 0 => 0 | n => n, fun | n => n⟩
theorem Tryd.laysSlH8_f90 : Go.Proofs.SlLaysH.n8 Tryd.prog Tryd.laysSlH8_f90_ren := {
  mixed := by kernel_rfl
  f6 := ⟨Tryd.f105.name, by decide, Tryd.func105.trans (congrArg some (by kernel_rfl))⟩
  f8 := ⟨Tryd.f90.name, by decide, Tryd.func90.trans (congrArg some (by kernel_rfl))⟩
  t0 := Tryd.underlying0
  a0 := Tryd.isAgg0
  z0 := Tryd.sizeOf0
  v0 := Tryd.zeroValue0
  t3 := Tryd.underlying3
  a3 := Tryd.isAgg3
  z3 := Tryd.sizeOf3
  v3 := Tryd.zeroValue3
  t4 := Tryd.underlying4
  a4 := Tryd.isAgg4
  z4 := Tryd.sizeOf4
  v4 := Tryd.zeroValue4
  t22 := Tryd.underlying31
  a22 := Tryd.isAgg31
  z22 := Tryd.sizeOf31
  v22 := Tryd.zeroValue31
  a23 := Tryd.isAgg9
  z23 := Tryd.sizeOf9
  t25 := Tryd.underlying36
  a25 := Tryd.isAgg36
  z25 := Tryd.sizeOf36
  v25 := Tryd.zeroValue36 }
open Go.RowKit Go.Lib in
/-- slices.ContainsFunc: "ContainsFunc reports whether at least one element e of s satisfies f(e).": ITS CALLEE slices.IndexFunc IS MET BY ITS OWN CONTRACT. (LAID AT THE INSTANCE 'slices.ContainsFunc[[]string,string]': no walk: one application.) -/
theorem Tryd.slices_ContainsFunc {α : Type} [Inhabited α] (enc : α → Value) (p : α → Bool) (g : Nat) (lb : Array Value) (eg : ∀ args w, (callFunc g args).run Tryd.prog w = .ok (.enter g args) w) (b off n c : Nat) (zs : List α) (w : World) (hp : PredAt Tryd.prog g lb enc p w) (hz : n ≤ zs.length) (hbig : n ≤ 9223372036854775807) (hc : ∀ j, j < zs.length → w.cell? ⟨b, off + j, none⟩ = some (enc zs[j]!)) :
    Calls Tryd.prog 90 #[.slice (some ⟨b, off, none⟩) n c, .func (.func g) #[] lb] w fun e w' => e = .returned (.bool ((zs.take n).any p)) ∧ ∃ q, w' = w.drewN q := AnyE.slices_ContainsFunc Tryd.laysSlH8_f90 enc p g lb eg b off n c zs w hp hz hbig hc
open Go.RowKit Go.Lib in
/-- The same at a slice of length 0, a nil one too. (LAID AT THE INSTANCE 'slices.ContainsFunc[[]string,string]': no walk: one application.) -/
theorem Tryd.slices_ContainsFunc_empty {α : Type} [Inhabited α] (a : Option Addr) (c : Nat) (fv : Value) (w : World) :
    Calls Tryd.prog 90 #[.slice a 0 c, fv] w fun e w' => e = .returned (.bool false) ∧ w' = w := AnyE.slices_ContainsFunc_empty Tryd.laysSlH8_f90 a c fv w
end Go.Proofs
/-
  Ext: functions of the library on texts, out of the kit's contracts. Own work of this seat.
-/
namespace Go.Proofs.YtghjeddphkmciaaDoor
open Go.Abs Go.RowKit

theorem callable_of {P : Program} {f : FuncId} {fn : Func} (hf : P.funcs[f]? = some fn) (h : (fn.name == "runtime.NumGoroutine") = false) (hb : fn.body.isNone = false) : Callable P f := ⟨fn, hf, by simpa using h, hb⟩
theorem rep_str {W : World} {G φ} {s : Bytes} {x : Value} (h : Rep W G φ (.str s) x) : ∃ t : ByteArray, x = .string t ∧ t.data.toList = s := by
  cases h with
  | str l t h => exact ⟨t, rfl, h⟩
theorem repL2 {W : World} {G φ} {u v : V} {xs : Array Value} (h : RepL W G φ [u, v] xs) : ∃ x y, xs = #[x, y] ∧ Rep W G φ u x ∧ Rep W G φ v y := by
  obtain ⟨hl, h⟩ := h
  obtain ⟨l⟩ := xs
  match l, hl with
  | [x, y], _ => exact ⟨x, y, rfl, h 0 u x rfl rfl, h 1 v y rfl rfl⟩
theorem HasMax.at {w : World} (h : HasMax w) {W : World} {G : Nat → Nat} (hW : OKW (cxD w) W G) : ∃ m, W.cell? ⟨1, 0, none⟩ = some (.int .i64 m) := by
  obtain ⟨m, hm⟩ := h
  refine ⟨m, ?_⟩
  rw [hW.below.cell (p := ⟨1, 0, none⟩) ?_]
  · exact hm
  · rcases Nat.lt_or_ge 1 (cxD w).w0.heap.size with h0 | h0
    · exact h0
    · exfalso
      have : w.heap[(1 : Nat)]? = none := Array.getElem?_eq_none h0
      simp only [World.cell?, this] at hm
      cases hm
theorem two_str {args : List V} {a b : Bytes} (h : nfL args = [V.str a, V.str b]) : args = [.str a, .str b] := by
  obtain ⟨u, v, rfl, h1, h2⟩ := nfL_cons h
  obtain ⟨u', v', rfl, h3, h4⟩ := nfL_cons h2
  obtain rfl := nfL_nil h4
  rw [nf_str h1, nf_str h3]
theorem nfL_strs (l : List Bytes) : nfL (l.map .str) = l.map .str := by rw [nfL_map, List.map_map]; rfl

/-! ### strings.Split at one byte -/
def splitOn (c : UInt8) : Bytes → List Bytes
  | [] => [[]]
  | b :: r => if b = c then [] :: splitOn c r else match splitOn c r with
    | [] => [[b]]
    | x :: xs => (b :: x) :: xs
theorem splitK_one (c : UInt8) : ∀ s : Bytes, Lib.splitK [c] 0 (s.count c) s = splitOn c s
  | [] => rfl
  | b :: r => by
    have ih := splitK_one c r
    simp only [splitOn]
    by_cases h : b = c
    · subst h
      rw [List.count_cons_self, if_pos rfl]
      simp only [Lib.splitK, Lib.index]
      simp [ih]
    · rw [if_neg h, List.count_cons_of_ne h]
      cases hk : r.count c with
      | zero => rw [hk] at ih; simp only [Lib.splitK] at ih ⊢; rw [← ih]
      | succ k =>
        rw [hk] at ih
        simp only [Lib.splitK, Lib.index] at ih ⊢
        have hp : List.isPrefixOf [c] (b :: r) = false := by simp [List.isPrefixOf, Ne.symm h]
        simp only [hp, Bool.false_eq_true, if_false]
        by_cases hi : Lib.index r [c] = -1
        · simp only [hi, beq_self_eq_true, if_true] at ih ⊢
          rw [← ih]
        · have hge := Lib.index_ge r [c]
          have e1 : (Lib.index r [c] == -1) = false := by simpa using hi
          have e2 : (Lib.index r [c] + 1 == -1) = false := by simp; omega
          simp only [e1, e2, Bool.false_eq_true, if_false] at ih ⊢
          rw [← ih]
          have e3 : (Lib.index r [c] + 1).toNat = (Lib.index r [c]).toNat + 1 := by omega
          simp [e3]

def g.strings_Split (s c : Bytes) : Option (List Bytes) := if s.length < 4294967281 ∧ c.length = 1 then some (splitOn (c.headD 0) s) else none
def K.strings_Split : FC := fc 29 (fun _ => true) true (fun (a : Bytes × Bytes) => [V.str a.1, V.str a.2]) (fun (y : List Bytes) => .sl false 1 (y.map .str)) (fun a => g.strings_Split a.1 a.2)
  (fun _ => rfl) (fun y => cleanL_map (fun _ => rfl) y) (fun ⟨a, b⟩ ⟨c, d⟩ h => by simp at h; simp [h])
theorem H.strings_Split (w : World) (hw : EnvOK w) : K.strings_Split.Holds (cxD w) := by
  rintro args y ⟨⟨s, c⟩, r, ha, hg, rfl⟩
  obtain rfl := two_str ha
  simp only [g.strings_Split] at hg
  split at hg
  · rename_i hc
    cases hg
    refine ⟨.sl false 1 ((splitOn (c.headD 0) s).map .str), true, ?_, by show V.sl false 1 (nfL _) = _; rw [nfL_strs], fun _ => .inl rfl⟩
    refine PC.texts (callable_of Tryd.func29 (by kernel_rfl) (by kernel_rfl)) fun W G φ xs hW hxs => ?_
    obtain ⟨x, y, rfl, hx, hy⟩ := repL2 hxs
    obtain ⟨t, rfl, rfl⟩ := rep_str hx
    obtain ⟨u, rfl, hu⟩ := rep_str hy
    obtain ⟨m, hm⟩ := hw.max.at hW
    have hu1 : u.size = 1 := by rw [Lib.size_eq, hu]; exact hc.2
    have hsz : t.size < 4294967281 := by rw [Lib.size_eq]; exact hc.1
    refine (Tryd.strings_Split t u m W hsz hm (by omega)).mono fun e W' ⟨he, hW'⟩ => ?_
    have hlen := Lib.splitB_all u (by omega) 0 _ t rfl
    refine ⟨Lib.splitB u 0 (Lib.countB t u) t, _, ?_, by rw [he, hlen], hW'⟩
    have hu2 : u.data.toList = [c.headD 0] := by
      rw [hu]
      match c, hc.2 with
      | [b], _ => rfl
    rw [Lib.splitB_data, hu2]
    have : Lib.countB t u = t.data.toList.count (c.headD 0) := by
      unfold Lib.countB
      rw [hu2, Lib.count_one]
    rw [this, splitK_one]
  · cases hg

/-! ### strings.Contains -/
def g.strings_Contains (s c : Bytes) : Option Bool := if s.length < 4294967281 ∧ c.length = 1 then some (decide (c.headD 0 ∈ s)) else none
def K.strings_Contains : FC := fc 106 (fun _ => true) false (fun (a : Bytes × Bytes) => [V.str a.1, V.str a.2]) (fun (y : Bool) => .bool y) (fun a => g.strings_Contains a.1 a.2)
  (fun _ => rfl) (fun y => rfl) (fun ⟨a, b⟩ ⟨c, d⟩ h => by simp at h; simp [h])
theorem index_one (c : UInt8) : ∀ s : Bytes, (Lib.index s [c] = -1) ↔ c ∉ s
  | [] => by simp [Lib.index]
  | b :: r => by
    have ih := index_one c r
    have hge := Lib.index_ge r [c]
    simp only [Lib.index]
    by_cases h : b = c
    · subst h; simp
    · have hp : List.isPrefixOf [c] (b :: r) = false := by simp [List.isPrefixOf, Ne.symm h]
      simp only [hp, Bool.false_eq_true, if_false]
      by_cases hi : Lib.index r [c] = -1
      · simp [hi, ih.1 hi, Ne.symm h]
      · have e1 : (Lib.index r [c] == -1) = false := by simpa using hi
        have hm : c ∈ r := Classical.not_not.1 fun hn => hi (ih.2 hn)
        simp [e1, hm]; omega
theorem H.strings_Contains (w : World) (hw : EnvOK w) : K.strings_Contains.Holds (cxD w) := by
  rintro args y ⟨⟨s, c⟩, r, ha, hg, rfl⟩
  obtain rfl := two_str ha
  simp only [g.strings_Contains] at hg
  split at hg
  · rename_i hc
    cases hg
    refine ⟨.bool (decide (c.headD 0 ∈ s)), false, ?_, rfl, fun h => nomatch h⟩
    refine PC.pure (callable_of Tryd.func106 (by kernel_rfl) (by kernel_rfl)) fun W G φ xs hW hxs => ?_
    obtain ⟨x, y, rfl, hx, hy⟩ := repL2 hxs
    obtain ⟨t, rfl, rfl⟩ := rep_str hx
    obtain ⟨u, rfl, hu⟩ := rep_str hy
    obtain ⟨m, hm⟩ := hw.max.at hW
    have hsz : t.size < 4294967281 := by rw [Lib.size_eq]; exact hc.1
    refine (Tryd.strings_Contains t u m W hsz hm).mono fun e W' ⟨he, hW'⟩ => ?_
    subst hW'
    refine ⟨_, he, .refl _ _, fun _ _ => ?_⟩
    have hu2 : u.data.toList = [c.headD 0] := by
      rw [hu]
      match c, hc.2 with
      | [b], _ => rfl
    rw [hu2]
    have e : decide (0 ≤ Lib.index t.data.toList [c.headD 0]) = decide (c.headD 0 ∈ t.data.toList) := by
      have := index_one (c.headD 0) t.data.toList
      have hge := Lib.index_ge t.data.toList [c.headD 0]
      rw [decide_eq_decide]
      constructor
      · intro h; exact Classical.not_not.1 fun hn => by have := this.2 hn; omega
      · intro h
        have : Lib.index t.data.toList [c.headD 0] ≠ -1 := fun h' => (this.1 h') h
        omega
    have e2 : Lib.contains t.data.toList [c.headD 0] = decide (c.headD 0 ∈ t.data.toList) := e
    rw [e2]
    exact .bool _
  · cases hg
end Go.Proofs.YtghjeddphkmciaaDoor
