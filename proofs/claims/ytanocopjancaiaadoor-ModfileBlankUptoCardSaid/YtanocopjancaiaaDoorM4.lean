/-
  Parts of the proof, one behind the other. Own work of this seat; some printed by its programs.
-/
import Derived.Test.YtanocopjancaiaaDoorM3
import Derived.Test.YtanocopjancaiaaDoorProg
import Derived.Test.YtanocopjancaiaaDoorM1
import Derived.Shelf.Small.Utf8
import Derived.Shelf.Small.Strs
import Derived.Shelf.Strconv.Atoi
import Derived.Shelf.Strconv.Itoa0
import Derived.Shelf.Strconv.Itoa1
import Derived.Shelf.LaysM
import Derived.Shelf.Strconv.Itoa2
import Derived.Shelf.Strconv.Itoa3
import Derived.Shelf.Strconv.AtoiErrFast
import Derived.Shelf.Strconv.ParseIntEmpty
import Derived.Shelf.Strconv.AtoiFail
import Derived.Shelf.Strconv.Clone
import Derived.Shelf.Strconv.SyntaxError
import Derived.Shelf.LaysC
import Derived.Shelf.Strconv.ToError
import Derived.Shelf.Strconv.Lower
import Derived.Shelf.Strconv.ParseUint10
import Derived.Shelf.Strconv.ParseUint10Empty
import Derived.Shelf.Strconv.ParseUint10Any
import Derived.Shelf.Strconv.ParseInt10
import Derived.Shelf.Strconv.AtoiLong
import Derived.Shelf.Strconv.AtoiInnerAll
import Derived.Shelf.Strconv.RangeError
import Derived.Shelf.Strconv.ToErrorRange
import Derived.Shelf.Strconv.AtoiAll
import Derived.Shelf.Strings.Search1
import Derived.Shelf.Strings.Search2
import Derived.Shelf.Strings.Search3
import Derived.Shelf.Strings.Count
import Derived.Shelf.Strings.Shaped
import Derived.Shelf.Strings.Prefix
import Derived.Shelf.Strings.Split
import Derived.Shelf.Strings.SplitShaped
import Derived.Shelf.Unicode.Decode
import Derived.Shelf.Strings.Runes
import Derived.Shelf.Strings.RuneCount
import Derived.Shelf.Strings.IndexAny
import Derived.Shelf.Strings.AsciiSet
import Derived.Shelf.Strings.IndexAnyAll
import Derived.Shelf.Strings.Explode
import Derived.Shelf.Unicode.DecodeSlow
import Derived.Shelf.Unicode.DecodeAny
import Derived.Shelf.Strings.FieldsFuncAny
import Derived.Shelf.Strings.FieldsFuncGrows
import Derived.WalkKit
import Derived.Lib.OwnBridge
import Derived.Lib.SmallJoins
import Derived.Lib.FieldsP
import Derived.Lib.TrimUEq
import Derived.Laws.RangeAny
import Derived.Laws.Runes
import Derived.WalkMore
import Derived.Lib.OthersKept
import Derived.BigRegion
import Derived.Deep.RegionWith
import Derived.Deep.WholeRow
/-
  The functions of the program that are read: how many values they take, how objects look that they are given, and what their labels look like. Printed by programs of this seat (wip/y/tool.lean, asm.py).
-/
namespace Go.Proofs.YtanocopjancaiaaDoor
open Go.Abs

def tabs0 : List FE := [
  ⟨4, 4, false, 5, ⟨0, [], [], 0⟩, none, [(15, ⟨6, [(0, .at (.n 0 false false)), (1, .at (.n 1 false false)), (2, .at (.n 2 false false)), (3, .at (.n 3 false false)), (4, .at (.n 4 false false)), (42, .at (.n 5 false true))], [], 0⟩), (26, ⟨7, [(0, .at (.n 0 false false)), (1, .at (.n 1 false false)), (2, .at (.n 2 false false)), (3, .at (.n 3 false false)), (4, .at (.n 4 false false)), (11, .at (.n 5 false true)), (12, .at (.n 6 false false))], [], 0⟩), (37, ⟨6, [(0, .at (.n 0 false false)), (1, .at (.n 1 false false)), (2, .at (.n 2 false false)), (3, .at (.n 3 false false)), (4, .at (.n 4 false false)), (11, .at (.n 5 false true))], [], 0⟩), (47, ⟨8, [(2, .at (.n 0 false false)), (3, .at (.n 1 false false)), (4, .at (.n 2 false false)), (13, .at (.n 3 false true)), (14, .at (.ptr 0 0))], [some [.one (.n 4 false false), .one (.n 5 false false), .one (.n 6 true true), .one (.n 7 false true)]], 0⟩), (51, ⟨11, [(2, .at (.n 0 false false)), (3, .at (.n 1 false false)), (4, .at (.n 2 false false)), (13, .at (.n 3 false true)), (14, .at (.ptr 0 0)), (72, .at (.n 4 false false)), (73, .at (.n 5 false true)), (74, .at (.n 6 false true))], [some [.one (.n 7 false false), .one (.n 8 false false), .one (.n 9 true true), .one (.n 10 false true)]], 0⟩), (74, ⟨14, [(2, .at (.n 0 false false)), (3, .at (.n 1 false false)), (4, .at (.n 2 false false)), (13, .at (.n 3 false true)), (14, .at (.ptr 0 0)), (15, .at (.n 4 false true)), (16, .at (.n 5 false false)), (17, .at (.n 6 false true)), (72, .at (.n 7 false false)), (73, .at (.n 8 false true)), (74, .at (.n 9 false true))], [some [.one (.n 10 false false), .one (.n 11 false false), .one (.n 12 true true), .one (.n 13 false true)]], 0⟩)]⟩,
  ⟨6, 6, false, 0, ⟨0, [], [], 0⟩, none, []⟩,
  ⟨8, 8, false, 1, ⟨0, [], [], 0⟩, none, [(12, ⟨14, [(2, .at (.ptr 0 0)), (3, .at (.ptr 1 0)), (4, .at (.n 0 true false)), (11, .at (.n 1 false false)), (12, .at (.n 2 false true)), (13, .at (.n 3 false true))], [some [.one (.n 4 false true), .one (.n 5 false true), .one (.n 6 true true), .one (.n 7 false true)], some [.one (.n 8 false true), .one (.n 9 false true), .one (.n 10 true true), .one (.n 11 false true), .one (.n 12 false true), .one (.n 13 false true)]], 0⟩)]⟩,
  ⟨10, 10, false, 1, ⟨0, [], [], 0⟩, none, [(8, ⟨2, [(0, .at (.n 0 false false)), (3, .at (.n 1 false true))], [], 0⟩)]⟩,
  ⟨16, 16, false, 1, ⟨0, [], [], 0⟩, none, []⟩,
  ⟨18, 18, false, 2, ⟨0, [], [], 0⟩, none, []⟩,
  ⟨22, 22, false, 1, ⟨0, [], [], 0⟩, none, []⟩,
  ⟨36, 36, false, 1, ⟨0, [], [], 0⟩, none, []⟩,
  ⟨46, 46, false, 2, ⟨0, [], [], 0⟩, none, []⟩,
  ⟨58, 58, false, 2, ⟨0, [], [], 0⟩, none, []⟩,
  ⟨3, 3, false, 2, ⟨0, [], [], 0⟩, none, [(15, ⟨3, [(0, .at (.n 0 false false)), (1, .at (.n 1 false false)), (20, .at (.n 2 false true))], [], 0⟩), (24, ⟨3, [(0, .at (.n 0 false false)), (1, .at (.n 1 false false)), (5, .at (.n 2 false true))], [], 0⟩), (47, ⟨6, [(0, .at (.n 0 false false)), (1, .at (.n 1 false false)), (6, .at (.n 2 false true)), (32, .at (.n 3 true false)), (33, .at (.n 4 false true)), (34, .at (.n 5 false true))], [], 0⟩)]⟩,
  ⟨5, 5, false, 4, ⟨0, [], [], 0⟩, none, [(15, ⟨5, [(0, .at (.n 0 false false)), (1, .at (.n 1 false false)), (2, .at (.n 2 false false)), (3, .at (.n 3 false false)), (41, .at (.n 4 false true))], [], 0⟩), (28, ⟨10, [(0, .at (.n 0 false false)), (1, .at (.n 1 false false)), (2, .at (.n 2 false false)), (3, .at (.n 3 false false)), (9, .at (.n 4 false true)), (10, .at (.n 5 false true)), (11, .at (.n 6 false true)), (53, .at (.n 7 false false)), (54, .at (.n 8 false true)), (55, .at (.n 9 false true))], [], 0⟩), (51, ⟨13, [(0, .at (.n 0 false false)), (1, .at (.n 1 false false)), (2, .at (.n 2 false false)), (3, .at (.n 3 false false)), (9, .at (.n 4 false true)), (10, .at (.n 5 false true)), (11, .at (.n 6 false true)), (12, .at (.n 7 false true)), (13, .at (.n 8 false false)), (14, .at (.n 9 false true)), (53, .at (.n 10 false false)), (54, .at (.n 11 false true)), (55, .at (.n 12 false true))], [], 0⟩), (76, ⟨8, [(0, .at (.n 0 false false)), (1, .at (.n 1 false false)), (9, .at (.n 2 false true)), (10, .at (.n 3 false true)), (11, .at (.n 4 false true)), (85, .at (.n 5 false false)), (86, .at (.n 6 false true)), (87, .at (.n 7 false true))], [], 0⟩)]⟩,
  ⟨7, 7, true, 2, ⟨0, [], [], 0⟩, none, [(12, ⟨5, [(0, .at (.n 0 false false)), (1, .at (.n 1 false false)), (5, .at (.n 2 true true)), (6, .at (.n 3 false true)), (7, .at (.n 4 false true))], [], 0⟩)]⟩,
  ⟨9, 9, false, 2, ⟨0, [], [], 0⟩, none, [(7, ⟨3, [(2, .at (.ptr 0 0)), (3, .at (.ptr 1 0)), (33, .at (.n 0 false true))], [some [.many none (.n 1 false false)], some [.many none (.n 2 false false)]], 0⟩), (16, ⟨4, [(2, .at (.ptr 0 0)), (3, .at (.ptr 1 0)), (36, .at (.n 0 false true)), (37, .at (.n 1 false true))], [some [.many none (.n 2 false false)], some [.many none (.n 3 false false)]], 0⟩)]⟩,
  ⟨23, 23, false, 1, ⟨0, [], [], 0⟩, none, [(9, ⟨2, [(4, .at (.n 0 true false)), (26, .at (.n 1 false true))], [], 0⟩), (18, ⟨4, [(4, .at (.n 0 true false)), (27, .at (.n 1 false false)), (28, .at (.n 2 false true)), (29, .at (.n 3 false true))], [], 0⟩)]⟩,
  ⟨25, 25, false, 2, ⟨0, [], [], 0⟩, none, [(8, ⟨4, [(0, .at (.n 0 false false)), (1, .at (.n 1 false false)), (7, .at (.n 2 false true)), (8, .at (.n 3 false true))], [], 0⟩)]⟩,
  ⟨10192, 12, false, 2, ⟨7, [(0, .at (.ptr 0 0)), (1, .at (.n 0 false false))], [some [.one (.n 1 false true), .one (.n 2 false true), .one (.n 3 true true), .one (.n 4 false true), .one (.n 5 false true), .one (.n 6 false true)]], 1⟩, some [⟨7, [.n 0 false false], [some [.one (.n 1 false true), .one (.n 2 false true), .one (.n 3 true true), .one (.n 4 false true), .one (.n 5 false true), .one (.n 6 false true)]]⟩], [(12, ⟨7, [(0, .at (.ptr 0 0)), (1, .at (.n 0 false false))], [some [.one (.n 1 false true), .one (.n 2 false true), .one (.n 3 true true), .one (.n 4 false true), .one (.n 5 false true), .one (.n 6 false true)]], 1⟩), (24, ⟨8, [(0, .at (.ptr 0 0)), (6, .at (.n 0 true false)), (20, .at (.n 1 false true))], [some [.one (.n 2 false true), .one (.n 3 false true), .one (.n 4 true true), .one (.n 5 false true), .one (.n 6 false true), .one (.n 7 false true)]], 1⟩)]⟩,
  ⟨10272, 17, false, 3, ⟨8, [(0, .at (.ptr 0 0)), (1, .at (.n 0 false false)), (2, .at (.n 1 false false))], [some [.one (.n 2 false true), .one (.n 3 false true), .one (.n 4 true true), .one (.n 5 false true), .one (.n 6 false true), .one (.n 7 false true)]], 1⟩, some [⟨7, [.n 0 false false], [some [.one (.n 1 false true), .one (.n 2 false true), .one (.n 3 true true), .one (.n 4 false true), .one (.n 5 false true), .one (.n 6 false true)]]⟩], []⟩,
  ⟨10384, 24, false, 2, ⟨7, [(0, .at (.ptr 0 0)), (1, .at (.n 0 false false))], [some [.one (.n 1 false true), .one (.n 2 false true), .one (.n 3 true true), .one (.n 4 false true), .one (.n 5 false true), .one (.n 6 false true)]], 1⟩, some [⟨7, [.n 0 false true], [some [.one (.n 1 false true), .one (.n 2 false true), .one (.n 3 true true), .one (.n 4 false true), .one (.n 5 false true), .one (.n 6 false true)]]⟩], [(11, ⟨9, [(0, .at (.ptr 0 0)), (3, .at (.ptr 1 0)), (6, .at (.n 0 false true)), (35, .at (.n 1 false true))], [some [.one (.n 2 false true), .one (.n 3 false true), .one (.n 4 true true), .one (.n 5 false true), .one (.n 6 false true), .one (.n 7 false true)], some [.many none (.n 8 false false)]], 1⟩)]⟩,
  ⟨10592, 37, false, 2, ⟨2, [(0, .at (.n 0 false true)), (1, .at (.fp false 38 [(0, 0)]))], [some [.many none (.n 1 false false)]], 1⟩, some [⟨2, [.n 0 false true], [some [.many none (.n 1 false false)]]⟩], []⟩,
  ⟨10752, 47, false, 2, ⟨2, [(0, .at (.n 0 false true)), (1, .at (.fp false 38 [(0, 0)]))], [some [.many none (.n 1 false false)]], 1⟩, some [⟨2, [.n 0 false true], [some [.many none (.n 1 false false)]]⟩], [(8, ⟨4, [(0, .at (.n 0 false true)), (1, .at (.fp false 38 [(0, 0)])), (7, .at (.n 1 false true)), (8, .at (.n 2 false true))], [some [.many none (.n 3 false false)]], 1⟩)]⟩,
  ⟨10608, 38, false, 2, ⟨2, [(0, .at (.n 0 false false)), (1, .at (.ptr 0 0))], [some [.many none (.n 1 false false)]], 1⟩, some [⟨2, [.n 0 false true], [some [.many none (.n 1 false false)]]⟩], []⟩]
def tabs : List FE := tabs0
def extO : Nat → Bool := fun f => [11, 15].any (Nat.beq f)
def gls : Nat → Option (List V) := fun _ => none
def cfg : Cfg := cfgOf tabs extO gls
theorem keys : keysOK tabs = true := by kernel_rfl
noncomputable abbrev vl (e : Nat → List V → Option V) : Gam := val Tryd.prog tabs e cfg
end Go.Proofs.YtanocopjancaiaaDoor
/-
  What functions of the program come to, over values alone. Printed by programs of this seat (wip/y/tool.lean, asm.py).
-/
namespace Go.Proofs.YtanocopjancaiaaDoor
open Go.Abs

noncomputable def y.seichelaw17_ModfileMakes (Γ : Gam) (v0 v1 v2 v3 v4 : V) : Option V :=
  ca Γ 6 [] fun v5 =>
  pr (.un (.not)) [v5] fun v6 =>
  vif v6 (
    some (.bool false)) (
    ca Γ 10 [v0] fun v7 =>
    pr (.un (.not)) [v7] fun v8 =>
    vif v8 (
      Γ 4 15 [v0, v1, v2, v3, v4, (.bool true)]) (
      pr (.bin (.lss) (.no)) [v1, (.int .i64 0)] fun v9 =>
      vif v9 (
        Γ 4 15 [v0, v1, v2, v3, v4, (.bool true)]) (
        pr (.bin (.gtr) (.no)) [v1, (.int .i64 9999)] fun v10 =>
        vif v10 (
          Γ 4 15 [v0, v1, v2, v3, v4, (.bool true)]) (
          pr (.len false) [v2] fun v11 =>
          pr (.bin (.gtr) (.no)) [v11, (.int .i64 20)] fun v12 =>
          vif v12 (
            Γ 4 15 [v0, v1, v2, v3, v4, (.bool true)]) (
            pr (.len false) [v3] fun v13 =>
            pr (.len false) [v2] fun v14 =>
            pr (.bin (.lss) (.no)) [v13, v14] fun v15 =>
            Γ 4 15 [v0, v1, v2, v3, v4, v15])))))
theorem s.seichelaw17_ModfileMakes (e : Nat → List V → Option V) (Γ : Gam) (v0 v1 v2 v3 v4 : V) : Go.Abs.step Tryd.prog tabs e cfg Γ 4 0 [v0, v1, v2, v3, v4] = y.seichelaw17_ModfileMakes Γ v0 v1 v2 v3 v4 := by kernel_rfl
theorem w.seichelaw17_ModfileMakes (e : Nat → List V → Option V) (v0 v1 v2 v3 v4 : V) : vl e 4 0 [v0, v1, v2, v3, v4] = y.seichelaw17_ModfileMakes (vl e) v0 v1 v2 v3 v4 := val_of (s.seichelaw17_ModfileMakes e _ v0 v1 v2 v3 v4)
noncomputable def y.seichelaw17_ModfileMakes_15 (Γ : Gam) (v0 v1 v2 v3 v4 v5 : V) : Option V :=
  vif v5 (
    some (.bool true)) (
    Γ 4 26 [v0, v1, v2, v3, v4, (.str []), v1])
theorem s.seichelaw17_ModfileMakes_15 (e : Nat → List V → Option V) (Γ : Gam) (v0 v1 v2 v3 v4 v5 : V) : Go.Abs.step Tryd.prog tabs e cfg Γ 4 15 [v0, v1, v2, v3, v4, v5] = y.seichelaw17_ModfileMakes_15 Γ v0 v1 v2 v3 v4 v5 := by kernel_rfl
theorem w.seichelaw17_ModfileMakes_15 (e : Nat → List V → Option V) (v0 v1 v2 v3 v4 v5 : V) : vl e 4 15 [v0, v1, v2, v3, v4, v5] = y.seichelaw17_ModfileMakes_15 (vl e) v0 v1 v2 v3 v4 v5 := val_of (s.seichelaw17_ModfileMakes_15 e _ v0 v1 v2 v3 v4 v5)
noncomputable def y.seichelaw17_ModfileMakes_26 (Γ : Gam) (v0 v1 v2 v3 v4 v5 v6 : V) : Option V :=
  pr (.bin (.gtr) (.no)) [v6, (.int .i64 0)] fun v7 =>
  vif v7 (
    pr (.bin (.rem) (.no)) [v6, (.int .i64 10)] fun v8 =>
    pr (.bin (.add) (.no)) [(.int .i64 48), v8] fun v9 =>
    pr (.i2i (.u8)) [v9] fun v10 =>
    pr (.bsl 1) [v10] fun v11 =>
    pr .b2s [v11] fun v12 =>
    pr (.bin (.add) (.no)) [v12, v5] fun v13 =>
    pr (.bin (.quo) (.no)) [v6, (.int .i64 10)] fun v14 =>
    Γ 4 26 [v0, v1, v2, v3, v4, v13, v14]) (
    pr (.bin (.eql) (.no)) [v5, (.str [])] fun v8 =>
    vif v8 (
      pr (.bin (.rem) (.no)) [v6, (.int .i64 10)] fun v9 =>
      pr (.bin (.add) (.no)) [(.int .i64 48), v9] fun v10 =>
      pr (.i2i (.u8)) [v10] fun v11 =>
      pr (.bsl 1) [v11] fun v12 =>
      pr .b2s [v12] fun v13 =>
      pr (.bin (.add) (.no)) [v13, v5] fun v14 =>
      pr (.bin (.quo) (.no)) [v6, (.int .i64 10)] fun v15 =>
      Γ 4 26 [v0, v1, v2, v3, v4, v14, v15]) (
      Γ 4 37 [v0, v1, v2, v3, v4, v5]))
theorem s.seichelaw17_ModfileMakes_26 (e : Nat → List V → Option V) (Γ : Gam) (v0 v1 v2 v3 v4 v5 v6 : V) : Go.Abs.step Tryd.prog tabs e cfg Γ 4 26 [v0, v1, v2, v3, v4, v5, v6] = y.seichelaw17_ModfileMakes_26 Γ v0 v1 v2 v3 v4 v5 v6 := by kernel_rfl
theorem w.seichelaw17_ModfileMakes_26 (e : Nat → List V → Option V) (v0 v1 v2 v3 v4 v5 v6 : V) : vl e 4 26 [v0, v1, v2, v3, v4, v5, v6] = y.seichelaw17_ModfileMakes_26 (vl e) v0 v1 v2 v3 v4 v5 v6 := val_of (s.seichelaw17_ModfileMakes_26 e _ v0 v1 v2 v3 v4 v5 v6)
noncomputable def y.seichelaw17_ModfileMakes_37 (Γ : Gam) (v0 v1 v2 v3 v4 v5 : V) : Option V :=
  pr (.bin (.add) (.no)) [(.str [109, 111, 100, 117, 108, 101, 32]), v0] fun v6 =>
  pr (.bin (.add) (.no)) [v6, (.str [10, 10, 103, 111, 32, 49, 46])] fun v7 =>
  pr (.bin (.add) (.no)) [v7, v5] fun v8 =>
  pr (.bin (.add) (.no)) [v8, (.str [10])] fun v9 =>
  pr (.cat [none, none]) [v0, v1] fun v10 =>
  pr (.cat [none, none, none, none]) [v0, v1, (.sl false 2 []), (.int .i64 0)] fun v11 =>
  vif v4 (
    pr (.bin (.add) (.no)) [v9, (.str [114, 101, 112, 108, 97, 99, 101, 32, 40, 10])] fun v12 =>
    Γ 4 47 [v2, v3, (.bool true), v12, v0, v1, (.sl false 2 []), (.int .i64 0)]) (
    Γ 4 47 [v2, v3, (.bool false), v9, v0, v1, (.sl false 2 []), (.int .i64 0)])
theorem s.seichelaw17_ModfileMakes_37 (e : Nat → List V → Option V) (Γ : Gam) (v0 v1 v2 v3 v4 v5 : V) : Go.Abs.step Tryd.prog tabs e cfg Γ 4 37 [v0, v1, v2, v3, v4, v5] = y.seichelaw17_ModfileMakes_37 Γ v0 v1 v2 v3 v4 v5 := by kernel_rfl
theorem w.seichelaw17_ModfileMakes_37 (e : Nat → List V → Option V) (v0 v1 v2 v3 v4 v5 : V) : vl e 4 37 [v0, v1, v2, v3, v4, v5] = y.seichelaw17_ModfileMakes_37 (vl e) v0 v1 v2 v3 v4 v5 := val_of (s.seichelaw17_ModfileMakes_37 e _ v0 v1 v2 v3 v4 v5)
noncomputable def y.seichelaw17_ModfileMakes_47 (Γ : Gam) (v0 v1 v2 v3 v4 v5 v6 v7 : V) : Option V :=
  pr (.len false) [v0] fun v8 =>
  Γ 4 51 [v0, v1, v2, v3, v0, v8, (.int .i64 0), v4, v5, v6, v7]
theorem s.seichelaw17_ModfileMakes_47 (e : Nat → List V → Option V) (Γ : Gam) (v0 v1 v2 v3 v4 v5 v6 v7 : V) : Go.Abs.step Tryd.prog tabs e cfg Γ 4 47 [v0, v1, v2, v3, v4, v5, v6, v7] = y.seichelaw17_ModfileMakes_47 Γ v0 v1 v2 v3 v4 v5 v6 v7 := by kernel_rfl
theorem w.seichelaw17_ModfileMakes_47 (e : Nat → List V → Option V) (v0 v1 v2 v3 v4 v5 v6 v7 : V) : vl e 4 47 [v0, v1, v2, v3, v4, v5, v6, v7] = y.seichelaw17_ModfileMakes_47 (vl e) v0 v1 v2 v3 v4 v5 v6 v7 := val_of (s.seichelaw17_ModfileMakes_47 e _ v0 v1 v2 v3 v4 v5 v6 v7)
noncomputable def y.seichelaw17_ModfileMakes_51 (Γ : Gam) (v0 v1 v2 v3 v4 v5 v6 v7 v8 v9 v10 : V) : Option V :=
  pr (.bin (.lss) (.no)) [v6, v5] fun v11 =>
  vif v11 (
    pr (.elem 1) [v4, v6] fun v12 =>
    pr (.ld none 0) [v12] fun v13 =>
    ca Γ 10 [v13] fun v14 =>
    pr (.un (.not)) [v14] fun v15 =>
    vif v15 (
      some (.bool true)) (
      pr (.elem 1) [v1, v6] fun v16 =>
      pr (.ld none 0) [v16] fun v17 =>
      ca Γ 10 [v17] fun v18 =>
      pr (.un (.not)) [v18] fun v19 =>
      vif v19 (
        some (.bool true)) (
        Γ 4 74 [v0, v1, v2, v3, v6, v13, (.int .i64 0), v4, v5, v6, v7, v8, v9, v10]))) (
    vif v2 (
      pr (.bin (.add) (.no)) [v3, (.str [41, 10])] fun v12 =>
      pr (.bin (.add) (.no)) [v12, (.str [114, 101, 113, 117, 105, 114, 101, 32, 120, 32, 118, 49, 10])] fun v13 =>
      ca Γ 8 [v13] fun v14 =>
      pr (.cat [none, none, none, none]) [v7, v8, v9, v10] fun v15 =>
      ca Γ 9 [v14, v15] fun v16 =>
      some v16) (
      pr (.bin (.add) (.no)) [v3, (.str [114, 101, 113, 117, 105, 114, 101, 32, 120, 32, 118, 49, 10])] fun v12 =>
      ca Γ 8 [v12] fun v13 =>
      pr (.cat [none, none, none, none]) [v7, v8, v9, v10] fun v14 =>
      ca Γ 9 [v13, v14] fun v15 =>
      some v15))
theorem s.seichelaw17_ModfileMakes_51 (e : Nat → List V → Option V) (Γ : Gam) (v0 v1 v2 v3 v4 v5 v6 v7 v8 v9 v10 : V) : Go.Abs.step Tryd.prog tabs e cfg Γ 4 51 [v0, v1, v2, v3, v4, v5, v6, v7, v8, v9, v10] = y.seichelaw17_ModfileMakes_51 Γ v0 v1 v2 v3 v4 v5 v6 v7 v8 v9 v10 := by kernel_rfl
theorem w.seichelaw17_ModfileMakes_51 (e : Nat → List V → Option V) (v0 v1 v2 v3 v4 v5 v6 v7 v8 v9 v10 : V) : vl e 4 51 [v0, v1, v2, v3, v4, v5, v6, v7, v8, v9, v10] = y.seichelaw17_ModfileMakes_51 (vl e) v0 v1 v2 v3 v4 v5 v6 v7 v8 v9 v10 := val_of (s.seichelaw17_ModfileMakes_51 e _ v0 v1 v2 v3 v4 v5 v6 v7 v8 v9 v10)
noncomputable def y.seichelaw17_ModfileMakes_74 (Γ : Gam) (v0 v1 v2 v3 v4 v5 v6 v7 v8 v9 v10 v11 v12 v13 : V) : Option V :=
  pr (.bin (.lss) (.no)) [v6, v4] fun v14 =>
  vif v14 (
    pr (.elem 1) [v0, v6] fun v15 =>
    pr (.ld none 0) [v15] fun v16 =>
    pr (.bin (.eql) (.no)) [v16, v5] fun v17 =>
    vif v17 (
      some (.bool true)) (
      pr (.bin (.add) (.no)) [v6, (.int .i64 1)] fun v18 =>
      Γ 4 74 [v0, v1, v2, v3, v4, v5, v18, v7, v8, v9, v10, v11, v12, v13])) (
    pr (.un (.not)) [v2] fun v15 =>
    vif v15 (
      pr (.bin (.add) (.no)) [v3, (.str [114, 101, 112, 108, 97, 99, 101, 32])] fun v16 =>
      pr (.bin (.add) (.no)) [v16, v5] fun v17 =>
      pr (.bin (.add) (.no)) [v17, (.str [32, 61, 62, 32, 46, 47])] fun v18 =>
      pr (.elem 1) [v1, v4] fun v19 =>
      pr (.ld none 0) [v19] fun v20 =>
      pr (.bin (.add) (.no)) [v18, v20] fun v21 =>
      pr (.bin (.add) (.no)) [v21, (.str [10])] fun v22 =>
      pr (.elem 1) [v1, v4] fun v23 =>
      pr (.ld none 0) [v23] fun v24 =>
      pr (.bin (.add) (.no)) [(.str [46, 47]), v24] fun v25 =>
      pr (.cat [none, none]) [v5, v25] fun v26 =>
      pr (.bsl 2) [v26] fun v27 =>
      pr (.app 2) [v12, v27] fun v28 =>
      pr (.bin (.add) (.no)) [v9, (.int .i64 1)] fun v29 =>
      Γ 4 51 [v0, v1, v2, v22, v7, v8, v29, v10, v11, v28, v13]) (
      pr (.bin (.add) (.no)) [v3, v5] fun v16 =>
      pr (.bin (.add) (.no)) [v16, (.str [32, 61, 62, 32, 46, 47])] fun v17 =>
      pr (.elem 1) [v1, v4] fun v18 =>
      pr (.ld none 0) [v18] fun v19 =>
      pr (.bin (.add) (.no)) [v17, v19] fun v20 =>
      pr (.bin (.add) (.no)) [v20, (.str [10])] fun v21 =>
      pr (.elem 1) [v1, v4] fun v22 =>
      pr (.ld none 0) [v22] fun v23 =>
      pr (.bin (.add) (.no)) [(.str [46, 47]), v23] fun v24 =>
      pr (.cat [none, none]) [v5, v24] fun v25 =>
      pr (.bsl 2) [v25] fun v26 =>
      pr (.app 2) [v12, v26] fun v27 =>
      pr (.bin (.add) (.no)) [v9, (.int .i64 1)] fun v28 =>
      Γ 4 51 [v0, v1, v2, v21, v7, v8, v28, v10, v11, v27, v13]))
theorem s.seichelaw17_ModfileMakes_74 (e : Nat → List V → Option V) (Γ : Gam) (v0 v1 v2 v3 v4 v5 v6 v7 v8 v9 v10 v11 v12 v13 : V) : Go.Abs.step Tryd.prog tabs e cfg Γ 4 74 [v0, v1, v2, v3, v4, v5, v6, v7, v8, v9, v10, v11, v12, v13] = y.seichelaw17_ModfileMakes_74 Γ v0 v1 v2 v3 v4 v5 v6 v7 v8 v9 v10 v11 v12 v13 := by kernel_rfl
theorem w.seichelaw17_ModfileMakes_74 (e : Nat → List V → Option V) (v0 v1 v2 v3 v4 v5 v6 v7 v8 v9 v10 v11 v12 v13 : V) : vl e 4 74 [v0, v1, v2, v3, v4, v5, v6, v7, v8, v9, v10, v11, v12, v13] = y.seichelaw17_ModfileMakes_74 (vl e) v0 v1 v2 v3 v4 v5 v6 v7 v8 v9 v10 v11 v12 v13 := val_of (s.seichelaw17_ModfileMakes_74 e _ v0 v1 v2 v3 v4 v5 v6 v7 v8 v9 v10 v11 v12 v13)
noncomputable def y.seichelaw17_alive (Γ : Gam) : Option V :=
  ca Γ 8 [(.str [109, 111, 100, 117, 108, 101, 32, 97, 10, 103, 111, 32, 49, 46, 50, 49, 10])] fun v0 =>
  pr (.cat [some 4]) [v0] fun v1 =>
  pr (.ld none 0) [v1] fun v2 =>
  pr (.bin (.eql) (.no)) [v2, (.str [97])] fun v3 =>
  vif v3 (
    pr (.ld none 1) [v1] fun v4 =>
    pr (.bin (.eql) (.no)) [v4, (.int .i64 21)] fun v5 =>
    vif v5 (
      pr (.ld none 3) [v1] fun v6 =>
      pr (.bin (.eql) (.no)) [v6, (.int .i64 0)] fun v7 =>
      vif v7 (
        ca Γ 8 [(.str [])] fun v8 =>
        pr (.fld none 3) [v8] fun v9 =>
        pr (.bin (.eql) (.no)) [v9, (.int .i64 1)] fun v10 =>
        some v10) (
        some (.bool false))) (
      some (.bool false))) (
    some (.bool false))
theorem s.seichelaw17_alive (e : Nat → List V → Option V) (Γ : Gam) : Go.Abs.step Tryd.prog tabs e cfg Γ 6 0 [] = y.seichelaw17_alive Γ := by kernel_rfl
theorem w.seichelaw17_alive (e : Nat → List V → Option V) : vl e 6 0 [] = y.seichelaw17_alive (vl e) := val_of (s.seichelaw17_alive e _)
noncomputable def y.modfile_Parse (Γ : Gam) (v0 : V) : Option V :=
  pr (.cat []) [] fun v1 =>
  pr (.cat [none, none, none, none, none, none]) [(.str []), (.int .i64 0), (.sl false 2 []), (.int .i64 0), (.str []), (.bool false)] fun v2 =>
  ca Γ 11 [v0, (.str [10])] fun v3 =>
  pr (.len false) [v3] fun v4 =>
  Γ 8 12 [v3, v3, v4, (.int .i64 0), (.str []), (.int .i64 0), (.sl false 2 []), (.int .i64 0), (.str []), (.int .i64 0), (.sl false 2 []), (.int .i64 0), (.str []), (.bool false)]
theorem s.modfile_Parse (e : Nat → List V → Option V) (Γ : Gam) (v0 : V) : Go.Abs.step Tryd.prog tabs e cfg Γ 8 0 [v0] = y.modfile_Parse Γ v0 := by kernel_rfl
theorem w.modfile_Parse (e : Nat → List V → Option V) (v0 : V) : vl e 8 0 [v0] = y.modfile_Parse (vl e) v0 := val_of (s.modfile_Parse e _ v0)
noncomputable def y.modfile_Parse_12 (Γ : Gam) (v0 v1 v2 v3 v4 v5 v6 v7 v8 v9 v10 v11 v12 v13 : V) : Option V :=
  pr (.bin (.lss) (.no)) [v3, v2] fun v14 =>
  vif v14 (
    pr (.elem 1) [v1, v3] fun v15 =>
    pr (.ld none 0) [v15] fun v16 =>
    ch Γ 10192 [v16, v8, v9, v10, v11, v12, v13] fun v17 =>
    pr (.ext 0) [v17] fun v18 =>
    pr (.ext 1) [v17] fun v19 =>
    pr (.ext 2) [v17] fun v20 =>
    pr (.ext 3) [v17] fun v21 =>
    pr (.ext 4) [v17] fun v22 =>
    pr (.ext 5) [v17] fun v23 =>
    pr (.ext 6) [v17] fun v24 =>
    pr (.un (.not)) [v18] fun v25 =>
    vif v25 (
      pr (.bin (.add) (.no)) [v3, (.int .i64 1)] fun v26 =>
      pr (.cat [none]) [v26] fun v27 =>
      pr (.cat [none, none, none, none]) [(.str []), (.int .i64 0), (.sl false 2 []), v26] fun v28 =>
      pr (.cat [none, none, none, none]) [(.str []), (.int .i64 0), (.sl false 2 []), v26] fun v29 =>
      some v29) (
      pr (.bin (.add) (.no)) [v3, (.int .i64 1)] fun v26 =>
      Γ 8 12 [v0, v1, v2, v26, v4, v5, v6, v7, v19, v20, v21, v22, v23, v24])) (
    pr (.bin (.neq) (.no)) [v12, (.str [])] fun v15 =>
    vif v15 (
      pr (.len false) [v0] fun v16 =>
      pr (.cat [none]) [v16] fun v17 =>
      pr (.cat [none, none, none, none]) [(.str []), (.int .i64 0), (.sl false 2 []), v16] fun v18 =>
      pr (.cat [none, none, none, none]) [(.str []), (.int .i64 0), (.sl false 2 []), v16] fun v19 =>
      some v19) (
      pr (.bin (.eql) (.no)) [v8, (.str [])] fun v16 =>
      vif v16 (
        pr (.len false) [v0] fun v17 =>
        pr (.cat [none]) [v17] fun v18 =>
        pr (.cat [none, none, none, none]) [(.str []), (.int .i64 0), (.sl false 2 []), v17] fun v19 =>
        pr (.cat [none, none, none, none]) [(.str []), (.int .i64 0), (.sl false 2 []), v17] fun v20 =>
        some v20) (
        pr (.cat [none, none, none, none]) [v8, v9, v10, v11] fun v17 =>
        pr (.cat [none, none, none, none]) [v8, v9, v10, v11] fun v18 =>
        some v18)))
theorem s.modfile_Parse_12 (e : Nat → List V → Option V) (Γ : Gam) (v0 v1 v2 v3 v4 v5 v6 v7 v8 v9 v10 v11 v12 v13 : V) : Go.Abs.step Tryd.prog tabs e cfg Γ 8 12 [v0, v1, v2, v3, v4, v5, v6, v7, v8, v9, v10, v11, v12, v13] = y.modfile_Parse_12 Γ v0 v1 v2 v3 v4 v5 v6 v7 v8 v9 v10 v11 v12 v13 := by kernel_rfl
theorem w.modfile_Parse_12 (e : Nat → List V → Option V) (v0 v1 v2 v3 v4 v5 v6 v7 v8 v9 v10 v11 v12 v13 : V) : vl e 8 12 [v0, v1, v2, v3, v4, v5, v6, v7, v8, v9, v10, v11, v12, v13] = y.modfile_Parse_12 (vl e) v0 v1 v2 v3 v4 v5 v6 v7 v8 v9 v10 v11 v12 v13 := val_of (s.modfile_Parse_12 e _ v0 v1 v2 v3 v4 v5 v6 v7 v8 v9 v10 v11 v12 v13)
noncomputable def y.seichelaw17_word (Γ : Gam) (v0 : V) : Option V :=
  Γ 10 8 [v0, (.int .i64 0)]
theorem s.seichelaw17_word (e : Nat → List V → Option V) (Γ : Gam) (v0 : V) : Go.Abs.step Tryd.prog tabs e cfg Γ 10 0 [v0] = y.seichelaw17_word Γ v0 := by kernel_rfl
theorem w.seichelaw17_word (e : Nat → List V → Option V) (v0 : V) : vl e 10 0 [v0] = y.seichelaw17_word (vl e) v0 := val_of (s.seichelaw17_word e _ v0)
noncomputable def y.seichelaw17_word_8 (Γ : Gam) (v0 v1 : V) : Option V :=
  pr (.len true) [v0] fun v2 =>
  pr (.bin (.lss) (.no)) [v1, v2] fun v3 =>
  vif v3 (
    pr .idx [v0, v1] fun v4 =>
    pr (.bin (.geq) (.no)) [v4, (.int .u8 97)] fun v5 =>
    vif v5 (
      pr (.bin (.leq) (.no)) [v4, (.int .u8 122)] fun v6 =>
      vif v6 (
        pr (.bin (.add) (.no)) [v1, (.int .i64 1)] fun v7 =>
        Γ 10 8 [v0, v7]) (
        pr (.bin (.geq) (.no)) [v4, (.int .u8 48)] fun v7 =>
        vif v7 (
          pr (.bin (.leq) (.no)) [v4, (.int .u8 57)] fun v8 =>
          vif v8 (
            pr (.bin (.add) (.no)) [v1, (.int .i64 1)] fun v9 =>
            Γ 10 8 [v0, v9]) (
            pr (.bin (.eql) (.no)) [v4, (.int .u8 46)] fun v9 =>
            vif v9 (
              pr (.bin (.add) (.no)) [v1, (.int .i64 1)] fun v10 =>
              Γ 10 8 [v0, v10]) (
              pr (.bin (.eql) (.no)) [v4, (.int .u8 47)] fun v10 =>
              vif v10 (
                pr (.bin (.gtr) (.no)) [v1, (.int .i64 0)] fun v11 =>
                vif v11 (
                  pr (.bin (.sub) (.no)) [v1, (.int .i64 1)] fun v12 =>
                  pr .idx [v0, v12] fun v13 =>
                  pr (.bin (.neq) (.no)) [v13, (.int .u8 47)] fun v14 =>
                  pr (.un (.not)) [v14] fun v15 =>
                  vif v15 (
                    some (.bool false)) (
                    pr (.bin (.add) (.no)) [v1, (.int .i64 1)] fun v16 =>
                    Γ 10 8 [v0, v16])) (
                  some (.bool false))) (
                some (.bool false))))) (
          pr (.bin (.eql) (.no)) [v4, (.int .u8 46)] fun v8 =>
          vif v8 (
            pr (.bin (.add) (.no)) [v1, (.int .i64 1)] fun v9 =>
            Γ 10 8 [v0, v9]) (
            pr (.bin (.eql) (.no)) [v4, (.int .u8 47)] fun v9 =>
            vif v9 (
              pr (.bin (.gtr) (.no)) [v1, (.int .i64 0)] fun v10 =>
              vif v10 (
                pr (.bin (.sub) (.no)) [v1, (.int .i64 1)] fun v11 =>
                pr .idx [v0, v11] fun v12 =>
                pr (.bin (.neq) (.no)) [v12, (.int .u8 47)] fun v13 =>
                pr (.un (.not)) [v13] fun v14 =>
                vif v14 (
                  some (.bool false)) (
                  pr (.bin (.add) (.no)) [v1, (.int .i64 1)] fun v15 =>
                  Γ 10 8 [v0, v15])) (
                some (.bool false))) (
              some (.bool false)))))) (
      pr (.bin (.geq) (.no)) [v4, (.int .u8 48)] fun v6 =>
      vif v6 (
        pr (.bin (.leq) (.no)) [v4, (.int .u8 57)] fun v7 =>
        vif v7 (
          pr (.bin (.add) (.no)) [v1, (.int .i64 1)] fun v8 =>
          Γ 10 8 [v0, v8]) (
          pr (.bin (.eql) (.no)) [v4, (.int .u8 46)] fun v8 =>
          vif v8 (
            pr (.bin (.add) (.no)) [v1, (.int .i64 1)] fun v9 =>
            Γ 10 8 [v0, v9]) (
            pr (.bin (.eql) (.no)) [v4, (.int .u8 47)] fun v9 =>
            vif v9 (
              pr (.bin (.gtr) (.no)) [v1, (.int .i64 0)] fun v10 =>
              vif v10 (
                pr (.bin (.sub) (.no)) [v1, (.int .i64 1)] fun v11 =>
                pr .idx [v0, v11] fun v12 =>
                pr (.bin (.neq) (.no)) [v12, (.int .u8 47)] fun v13 =>
                pr (.un (.not)) [v13] fun v14 =>
                vif v14 (
                  some (.bool false)) (
                  pr (.bin (.add) (.no)) [v1, (.int .i64 1)] fun v15 =>
                  Γ 10 8 [v0, v15])) (
                some (.bool false))) (
              some (.bool false))))) (
        pr (.bin (.eql) (.no)) [v4, (.int .u8 46)] fun v7 =>
        vif v7 (
          pr (.bin (.add) (.no)) [v1, (.int .i64 1)] fun v8 =>
          Γ 10 8 [v0, v8]) (
          pr (.bin (.eql) (.no)) [v4, (.int .u8 47)] fun v8 =>
          vif v8 (
            pr (.bin (.gtr) (.no)) [v1, (.int .i64 0)] fun v9 =>
            vif v9 (
              pr (.bin (.sub) (.no)) [v1, (.int .i64 1)] fun v10 =>
              pr .idx [v0, v10] fun v11 =>
              pr (.bin (.neq) (.no)) [v11, (.int .u8 47)] fun v12 =>
              pr (.un (.not)) [v12] fun v13 =>
              vif v13 (
                some (.bool false)) (
                pr (.bin (.add) (.no)) [v1, (.int .i64 1)] fun v14 =>
                Γ 10 8 [v0, v14])) (
              some (.bool false))) (
            some (.bool false)))))) (
    pr (.bin (.neq) (.no)) [v0, (.str [])] fun v4 =>
    vif v4 (
      pr (.len true) [v0] fun v5 =>
      pr (.bin (.leq) (.no)) [v5, (.int .i64 100)] fun v6 =>
      some v6) (
      some (.bool false)))
theorem s.seichelaw17_word_8 (e : Nat → List V → Option V) (Γ : Gam) (v0 v1 : V) : Go.Abs.step Tryd.prog tabs e cfg Γ 10 8 [v0, v1] = y.seichelaw17_word_8 Γ v0 v1 := by kernel_rfl
theorem w.seichelaw17_word_8 (e : Nat → List V → Option V) (v0 v1 : V) : vl e 10 8 [v0, v1] = y.seichelaw17_word_8 (vl e) v0 v1 := val_of (s.seichelaw17_word_8 e _ v0 v1)
noncomputable def y.seiche_modfile_reader_line_1 (Γ : Gam) (v0 : V) : Option V :=
  pr (.bin (.eql) (.no)) [v0, (.int .i32 32)] fun v1 =>
  vif v1 (
    some (.bool true)) (
    pr (.bin (.eql) (.no)) [v0, (.int .i32 9)] fun v2 =>
    vif v2 (
      some (.bool true)) (
      pr (.bin (.eql) (.no)) [v0, (.int .i32 13)] fun v3 =>
      some v3))
theorem s.seiche_modfile_reader_line_1 (e : Nat → List V → Option V) (Γ : Gam) (v0 : V) : Go.Abs.step Tryd.prog tabs e cfg Γ 16 0 [v0] = y.seiche_modfile_reader_line_1 Γ v0 := by kernel_rfl
theorem w.seiche_modfile_reader_line_1 (e : Nat → List V → Option V) (v0 : V) : vl e 16 0 [v0] = y.seiche_modfile_reader_line_1 (vl e) v0 := val_of (s.seiche_modfile_reader_line_1 e _ v0)
noncomputable def y.slices_Contains_Lstring_string (Γ : Gam) (v0 v1 : V) : Option V :=
  ca Γ 25 [v0, v1] fun v2 =>
  pr (.bin (.geq) (.no)) [v2, (.int .i64 0)] fun v3 =>
  some v3
theorem s.slices_Contains_Lstring_string (e : Nat → List V → Option V) (Γ : Gam) (v0 v1 : V) : Go.Abs.step Tryd.prog tabs e cfg Γ 18 0 [v0, v1] = y.slices_Contains_Lstring_string Γ v0 v1 := by kernel_rfl
theorem w.slices_Contains_Lstring_string (e : Nat → List V → Option V) (v0 v1 : V) : vl e 18 0 [v0, v1] = y.slices_Contains_Lstring_string (vl e) v0 v1 := val_of (s.slices_Contains_Lstring_string e _ v0 v1)
noncomputable def y.modfile_good (Γ : Gam) (v0 : V) : Option V :=
  pr (.bin (.neq) (.no)) [v0, (.str [])] fun v1 =>
  vif v1 (
    ca Γ 33 [v0, (.str [34, 39, 96, 92, 40, 41, 44, 61, 62])] fun v2 =>
    pr (.un (.not)) [v2] fun v3 =>
    some v3) (
    some (.bool false))
theorem s.modfile_good (e : Nat → List V → Option V) (Γ : Gam) (v0 : V) : Go.Abs.step Tryd.prog tabs e cfg Γ 22 0 [v0] = y.modfile_good Γ v0 := by kernel_rfl
theorem w.modfile_good (e : Nat → List V → Option V) (v0 : V) : vl e 22 0 [v0] = y.modfile_good (vl e) v0 := val_of (s.modfile_good e _ v0)
noncomputable def y.modfile_here (Γ : Gam) (v0 : V) : Option V :=
  pr (.bin (.eql) (.no)) [v0, (.str [46])] fun v1 =>
  vif v1 (
    some (.bool true)) (
    pr (.bin (.eql) (.no)) [v0, (.str [46, 46])] fun v2 =>
    vif v2 (
      some (.bool true)) (
      ca Γ 46 [v0, (.str [46, 47])] fun v3 =>
      vif v3 (
        some (.bool true)) (
        ca Γ 46 [v0, (.str [46, 46, 47])] fun v4 =>
        some v4)))
theorem s.modfile_here (e : Nat → List V → Option V) (Γ : Gam) (v0 : V) : Go.Abs.step Tryd.prog tabs e cfg Γ 36 0 [v0] = y.modfile_here Γ v0 := by kernel_rfl
theorem w.modfile_here (e : Nat → List V → Option V) (v0 : V) : vl e 36 0 [v0] = y.modfile_here (vl e) v0 := val_of (s.modfile_here e _ v0)
noncomputable def y.strings_HasPrefix (Γ : Gam) (v0 v1 : V) : Option V :=
  ca Γ 58 [v0, v1] fun v2 =>
  some v2
theorem s.strings_HasPrefix (e : Nat → List V → Option V) (Γ : Gam) (v0 v1 : V) : Go.Abs.step Tryd.prog tabs e cfg Γ 46 0 [v0, v1] = y.strings_HasPrefix Γ v0 v1 := by kernel_rfl
theorem w.strings_HasPrefix (e : Nat → List V → Option V) (v0 v1 : V) : vl e 46 0 [v0, v1] = y.strings_HasPrefix (vl e) v0 v1 := val_of (s.strings_HasPrefix e _ v0 v1)
noncomputable def y.internal_stringslite_HasPrefix (Γ : Gam) (v0 v1 : V) : Option V :=
  pr (.len true) [v0] fun v2 =>
  pr (.len true) [v1] fun v3 =>
  pr (.bin (.geq) (.no)) [v2, v3] fun v4 =>
  vif v4 (
    pr (.len true) [v1] fun v5 =>
    pr (.sls false true) [v0, v5] fun v6 =>
    pr (.bin (.eql) (.no)) [v6, v1] fun v7 =>
    some v7) (
    some (.bool false))
theorem s.internal_stringslite_HasPrefix (e : Nat → List V → Option V) (Γ : Gam) (v0 v1 : V) : Go.Abs.step Tryd.prog tabs e cfg Γ 58 0 [v0, v1] = y.internal_stringslite_HasPrefix Γ v0 v1 := by kernel_rfl
theorem w.internal_stringslite_HasPrefix (e : Nat → List V → Option V) (v0 v1 : V) : vl e 58 0 [v0, v1] = y.internal_stringslite_HasPrefix (vl e) v0 v1 := val_of (s.internal_stringslite_HasPrefix e _ v0 v1)
noncomputable def y.seichelaw17_ModfileBlank (Γ : Gam) (v0 v1 : V) : Option V :=
  ca Γ 6 [] fun v2 =>
  pr (.un (.not)) [v2] fun v3 =>
  vif v3 (
    some (.bool false)) (
    pr (.len true) [v0] fun v4 =>
    pr (.bin (.gtr) (.no)) [v4, (.int .i64 1024)] fun v5 =>
    vif v5 (
      Γ 3 15 [v0, v1, (.bool true)]) (
      pr (.len true) [v1] fun v6 =>
      pr (.bin (.gtr) (.no)) [v6, (.int .i64 512)] fun v7 =>
      Γ 3 15 [v0, v1, v7]))
theorem s.seichelaw17_ModfileBlank (e : Nat → List V → Option V) (Γ : Gam) (v0 v1 : V) : Go.Abs.step Tryd.prog tabs e cfg Γ 3 0 [v0, v1] = y.seichelaw17_ModfileBlank Γ v0 v1 := by kernel_rfl
theorem w.seichelaw17_ModfileBlank (e : Nat → List V → Option V) (v0 v1 : V) : vl e 3 0 [v0, v1] = y.seichelaw17_ModfileBlank (vl e) v0 v1 := val_of (s.seichelaw17_ModfileBlank e _ v0 v1)
noncomputable def y.seichelaw17_ModfileBlank_15 (Γ : Gam) (v0 v1 v2 : V) : Option V :=
  vif v2 (
    some (.bool true)) (
    Γ 3 24 [v0, v1, (.int .i64 0)])
theorem s.seichelaw17_ModfileBlank_15 (e : Nat → List V → Option V) (Γ : Gam) (v0 v1 v2 : V) : Go.Abs.step Tryd.prog tabs e cfg Γ 3 15 [v0, v1, v2] = y.seichelaw17_ModfileBlank_15 Γ v0 v1 v2 := by kernel_rfl
theorem w.seichelaw17_ModfileBlank_15 (e : Nat → List V → Option V) (v0 v1 v2 : V) : vl e 3 15 [v0, v1, v2] = y.seichelaw17_ModfileBlank_15 (vl e) v0 v1 v2 := val_of (s.seichelaw17_ModfileBlank_15 e _ v0 v1 v2)
noncomputable def y.seichelaw17_ModfileBlank_24 (Γ : Gam) (v0 v1 v2 : V) : Option V :=
  pr (.len true) [v1] fun v3 =>
  pr (.bin (.lss) (.no)) [v2, v3] fun v4 =>
  vif v4 (
    pr .idx [v1, v2] fun v5 =>
    pr (.bin (.eql) (.no)) [v5, (.int .u8 10)] fun v6 =>
    vif v6 (
      some (.bool true)) (
      pr (.bin (.add) (.no)) [v2, (.int .i64 1)] fun v7 =>
      Γ 3 24 [v0, v1, v7])) (
    ca Γ 7 [v0, (.int .u8 10)] fun v5 =>
    pr (.len false) [v5] fun v6 =>
    Γ 3 47 [v0, v1, (.str []), v5, v6, (.int .i64 0)])
theorem s.seichelaw17_ModfileBlank_24 (e : Nat → List V → Option V) (Γ : Gam) (v0 v1 v2 : V) : Go.Abs.step Tryd.prog tabs e cfg Γ 3 24 [v0, v1, v2] = y.seichelaw17_ModfileBlank_24 Γ v0 v1 v2 := by kernel_rfl
theorem w.seichelaw17_ModfileBlank_24 (e : Nat → List V → Option V) (v0 v1 v2 : V) : vl e 3 24 [v0, v1, v2] = y.seichelaw17_ModfileBlank_24 (vl e) v0 v1 v2 := val_of (s.seichelaw17_ModfileBlank_24 e _ v0 v1 v2)
noncomputable def y.seichelaw17_ModfileBlank_47 (Γ : Gam) (v0 v1 v2 v3 v4 v5 : V) : Option V :=
  pr (.bin (.lss) (.no)) [v5, v4] fun v6 =>
  vif v6 (
    pr (.elem 1) [v3, v5] fun v7 =>
    pr (.ld none 0) [v7] fun v8 =>
    pr (.bin (.gtr) (.no)) [v5, (.int .i64 0)] fun v9 =>
    vif v9 (
      pr (.bin (.add) (.no)) [v2, (.str [10])] fun v10 =>
      pr (.len true) [v8] fun v11 =>
      pr (.bin (.gtr) (.no)) [v11, (.int .i64 0)] fun v12 =>
      vif v12 (
        pr (.len true) [v8] fun v13 =>
        pr (.bin (.sub) (.no)) [v13, (.int .i64 1)] fun v14 =>
        pr .idx [v8, v14] fun v15 =>
        pr (.bin (.eql) (.no)) [v15, (.int .u8 47)] fun v16 =>
        vif v16 (
          some (.bool true)) (
          pr (.bin (.add) (.no)) [v10, (.str [9, 32, 13, 47, 47])] fun v17 =>
          pr (.bin (.add) (.no)) [v17, v1] fun v18 =>
          pr (.bin (.add) (.no)) [v18, (.str [10, 32, 9])] fun v19 =>
          pr (.bin (.add) (.no)) [v19, v8] fun v20 =>
          pr (.bin (.add) (.no)) [v20, (.str [32, 47, 47])] fun v21 =>
          pr (.bin (.add) (.no)) [v21, v1] fun v22 =>
          pr (.bin (.add) (.no)) [v5, (.int .i64 1)] fun v23 =>
          Γ 3 47 [v0, v1, v22, v3, v4, v23])) (
        pr (.bin (.add) (.no)) [v10, (.str [9, 32, 13, 47, 47])] fun v13 =>
        pr (.bin (.add) (.no)) [v13, v1] fun v14 =>
        pr (.bin (.add) (.no)) [v14, (.str [10, 32, 9])] fun v15 =>
        pr (.bin (.add) (.no)) [v15, v8] fun v16 =>
        pr (.bin (.add) (.no)) [v16, (.str [32, 47, 47])] fun v17 =>
        pr (.bin (.add) (.no)) [v17, v1] fun v18 =>
        pr (.bin (.add) (.no)) [v5, (.int .i64 1)] fun v19 =>
        Γ 3 47 [v0, v1, v18, v3, v4, v19])) (
      pr (.len true) [v8] fun v10 =>
      pr (.bin (.gtr) (.no)) [v10, (.int .i64 0)] fun v11 =>
      vif v11 (
        pr (.len true) [v8] fun v12 =>
        pr (.bin (.sub) (.no)) [v12, (.int .i64 1)] fun v13 =>
        pr .idx [v8, v13] fun v14 =>
        pr (.bin (.eql) (.no)) [v14, (.int .u8 47)] fun v15 =>
        vif v15 (
          some (.bool true)) (
          pr (.bin (.add) (.no)) [v2, (.str [9, 32, 13, 47, 47])] fun v16 =>
          pr (.bin (.add) (.no)) [v16, v1] fun v17 =>
          pr (.bin (.add) (.no)) [v17, (.str [10, 32, 9])] fun v18 =>
          pr (.bin (.add) (.no)) [v18, v8] fun v19 =>
          pr (.bin (.add) (.no)) [v19, (.str [32, 47, 47])] fun v20 =>
          pr (.bin (.add) (.no)) [v20, v1] fun v21 =>
          pr (.bin (.add) (.no)) [v5, (.int .i64 1)] fun v22 =>
          Γ 3 47 [v0, v1, v21, v3, v4, v22])) (
        pr (.bin (.add) (.no)) [v2, (.str [9, 32, 13, 47, 47])] fun v12 =>
        pr (.bin (.add) (.no)) [v12, v1] fun v13 =>
        pr (.bin (.add) (.no)) [v13, (.str [10, 32, 9])] fun v14 =>
        pr (.bin (.add) (.no)) [v14, v8] fun v15 =>
        pr (.bin (.add) (.no)) [v15, (.str [32, 47, 47])] fun v16 =>
        pr (.bin (.add) (.no)) [v16, v1] fun v17 =>
        pr (.bin (.add) (.no)) [v5, (.int .i64 1)] fun v18 =>
        Γ 3 47 [v0, v1, v17, v3, v4, v18]))) (
    ca Γ 8 [v0] fun v7 =>
    ca Γ 8 [v2] fun v8 =>
    pr (.cat [some 4]) [v7] fun v9 =>
    pr (.cat [some 4]) [v8] fun v10 =>
    pr (.ld none 3) [v9] fun v11 =>
    pr (.bin (.gtr) (.no)) [v11, (.int .i64 0)] fun v12 =>
    vif v12 (
      pr (.ld none 3) [v10] fun v13 =>
      pr (.ld none 3) [v9] fun v14 =>
      pr (.bin (.mul) (.no)) [(.int .i64 2), v14] fun v15 =>
      pr (.bin (.eql) (.no)) [v13, v15] fun v16 =>
      some v16) (
      ca Γ 9 [v9, v10] fun v13 =>
      some v13))
theorem s.seichelaw17_ModfileBlank_47 (e : Nat → List V → Option V) (Γ : Gam) (v0 v1 v2 v3 v4 v5 : V) : Go.Abs.step Tryd.prog tabs e cfg Γ 3 47 [v0, v1, v2, v3, v4, v5] = y.seichelaw17_ModfileBlank_47 Γ v0 v1 v2 v3 v4 v5 := by kernel_rfl
theorem w.seichelaw17_ModfileBlank_47 (e : Nat → List V → Option V) (v0 v1 v2 v3 v4 v5 : V) : vl e 3 47 [v0, v1, v2, v3, v4, v5] = y.seichelaw17_ModfileBlank_47 (vl e) v0 v1 v2 v3 v4 v5 := val_of (s.seichelaw17_ModfileBlank_47 e _ v0 v1 v2 v3 v4 v5)
noncomputable def y.seichelaw17_ModfileOrder (Γ : Gam) (v0 v1 v2 v3 : V) : Option V :=
  ca Γ 6 [] fun v4 =>
  pr (.un (.not)) [v4] fun v5 =>
  vif v5 (
    some (.bool false)) (
    ca Γ 10 [v0] fun v6 =>
    pr (.un (.not)) [v6] fun v7 =>
    vif v7 (
      Γ 5 15 [v0, v1, v2, v3, (.bool true)]) (
      pr (.bin (.lss) (.no)) [v1, (.int .i64 0)] fun v8 =>
      vif v8 (
        Γ 5 15 [v0, v1, v2, v3, (.bool true)]) (
        pr (.bin (.gtr) (.no)) [v1, (.int .i64 9)] fun v9 =>
        vif v9 (
          Γ 5 15 [v0, v1, v2, v3, (.bool true)]) (
          pr (.len false) [v2] fun v10 =>
          pr (.bin (.gtr) (.no)) [v10, (.int .i64 20)] fun v11 =>
          vif v11 (
            Γ 5 15 [v0, v1, v2, v3, (.bool true)]) (
            pr (.len false) [v3] fun v12 =>
            pr (.bin (.gtr) (.no)) [v12, (.int .i64 20)] fun v13 =>
            Γ 5 15 [v0, v1, v2, v3, v13])))))
theorem s.seichelaw17_ModfileOrder (e : Nat → List V → Option V) (Γ : Gam) (v0 v1 v2 v3 : V) : Go.Abs.step Tryd.prog tabs e cfg Γ 5 0 [v0, v1, v2, v3] = y.seichelaw17_ModfileOrder Γ v0 v1 v2 v3 := by kernel_rfl
theorem w.seichelaw17_ModfileOrder (e : Nat → List V → Option V) (v0 v1 v2 v3 : V) : vl e 5 0 [v0, v1, v2, v3] = y.seichelaw17_ModfileOrder (vl e) v0 v1 v2 v3 := val_of (s.seichelaw17_ModfileOrder e _ v0 v1 v2 v3)
noncomputable def y.seichelaw17_ModfileOrder_15 (Γ : Gam) (v0 v1 v2 v3 v4 : V) : Option V :=
  vif v4 (
    some (.bool true)) (
    pr (.bin (.add) (.no)) [(.int .i64 48), v1] fun v5 =>
    pr (.i2i (.u8)) [v5] fun v6 =>
    pr (.bsl 1) [v6] fun v7 =>
    pr .b2s [v7] fun v8 =>
    pr (.bin (.add) (.no)) [(.str [109, 111, 100, 117, 108, 101, 32]), v0] fun v9 =>
    pr (.bin (.add) (.no)) [v9, (.str [10, 103, 111, 32, 49, 46])] fun v10 =>
    pr (.bin (.add) (.no)) [v10, v8] fun v11 =>
    pr (.bin (.add) (.no)) [v11, (.str [10])] fun v12 =>
    pr (.len false) [v2] fun v13 =>
    Γ 5 28 [v0, v1, v2, v3, v8, v12, (.str []), v2, v13, (.int .i64 0)])
theorem s.seichelaw17_ModfileOrder_15 (e : Nat → List V → Option V) (Γ : Gam) (v0 v1 v2 v3 v4 : V) : Go.Abs.step Tryd.prog tabs e cfg Γ 5 15 [v0, v1, v2, v3, v4] = y.seichelaw17_ModfileOrder_15 Γ v0 v1 v2 v3 v4 := by kernel_rfl
theorem w.seichelaw17_ModfileOrder_15 (e : Nat → List V → Option V) (v0 v1 v2 v3 v4 : V) : vl e 5 15 [v0, v1, v2, v3, v4] = y.seichelaw17_ModfileOrder_15 (vl e) v0 v1 v2 v3 v4 := val_of (s.seichelaw17_ModfileOrder_15 e _ v0 v1 v2 v3 v4)
noncomputable def y.seichelaw17_ModfileOrder_28 (Γ : Gam) (v0 v1 v2 v3 v4 v5 v6 v7 v8 v9 : V) : Option V :=
  pr (.bin (.lss) (.no)) [v9, v8] fun v10 =>
  vif v10 (
    pr (.elem 1) [v7, v9] fun v11 =>
    pr (.ld none 0) [v11] fun v12 =>
    ca Γ 10 [v12] fun v13 =>
    pr (.un (.not)) [v13] fun v14 =>
    vif v14 (
      some (.bool true)) (
      Γ 5 51 [v0, v1, v2, v3, v4, v5, v6, v9, v12, (.int .i64 0), v7, v8, v9])) (
    pr (.len false) [v3] fun v11 =>
    Γ 5 76 [v0, v1, v4, v5, v6, v3, v11, (.int .i64 0)])
theorem s.seichelaw17_ModfileOrder_28 (e : Nat → List V → Option V) (Γ : Gam) (v0 v1 v2 v3 v4 v5 v6 v7 v8 v9 : V) : Go.Abs.step Tryd.prog tabs e cfg Γ 5 28 [v0, v1, v2, v3, v4, v5, v6, v7, v8, v9] = y.seichelaw17_ModfileOrder_28 Γ v0 v1 v2 v3 v4 v5 v6 v7 v8 v9 := by kernel_rfl
theorem w.seichelaw17_ModfileOrder_28 (e : Nat → List V → Option V) (v0 v1 v2 v3 v4 v5 v6 v7 v8 v9 : V) : vl e 5 28 [v0, v1, v2, v3, v4, v5, v6, v7, v8, v9] = y.seichelaw17_ModfileOrder_28 (vl e) v0 v1 v2 v3 v4 v5 v6 v7 v8 v9 := val_of (s.seichelaw17_ModfileOrder_28 e _ v0 v1 v2 v3 v4 v5 v6 v7 v8 v9)
noncomputable def y.seichelaw17_ModfileOrder_51 (Γ : Gam) (v0 v1 v2 v3 v4 v5 v6 v7 v8 v9 v10 v11 v12 : V) : Option V :=
  pr (.bin (.lss) (.no)) [v9, v7] fun v13 =>
  vif v13 (
    pr (.elem 1) [v2, v9] fun v14 =>
    pr (.ld none 0) [v14] fun v15 =>
    pr (.bin (.eql) (.no)) [v15, v8] fun v16 =>
    vif v16 (
      some (.bool true)) (
      pr (.bin (.add) (.no)) [v9, (.int .i64 1)] fun v17 =>
      Γ 5 51 [v0, v1, v2, v3, v4, v5, v6, v7, v8, v17, v10, v11, v12])) (
    pr (.bin (.add) (.no)) [v5, (.str [114, 101, 112, 108, 97, 99, 101, 32])] fun v14 =>
    pr (.bin (.add) (.no)) [v14, v8] fun v15 =>
    pr (.bin (.add) (.no)) [v15, (.str [32, 61, 62, 32, 46, 47, 100, 10])] fun v16 =>
    pr (.bin (.add) (.no)) [v6, (.str [114, 101, 112, 108, 97, 99, 101, 32])] fun v17 =>
    pr (.bin (.add) (.no)) [v17, v8] fun v18 =>
    pr (.bin (.add) (.no)) [v18, (.str [32, 61, 62, 32, 46, 47, 100, 10])] fun v19 =>
    pr (.bin (.add) (.no)) [v12, (.int .i64 1)] fun v20 =>
    Γ 5 28 [v0, v1, v2, v3, v4, v16, v19, v10, v11, v20])
theorem s.seichelaw17_ModfileOrder_51 (e : Nat → List V → Option V) (Γ : Gam) (v0 v1 v2 v3 v4 v5 v6 v7 v8 v9 v10 v11 v12 : V) : Go.Abs.step Tryd.prog tabs e cfg Γ 5 51 [v0, v1, v2, v3, v4, v5, v6, v7, v8, v9, v10, v11, v12] = y.seichelaw17_ModfileOrder_51 Γ v0 v1 v2 v3 v4 v5 v6 v7 v8 v9 v10 v11 v12 := by kernel_rfl
theorem w.seichelaw17_ModfileOrder_51 (e : Nat → List V → Option V) (v0 v1 v2 v3 v4 v5 v6 v7 v8 v9 v10 v11 v12 : V) : vl e 5 51 [v0, v1, v2, v3, v4, v5, v6, v7, v8, v9, v10, v11, v12] = y.seichelaw17_ModfileOrder_51 (vl e) v0 v1 v2 v3 v4 v5 v6 v7 v8 v9 v10 v11 v12 := val_of (s.seichelaw17_ModfileOrder_51 e _ v0 v1 v2 v3 v4 v5 v6 v7 v8 v9 v10 v11 v12)
noncomputable def y.seichelaw17_ModfileOrder_76 (Γ : Gam) (v0 v1 v2 v3 v4 v5 v6 v7 : V) : Option V :=
  pr (.bin (.lss) (.no)) [v7, v6] fun v8 =>
  vif v8 (
    pr (.elem 1) [v5, v7] fun v9 =>
    pr (.ld none 0) [v9] fun v10 =>
    ca Γ 10 [v10] fun v11 =>
    pr (.un (.not)) [v11] fun v12 =>
    vif v12 (
      some (.bool true)) (
      pr (.bin (.add) (.no)) [v3, (.str [114, 101, 113, 117, 105, 114, 101, 32])] fun v13 =>
      pr (.bin (.add) (.no)) [v13, v10] fun v14 =>
      pr (.bin (.add) (.no)) [v14, (.str [32, 118, 49, 10])] fun v15 =>
      pr (.bin (.add) (.no)) [(.str [101, 120, 99, 108, 117, 100, 101, 32]), v10] fun v16 =>
      pr (.bin (.add) (.no)) [v16, (.str [32, 118, 49, 10])] fun v17 =>
      pr (.bin (.add) (.no)) [v17, v4] fun v18 =>
      pr (.bin (.add) (.no)) [v18, (.str [114, 101, 116, 114, 97, 99, 116, 32])] fun v19 =>
      pr (.bin (.add) (.no)) [v19, v10] fun v20 =>
      pr (.bin (.add) (.no)) [v20, (.str [10])] fun v21 =>
      pr (.bin (.add) (.no)) [v7, (.int .i64 1)] fun v22 =>
      Γ 5 76 [v0, v1, v2, v15, v21, v5, v6, v22])) (
    ca Γ 8 [v3] fun v9 =>
    pr (.bin (.add) (.no)) [v4, (.str [103, 111, 32, 49, 46])] fun v10 =>
    pr (.bin (.add) (.no)) [v10, v2] fun v11 =>
    pr (.bin (.add) (.no)) [v11, (.str [10, 109, 111, 100, 117, 108, 101, 32])] fun v12 =>
    pr (.bin (.add) (.no)) [v12, v0] fun v13 =>
    ca Γ 8 [v13] fun v14 =>
    pr (.cat [some 4]) [v9] fun v15 =>
    pr (.cat [some 4]) [v14] fun v16 =>
    pr (.ld none 3) [v15] fun v17 =>
    pr (.bin (.eql) (.no)) [v17, (.int .i64 0)] fun v18 =>
    vif v18 (
      pr (.ld none 0) [v15] fun v19 =>
      pr (.bin (.eql) (.no)) [v19, v0] fun v20 =>
      vif v20 (
        pr (.ld none 1) [v15] fun v21 =>
        pr (.bin (.eql) (.no)) [v21, v1] fun v22 =>
        vif v22 (
          ca Γ 9 [v15, v16] fun v23 =>
          some v23) (
          some (.bool false))) (
        some (.bool false))) (
      some (.bool false)))
theorem s.seichelaw17_ModfileOrder_76 (e : Nat → List V → Option V) (Γ : Gam) (v0 v1 v2 v3 v4 v5 v6 v7 : V) : Go.Abs.step Tryd.prog tabs e cfg Γ 5 76 [v0, v1, v2, v3, v4, v5, v6, v7] = y.seichelaw17_ModfileOrder_76 Γ v0 v1 v2 v3 v4 v5 v6 v7 := by kernel_rfl
theorem w.seichelaw17_ModfileOrder_76 (e : Nat → List V → Option V) (v0 v1 v2 v3 v4 v5 v6 v7 : V) : vl e 5 76 [v0, v1, v2, v3, v4, v5, v6, v7] = y.seichelaw17_ModfileOrder_76 (vl e) v0 v1 v2 v3 v4 v5 v6 v7 := val_of (s.seichelaw17_ModfileOrder_76 e _ v0 v1 v2 v3 v4 v5 v6 v7)
noncomputable def y.seicheref14_Cut (Γ : Gam) (v0 v1 : V) : Option V :=
  Γ 7 12 [v0, v1, (.sl false 1 []), (.int .i64 0), (.int .i64 0)]
theorem s.seicheref14_Cut (e : Nat → List V → Option V) (Γ : Gam) (v0 v1 : V) : Go.Abs.step Tryd.prog tabs e cfg Γ 7 0 [v0, v1] = y.seicheref14_Cut Γ v0 v1 := by kernel_rfl
theorem w.seicheref14_Cut (e : Nat → List V → Option V) (v0 v1 : V) : vl e 7 0 [v0, v1] = y.seicheref14_Cut (vl e) v0 v1 := val_of (s.seicheref14_Cut e _ v0 v1)
noncomputable def y.seicheref14_Cut_12 (Γ : Gam) (v0 v1 v2 v3 v4 : V) : Option V :=
  pr (.len true) [v0] fun v5 =>
  pr (.bin (.leq) (.no)) [v4, v5] fun v6 =>
  vif v6 (
    pr (.len true) [v0] fun v7 =>
    pr (.bin (.eql) (.no)) [v4, v7] fun v8 =>
    vif v8 (
      pr (.sls true true) [v0, v3, v4] fun v9 =>
      pr (.bsl 1) [v9] fun v10 =>
      pr (.app 1) [v2, v10] fun v11 =>
      pr (.bin (.add) (.no)) [v4, (.int .i64 1)] fun v12 =>
      pr (.bin (.add) (.no)) [v4, (.int .i64 1)] fun v13 =>
      Γ 7 12 [v0, v1, v11, v12, v13]) (
      pr .idx [v0, v4] fun v9 =>
      pr (.bin (.eql) (.no)) [v9, v1] fun v10 =>
      vif v10 (
        pr (.sls true true) [v0, v3, v4] fun v11 =>
        pr (.bsl 1) [v11] fun v12 =>
        pr (.app 1) [v2, v12] fun v13 =>
        pr (.bin (.add) (.no)) [v4, (.int .i64 1)] fun v14 =>
        pr (.bin (.add) (.no)) [v4, (.int .i64 1)] fun v15 =>
        Γ 7 12 [v0, v1, v13, v14, v15]) (
        pr (.bin (.add) (.no)) [v4, (.int .i64 1)] fun v11 =>
        Γ 7 12 [v0, v1, v2, v3, v11]))) (
    some v2)
theorem s.seicheref14_Cut_12 (e : Nat → List V → Option V) (Γ : Gam) (v0 v1 v2 v3 v4 : V) : Go.Abs.step Tryd.prog tabs e cfg Γ 7 12 [v0, v1, v2, v3, v4] = y.seicheref14_Cut_12 Γ v0 v1 v2 v3 v4 := by kernel_rfl
theorem w.seicheref14_Cut_12 (e : Nat → List V → Option V) (v0 v1 v2 v3 v4 : V) : vl e 7 12 [v0, v1, v2, v3, v4] = y.seicheref14_Cut_12 (vl e) v0 v1 v2 v3 v4 := val_of (s.seicheref14_Cut_12 e _ v0 v1 v2 v3 v4)
noncomputable def y.seicheref17_Same (Γ : Gam) (v0 v1 : V) : Option V :=
  pr .scs [v0] fun v2 =>
  pr .scs [v1] fun v3 =>
  pr (.ld none 0) [v2] fun v4 =>
  pr (.ld none 0) [v3] fun v5 =>
  pr (.bin (.neq) (.no)) [v4, v5] fun v6 =>
  vif v6 (
    Γ 9 7 [(.bool true), v2, v3]) (
    pr (.ld none 1) [v2] fun v7 =>
    pr (.ld none 1) [v3] fun v8 =>
    pr (.bin (.neq) (.no)) [v7, v8] fun v9 =>
    vif v9 (
      Γ 9 7 [(.bool true), v2, v3]) (
      pr (.ld none 3) [v2] fun v10 =>
      pr (.ld none 3) [v3] fun v11 =>
      pr (.bin (.neq) (.no)) [v10, v11] fun v12 =>
      vif v12 (
        Γ 9 7 [(.bool true), v2, v3]) (
        pr (.ld none 2) [v2] fun v13 =>
        pr (.len false) [v13] fun v14 =>
        pr (.ld none 2) [v3] fun v15 =>
        pr (.len false) [v15] fun v16 =>
        pr (.bin (.neq) (.no)) [v14, v16] fun v17 =>
        Γ 9 7 [v17, v2, v3])))
theorem s.seicheref17_Same (e : Nat → List V → Option V) (Γ : Gam) (v0 v1 : V) : Go.Abs.step Tryd.prog tabs e cfg Γ 9 0 [v0, v1] = y.seicheref17_Same Γ v0 v1 := by kernel_rfl
theorem w.seicheref17_Same (e : Nat → List V → Option V) (v0 v1 : V) : vl e 9 0 [v0, v1] = y.seicheref17_Same (vl e) v0 v1 := val_of (s.seicheref17_Same e _ v0 v1)
end Go.Proofs.YtanocopjancaiaaDoor
/-
  What functions of the program come to, over values alone. Printed by programs of this seat (wip/y/tool.lean, asm.py).
-/
namespace Go.Proofs.YtanocopjancaiaaDoor
open Go.Abs

noncomputable def y.seicheref17_Same_7 (Γ : Gam) (v0 v1 v2 : V) : Option V :=
  vif v0 (
    some (.bool false)) (
    pr (.ld none 2) [v1] fun v3 =>
    pr (.len false) [v3] fun v4 =>
    Γ 9 16 [v4, (.int .i64 0), v1, v2])
theorem s.seicheref17_Same_7 (e : Nat → List V → Option V) (Γ : Gam) (v0 v1 v2 : V) : Go.Abs.step Tryd.prog tabs e cfg Γ 9 7 [v0, v1, v2] = y.seicheref17_Same_7 Γ v0 v1 v2 := by kernel_rfl
theorem w.seicheref17_Same_7 (e : Nat → List V → Option V) (v0 v1 v2 : V) : vl e 9 7 [v0, v1, v2] = y.seicheref17_Same_7 (vl e) v0 v1 v2 := val_of (s.seicheref17_Same_7 e _ v0 v1 v2)
noncomputable def y.seicheref17_Same_16 (Γ : Gam) (v0 v1 v2 v3 : V) : Option V :=
  pr (.bin (.lss) (.no)) [v1, v0] fun v4 =>
  vif v4 (
    pr (.ld none 2) [v2] fun v5 =>
    pr (.elem 2) [v5, v1] fun v6 =>
    pr (.ld (some 2) 0) [v6] fun v7 =>
    pr (.ld none 2) [v3] fun v8 =>
    pr (.elem 2) [v8, v1] fun v9 =>
    pr (.ld (some 2) 0) [v9] fun v10 =>
    pr (.bin (.neq) (.flat [(none, true), (none, true)])) [v7, v10] fun v11 =>
    vif v11 (
      some (.bool false)) (
      pr (.bin (.add) (.no)) [v1, (.int .i64 1)] fun v12 =>
      Γ 9 16 [v0, v12, v2, v3])) (
    some (.bool true))
theorem s.seicheref17_Same_16 (e : Nat → List V → Option V) (Γ : Gam) (v0 v1 v2 v3 : V) : Go.Abs.step Tryd.prog tabs e cfg Γ 9 16 [v0, v1, v2, v3] = y.seicheref17_Same_16 Γ v0 v1 v2 v3 := by kernel_rfl
theorem w.seicheref17_Same_16 (e : Nat → List V → Option V) (v0 v1 v2 v3 : V) : vl e 9 16 [v0, v1, v2, v3] = y.seicheref17_Same_16 (vl e) v0 v1 v2 v3 := val_of (s.seicheref17_Same_16 e _ v0 v1 v2 v3)
noncomputable def y.modfile_level (Γ : Gam) (v0 : V) : Option V :=
  ca Γ 11 [v0, (.str [46])] fun v1 =>
  pr (.len false) [v1] fun v2 =>
  pr (.bin (.lss) (.no)) [v2, (.int .i64 2)] fun v3 =>
  vif v3 (
    Γ 23 9 [v1, (.bool true)]) (
    pr (.len false) [v1] fun v4 =>
    pr (.bin (.gtr) (.no)) [v4, (.int .i64 3)] fun v5 =>
    vif v5 (
      Γ 23 9 [v1, (.bool true)]) (
      pr (.elem 1) [v1, (.int .i64 0)] fun v6 =>
      pr (.ld none 0) [v6] fun v7 =>
      pr (.bin (.neq) (.no)) [v7, (.str [49])] fun v8 =>
      Γ 23 9 [v1, v8]))
theorem s.modfile_level (e : Nat → List V → Option V) (Γ : Gam) (v0 : V) : Go.Abs.step Tryd.prog tabs e cfg Γ 23 0 [v0] = y.modfile_level Γ v0 := by kernel_rfl
theorem w.modfile_level (e : Nat → List V → Option V) (v0 : V) : vl e 23 0 [v0] = y.modfile_level (vl e) v0 := val_of (s.modfile_level e _ v0)
noncomputable def y.modfile_level_9 (Γ : Gam) (v0 v1 : V) : Option V :=
  vif v1 (
    some (.tup [(.int .i64 0), (.bool false)])) (
    pr (.len false) [v0] fun v2 =>
    Γ 23 18 [v0, v0, v2, (.int .i64 0)])
theorem s.modfile_level_9 (e : Nat → List V → Option V) (Γ : Gam) (v0 v1 : V) : Go.Abs.step Tryd.prog tabs e cfg Γ 23 9 [v0, v1] = y.modfile_level_9 Γ v0 v1 := by kernel_rfl
theorem w.modfile_level_9 (e : Nat → List V → Option V) (v0 v1 : V) : vl e 23 9 [v0, v1] = y.modfile_level_9 (vl e) v0 v1 := val_of (s.modfile_level_9 e _ v0 v1)
noncomputable def y.modfile_level_18 (Γ : Gam) (v0 v1 v2 v3 : V) : Option V :=
  pr (.bin (.lss) (.no)) [v3, v2] fun v4 =>
  vif v4 (
    pr (.elem 1) [v1, v3] fun v5 =>
    pr (.ld none 0) [v5] fun v6 =>
    ca Γ 34 [v6] fun v7 =>
    pr (.ext 0) [v7] fun v8 =>
    pr (.ext 1) [v7] fun v9 =>
    pr (.bin (.neq) (.iface)) [v9, .nilif] fun v10 =>
    vif v10 (
      some (.tup [(.int .i64 0), (.bool false)])) (
      pr (.bin (.lss) (.no)) [v8, (.int .i64 0)] fun v11 =>
      vif v11 (
        some (.tup [(.int .i64 0), (.bool false)])) (
        ca Γ 35 [v8] fun v12 =>
        pr (.bin (.neq) (.no)) [v12, v6] fun v13 =>
        vif v13 (
          some (.tup [(.int .i64 0), (.bool false)])) (
          pr (.len true) [v6] fun v14 =>
          pr (.bin (.gtr) (.no)) [v14, (.int .i64 4)] fun v15 =>
          vif v15 (
            some (.tup [(.int .i64 0), (.bool false)])) (
            pr (.bin (.add) (.no)) [v3, (.int .i64 1)] fun v16 =>
            Γ 23 18 [v0, v1, v2, v16]))))) (
    pr (.elem 1) [v0, (.int .i64 1)] fun v5 =>
    pr (.ld none 0) [v5] fun v6 =>
    ca Γ 34 [v6] fun v7 =>
    pr (.ext 0) [v7] fun v8 =>
    pr (.ext 1) [v7] fun v9 =>
    some (.tup [v8, (.bool true)]))
theorem s.modfile_level_18 (e : Nat → List V → Option V) (Γ : Gam) (v0 v1 v2 v3 : V) : Go.Abs.step Tryd.prog tabs e cfg Γ 23 18 [v0, v1, v2, v3] = y.modfile_level_18 Γ v0 v1 v2 v3 := by kernel_rfl
theorem w.modfile_level_18 (e : Nat → List V → Option V) (v0 v1 v2 v3 : V) : vl e 23 18 [v0, v1, v2, v3] = y.modfile_level_18 (vl e) v0 v1 v2 v3 := val_of (s.modfile_level_18 e _ v0 v1 v2 v3)
noncomputable def y.slices_Index_Lstring_string (Γ : Gam) (v0 v1 : V) : Option V :=
  pr (.len false) [v0] fun v2 =>
  Γ 25 8 [v0, v1, v2, (.int .i64 0)]
theorem s.slices_Index_Lstring_string (e : Nat → List V → Option V) (Γ : Gam) (v0 v1 : V) : Go.Abs.step Tryd.prog tabs e cfg Γ 25 0 [v0, v1] = y.slices_Index_Lstring_string Γ v0 v1 := by kernel_rfl
theorem w.slices_Index_Lstring_string (e : Nat → List V → Option V) (v0 v1 : V) : vl e 25 0 [v0, v1] = y.slices_Index_Lstring_string (vl e) v0 v1 := val_of (s.slices_Index_Lstring_string e _ v0 v1)
noncomputable def y.slices_Index_Lstring_string_8 (Γ : Gam) (v0 v1 v2 v3 : V) : Option V :=
  pr (.bin (.lss) (.no)) [v3, v2] fun v4 =>
  vif v4 (
    pr (.elem 1) [v0, v3] fun v5 =>
    pr (.ld none 0) [v5] fun v6 =>
    pr (.bin (.eql) (.no)) [v1, v6] fun v7 =>
    vif v7 (
      some v3) (
      pr (.bin (.add) (.no)) [v3, (.int .i64 1)] fun v8 =>
      Γ 25 8 [v0, v1, v2, v8])) (
    some (.int .i64 (-1)))
theorem s.slices_Index_Lstring_string_8 (e : Nat → List V → Option V) (Γ : Gam) (v0 v1 v2 v3 : V) : Go.Abs.step Tryd.prog tabs e cfg Γ 25 8 [v0, v1, v2, v3] = y.slices_Index_Lstring_string_8 Γ v0 v1 v2 v3 := by kernel_rfl
theorem w.slices_Index_Lstring_string_8 (e : Nat → List V → Option V) (v0 v1 v2 v3 : V) : vl e 25 8 [v0, v1, v2, v3] = y.slices_Index_Lstring_string_8 (vl e) v0 v1 v2 v3 := val_of (s.slices_Index_Lstring_string_8 e _ v0 v1 v2 v3)
noncomputable def y.seiche_modfile_reader_line_h0 (Γ : Gam) (v0 v1 v2 v3 v4 v5 v6 : V) : Option V :=
  ca Γ 14 [v0, (.str [47, 47])] fun v7 =>
  pr (.bin (.geq) (.no)) [v7, (.int .i64 0)] fun v8 =>
  vif v8 (
    pr (.sls false true) [v0, v7] fun v9 =>
    Γ 10192 12 [v9, v1, v2, v3, v4, v5, v6]) (
    Γ 10192 12 [v0, v1, v2, v3, v4, v5, v6])
theorem s.seiche_modfile_reader_line_h0 (e : Nat → List V → Option V) (Γ : Gam) (v0 v1 v2 v3 v4 v5 v6 : V) : Go.Abs.step Tryd.prog tabs e cfg Γ 10192 1 [v0, v1, v2, v3, v4, v5, v6] = y.seiche_modfile_reader_line_h0 Γ v0 v1 v2 v3 v4 v5 v6 := by kernel_rfl
theorem w.seiche_modfile_reader_line_h0 (e : Nat → List V → Option V) (v0 v1 v2 v3 v4 v5 v6 : V) : vl e 10192 1 [v0, v1, v2, v3, v4, v5, v6] = y.seiche_modfile_reader_line_h0 (vl e) v0 v1 v2 v3 v4 v5 v6 := val_of (s.seiche_modfile_reader_line_h0 e _ v0 v1 v2 v3 v4 v5 v6)
noncomputable def y.seiche_modfile_reader_line_h0_12 (Γ : Gam) (v0 v1 v2 v3 v4 v5 v6 : V) : Option V :=
  ca Γ 15 [v0, (.fn 16 [])] fun v7 =>
  pr (.len false) [v7] fun v8 =>
  pr (.bin (.eql) (.no)) [v8, (.int .i64 0)] fun v9 =>
  vif v9 (
    some (.tup [(.bool true), v1, v2, v3, v4, v5, v6])) (
    pr (.bin (.neq) (.no)) [v5, (.str [])] fun v10 =>
    vif v10 (
      pr (.elem 1) [v7, (.int .i64 0)] fun v11 =>
      pr (.ld none 0) [v11] fun v12 =>
      pr (.bin (.eql) (.no)) [v12, (.str [41])] fun v13 =>
      Γ 10192 24 [v7, v13, v1, v2, v3, v4, v5, v6]) (
      Γ 10192 24 [v7, (.bool false), v1, v2, v3, v4, v5, v6]))
theorem s.seiche_modfile_reader_line_h0_12 (e : Nat → List V → Option V) (Γ : Gam) (v0 v1 v2 v3 v4 v5 v6 : V) : Go.Abs.step Tryd.prog tabs e cfg Γ 10192 12 [v0, v1, v2, v3, v4, v5, v6] = y.seiche_modfile_reader_line_h0_12 Γ v0 v1 v2 v3 v4 v5 v6 := by kernel_rfl
theorem w.seiche_modfile_reader_line_h0_12 (e : Nat → List V → Option V) (v0 v1 v2 v3 v4 v5 v6 : V) : vl e 10192 12 [v0, v1, v2, v3, v4, v5, v6] = y.seiche_modfile_reader_line_h0_12 (vl e) v0 v1 v2 v3 v4 v5 v6 := val_of (s.seiche_modfile_reader_line_h0_12 e _ v0 v1 v2 v3 v4 v5 v6)
noncomputable def y.seiche_modfile_reader_line_h0_24 (Γ : Gam) (v0 v1 v2 v3 v4 v5 v6 v7 : V) : Option V :=
  vif v1 (
    pr (.len false) [v0] fun v8 =>
    pr (.bin (.eql) (.no)) [v8, (.int .i64 1)] fun v9 =>
    some (.tup [v9, v2, v3, v4, v5, (.str []), v7])) (
    pr (.bin (.neq) (.no)) [v6, (.str [])] fun v8 =>
    vif v8 (
      ch Γ 10272 [v6, v0, v2, v3, v4, v5, v6, v7] fun v9 =>
      pr (.ext 0) [v9] fun v10 =>
      pr (.ext 1) [v9] fun v11 =>
      pr (.ext 2) [v9] fun v12 =>
      pr (.ext 3) [v9] fun v13 =>
      pr (.ext 4) [v9] fun v14 =>
      pr (.ext 5) [v9] fun v15 =>
      pr (.ext 6) [v9] fun v16 =>
      some (.tup [v10, v11, v12, v13, v14, v15, v16])) (
      pr (.len false) [v0] fun v9 =>
      pr (.bin (.eql) (.no)) [v9, (.int .i64 2)] fun v10 =>
      vif v10 (
        pr (.elem 1) [v0, (.int .i64 1)] fun v11 =>
        pr (.ld none 0) [v11] fun v12 =>
        pr (.bin (.eql) (.no)) [v12, (.str [40])] fun v13 =>
        vif v13 (
          pr (.elem 1) [v0, (.int .i64 0)] fun v14 =>
          pr (.ld none 0) [v14] fun v15 =>
          pr .sc [v15] fun v16 =>
          pr (.bsl 1) [(.str [114, 101, 113, 117, 105, 114, 101]), (.str [101, 120, 99, 108, 117, 100, 101]), (.str [114, 101, 116, 114, 97, 99, 116]), (.str [114, 101, 112, 108, 97, 99, 101])] fun v17 =>
          pr (.elem 1) [v0, (.int .i64 0)] fun v18 =>
          pr (.ld none 0) [v18] fun v19 =>
          ca Γ 18 [v17, v19] fun v20 =>
          some (.tup [v20, v2, v3, v4, v5, v16, v7])) (
          pr (.elem 1) [v0, (.int .i64 0)] fun v14 =>
          pr (.ld none 0) [v14] fun v15 =>
          pr (.slc 1 true false false) [v0, (.int .i64 1)] fun v16 =>
          ch Γ 10272 [v15, v16, v2, v3, v4, v5, v6, v7] fun v17 =>
          pr (.ext 0) [v17] fun v18 =>
          pr (.ext 1) [v17] fun v19 =>
          pr (.ext 2) [v17] fun v20 =>
          pr (.ext 3) [v17] fun v21 =>
          pr (.ext 4) [v17] fun v22 =>
          pr (.ext 5) [v17] fun v23 =>
          pr (.ext 6) [v17] fun v24 =>
          some (.tup [v18, v19, v20, v21, v22, v23, v24]))) (
        pr (.elem 1) [v0, (.int .i64 0)] fun v11 =>
        pr (.ld none 0) [v11] fun v12 =>
        pr (.slc 1 true false false) [v0, (.int .i64 1)] fun v13 =>
        ch Γ 10272 [v12, v13, v2, v3, v4, v5, v6, v7] fun v14 =>
        pr (.ext 0) [v14] fun v15 =>
        pr (.ext 1) [v14] fun v16 =>
        pr (.ext 2) [v14] fun v17 =>
        pr (.ext 3) [v14] fun v18 =>
        pr (.ext 4) [v14] fun v19 =>
        pr (.ext 5) [v14] fun v20 =>
        pr (.ext 6) [v14] fun v21 =>
        some (.tup [v15, v16, v17, v18, v19, v20, v21]))))
theorem s.seiche_modfile_reader_line_h0_24 (e : Nat → List V → Option V) (Γ : Gam) (v0 v1 v2 v3 v4 v5 v6 v7 : V) : Go.Abs.step Tryd.prog tabs e cfg Γ 10192 24 [v0, v1, v2, v3, v4, v5, v6, v7] = y.seiche_modfile_reader_line_h0_24 Γ v0 v1 v2 v3 v4 v5 v6 v7 := by kernel_rfl
theorem w.seiche_modfile_reader_line_h0_24 (e : Nat → List V → Option V) (v0 v1 v2 v3 v4 v5 v6 v7 : V) : vl e 10192 24 [v0, v1, v2, v3, v4, v5, v6, v7] = y.seiche_modfile_reader_line_h0_24 (vl e) v0 v1 v2 v3 v4 v5 v6 v7 := val_of (s.seiche_modfile_reader_line_h0_24 e _ v0 v1 v2 v3 v4 v5 v6 v7)
noncomputable def y.seiche_modfile_reader_verb_h0 (Γ : Gam) (v0 v1 v2 v3 v4 v5 v6 v7 : V) : Option V :=
  pr (.bin (.eql) (.no)) [v0, (.str [109, 111, 100, 117, 108, 101])] fun v8 =>
  vif v8 (
    pr (.len false) [v1] fun v9 =>
    pr (.bin (.neq) (.no)) [v9, (.int .i64 1)] fun v10 =>
    vif v10 (
      some (.tup [(.bool false), v2, v3, v4, v5, v6, v7])) (
      pr (.elem 1) [v1, (.int .i64 0)] fun v11 =>
      pr (.ld none 0) [v11] fun v12 =>
      ca Γ 22 [v12] fun v13 =>
      pr (.un (.not)) [v13] fun v14 =>
      vif v14 (
        some (.tup [(.bool false), v2, v3, v4, v5, v6, v7])) (
        pr (.bin (.neq) (.no)) [v2, (.str [])] fun v15 =>
        vif v15 (
          some (.tup [(.bool false), v2, v3, v4, v5, v6, v7])) (
          pr (.elem 1) [v1, (.int .i64 0)] fun v16 =>
          pr (.ld none 0) [v16] fun v17 =>
          pr .sc [v17] fun v18 =>
          some (.tup [(.bool true), v18, v3, v4, v5, v6, v7]))))) (
    pr (.bin (.eql) (.no)) [v0, (.str [103, 111])] fun v9 =>
    vif v9 (
      pr (.len false) [v1] fun v10 =>
      pr (.bin (.neq) (.no)) [v10, (.int .i64 1)] fun v11 =>
      vif v11 (
        some (.tup [(.bool false), v2, v3, v4, v5, v6, v7])) (
        vif v7 (
          some (.tup [(.bool false), v2, v3, v4, v5, v6, (.bool true)])) (
          pr (.elem 1) [v1, (.int .i64 0)] fun v12 =>
          pr (.ld none 0) [v12] fun v13 =>
          ca Γ 23 [v13] fun v14 =>
          pr (.ext 0) [v14] fun v15 =>
          pr (.ext 1) [v14] fun v16 =>
          pr .sc [v15] fun v17 =>
          some (.tup [v16, v2, v17, v4, v5, v6, (.bool true)])))) (
      pr (.bin (.eql) (.no)) [v0, (.str [114, 101, 112, 108, 97, 99, 101])] fun v10 =>
      vif v10 (
        ch Γ 10384 [v1, v2, v3, v4, v5, v6, v7] fun v11 =>
        pr (.ext 0) [v11] fun v12 =>
        pr (.ext 1) [v11] fun v13 =>
        pr (.ext 2) [v11] fun v14 =>
        pr (.ext 3) [v11] fun v15 =>
        pr (.ext 4) [v11] fun v16 =>
        pr (.ext 5) [v11] fun v17 =>
        pr (.ext 6) [v11] fun v18 =>
        some (.tup [v12, v13, v14, v15, v16, v17, v18])) (
        pr (.bin (.eql) (.no)) [v0, (.str [114, 101, 113, 117, 105, 114, 101])] fun v11 =>
        vif v11 (
          pr (.len false) [v1] fun v12 =>
          pr (.bin (.gtr) (.no)) [v12, (.int .i64 0)] fun v13 =>
          some (.tup [v13, v2, v3, v4, v5, v6, v7])) (
          pr (.bin (.eql) (.no)) [v0, (.str [101, 120, 99, 108, 117, 100, 101])] fun v12 =>
          vif v12 (
            pr (.len false) [v1] fun v13 =>
            pr (.bin (.gtr) (.no)) [v13, (.int .i64 0)] fun v14 =>
            some (.tup [v14, v2, v3, v4, v5, v6, v7])) (
            pr (.bin (.eql) (.no)) [v0, (.str [114, 101, 116, 114, 97, 99, 116])] fun v13 =>
            vif v13 (
              pr (.len false) [v1] fun v14 =>
              pr (.bin (.gtr) (.no)) [v14, (.int .i64 0)] fun v15 =>
              some (.tup [v15, v2, v3, v4, v5, v6, v7])) (
              pr (.bin (.eql) (.no)) [v0, (.str [116, 111, 111, 108, 99, 104, 97, 105, 110])] fun v14 =>
              vif v14 (
                pr (.len false) [v1] fun v15 =>
                pr (.bin (.gtr) (.no)) [v15, (.int .i64 0)] fun v16 =>
                some (.tup [v16, v2, v3, v4, v5, v6, v7])) (
                some (.tup [(.bool false), v2, v3, v4, v5, v6, v7]))))))))
theorem s.seiche_modfile_reader_verb_h0 (e : Nat → List V → Option V) (Γ : Gam) (v0 v1 v2 v3 v4 v5 v6 v7 : V) : Go.Abs.step Tryd.prog tabs e cfg Γ 10272 1 [v0, v1, v2, v3, v4, v5, v6, v7] = y.seiche_modfile_reader_verb_h0 Γ v0 v1 v2 v3 v4 v5 v6 v7 := by kernel_rfl
theorem w.seiche_modfile_reader_verb_h0 (e : Nat → List V → Option V) (v0 v1 v2 v3 v4 v5 v6 v7 : V) : vl e 10272 1 [v0, v1, v2, v3, v4, v5, v6, v7] = y.seiche_modfile_reader_verb_h0 (vl e) v0 v1 v2 v3 v4 v5 v6 v7 := val_of (s.seiche_modfile_reader_verb_h0 e _ v0 v1 v2 v3 v4 v5 v6 v7)
noncomputable def y.seiche_modfile_reader_replace_h0 (Γ : Gam) (v0 v1 v2 v3 v4 v5 v6 : V) : Option V :=
  pr .scs [v0] fun v7 =>
  pr (.ld none 0) [v7] fun v8 =>
  ca Γ 25 [v8, (.str [61, 62])] fun v9 =>
  pr (.ld none 0) [v7] fun v10 =>
  pr (.bin (.add) (.no)) [v9, (.int .i64 1)] fun v11 =>
  pr (.slc 1 true false false) [v10, v11] fun v12 =>
  pr (.bin (.lss) (.no)) [v9, (.int .i64 1)] fun v13 =>
  vif v13 (
    Γ 10384 11 [v12, (.bool true), v1, v2, v3, v4, v5, v6, v7]) (
    pr (.bin (.gtr) (.no)) [v9, (.int .i64 2)] fun v14 =>
    vif v14 (
      Γ 10384 11 [v12, (.bool true), v1, v2, v3, v4, v5, v6, v7]) (
      pr (.len false) [v12] fun v15 =>
      pr (.bin (.lss) (.no)) [v15, (.int .i64 1)] fun v16 =>
      vif v16 (
        Γ 10384 11 [v12, (.bool true), v1, v2, v3, v4, v5, v6, v7]) (
        pr (.len false) [v12] fun v17 =>
        pr (.bin (.gtr) (.no)) [v17, (.int .i64 2)] fun v18 =>
        vif v18 (
          Γ 10384 11 [v12, (.bool true), v1, v2, v3, v4, v5, v6, v7]) (
          pr (.ld none 0) [v7] fun v19 =>
          pr (.elem 1) [v19, (.int .i64 0)] fun v20 =>
          pr (.ld none 0) [v20] fun v21 =>
          ca Γ 22 [v21] fun v22 =>
          pr (.un (.not)) [v22] fun v23 =>
          Γ 10384 11 [v12, v23, v1, v2, v3, v4, v5, v6, v7]))))
theorem s.seiche_modfile_reader_replace_h0 (e : Nat → List V → Option V) (Γ : Gam) (v0 v1 v2 v3 v4 v5 v6 : V) : Go.Abs.step Tryd.prog tabs e cfg Γ 10384 1 [v0, v1, v2, v3, v4, v5, v6] = y.seiche_modfile_reader_replace_h0 Γ v0 v1 v2 v3 v4 v5 v6 := by kernel_rfl
theorem w.seiche_modfile_reader_replace_h0 (e : Nat → List V → Option V) (v0 v1 v2 v3 v4 v5 v6 : V) : vl e 10384 1 [v0, v1, v2, v3, v4, v5, v6] = y.seiche_modfile_reader_replace_h0 (vl e) v0 v1 v2 v3 v4 v5 v6 := val_of (s.seiche_modfile_reader_replace_h0 e _ v0 v1 v2 v3 v4 v5 v6)
noncomputable def y.seiche_modfile_reader_replace_h0_11 (Γ : Gam) (v0 v1 v2 v3 v4 v5 v6 v7 v8 : V) : Option V :=
  vif v1 (
    some (.tup [(.bool false), v2, v3, v4, v5, v6, v7])) (
    pr (.elem 1) [v0, (.int .i64 0)] fun v9 =>
    pr (.ld none 0) [v9] fun v10 =>
    ca Γ 36 [v10] fun v11 =>
    pr (.un (.not)) [v11] fun v12 =>
    vif v12 (
      some (.tup [(.bool true), v2, v3, v4, v5, v6, v7])) (
      pr (.len false) [v0] fun v13 =>
      pr (.bin (.gtr) (.no)) [v13, (.int .i64 1)] fun v14 =>
      vif v14 (
        some (.tup [(.bool false), v2, v3, v4, v5, v6, v7])) (
        ch Γ 10592 [v4, v8] fun v15 =>
        pr (.ext 0) [v15] fun v16 =>
        pr (.ext 1) [v15] fun v17 =>
        vif v16 (
          some (.tup [(.bool false), v2, v3, v4, v5, v6, v7])) (
          pr (.ld none 0) [v17] fun v18 =>
          pr (.elem 1) [v18, (.int .i64 0)] fun v19 =>
          pr (.ld none 0) [v19] fun v20 =>
          pr (.elem 1) [v0, (.int .i64 0)] fun v21 =>
          pr (.ld none 0) [v21] fun v22 =>
          pr (.cat [none, none]) [v20, v22] fun v23 =>
          pr (.bsl 2) [v23] fun v24 =>
          pr (.app 2) [v4, v24] fun v25 =>
          some (.tup [(.bool true), v2, v3, v25, v5, v6, v7])))))
theorem s.seiche_modfile_reader_replace_h0_11 (e : Nat → List V → Option V) (Γ : Gam) (v0 v1 v2 v3 v4 v5 v6 v7 v8 : V) : Go.Abs.step Tryd.prog tabs e cfg Γ 10384 11 [v0, v1, v2, v3, v4, v5, v6, v7, v8] = y.seiche_modfile_reader_replace_h0_11 Γ v0 v1 v2 v3 v4 v5 v6 v7 v8 := by kernel_rfl
theorem w.seiche_modfile_reader_replace_h0_11 (e : Nat → List V → Option V) (v0 v1 v2 v3 v4 v5 v6 v7 v8 : V) : vl e 10384 11 [v0, v1, v2, v3, v4, v5, v6, v7, v8] = y.seiche_modfile_reader_replace_h0_11 (vl e) v0 v1 v2 v3 v4 v5 v6 v7 v8 := val_of (s.seiche_modfile_reader_replace_h0_11 e _ v0 v1 v2 v3 v4 v5 v6 v7 v8)
noncomputable def y.slices_ContainsFunc_Lseiche_api_Replace_seiche_api_Replace_h0 (Γ : Gam) (v0 v1 : V) : Option V :=
  ch Γ 10752 [v0, v1] fun v2 =>
  pr (.ext 0) [v2] fun v3 =>
  pr (.ext 1) [v2] fun v4 =>
  pr (.bin (.geq) (.no)) [v3, (.int .i64 0)] fun v5 =>
  some (.tup [v5, v4])
theorem s.slices_ContainsFunc_Lseiche_api_Replace_seiche_api_Replace_h0 (e : Nat → List V → Option V) (Γ : Gam) (v0 v1 : V) : Go.Abs.step Tryd.prog tabs e cfg Γ 10592 1 [v0, v1] = y.slices_ContainsFunc_Lseiche_api_Replace_seiche_api_Replace_h0 Γ v0 v1 := by kernel_rfl
theorem w.slices_ContainsFunc_Lseiche_api_Replace_seiche_api_Replace_h0 (e : Nat → List V → Option V) (v0 v1 : V) : vl e 10592 1 [v0, v1] = y.slices_ContainsFunc_Lseiche_api_Replace_seiche_api_Replace_h0 (vl e) v0 v1 := val_of (s.slices_ContainsFunc_Lseiche_api_Replace_seiche_api_Replace_h0 e _ v0 v1)
noncomputable def y.slices_IndexFunc_Lseiche_api_Replace_seiche_api_Replace_h0 (Γ : Gam) (v0 v1 : V) : Option V :=
  pr (.len false) [v0] fun v2 =>
  Γ 10752 8 [v0, v2, (.int .i64 0), v1]
theorem s.slices_IndexFunc_Lseiche_api_Replace_seiche_api_Replace_h0 (e : Nat → List V → Option V) (Γ : Gam) (v0 v1 : V) : Go.Abs.step Tryd.prog tabs e cfg Γ 10752 1 [v0, v1] = y.slices_IndexFunc_Lseiche_api_Replace_seiche_api_Replace_h0 Γ v0 v1 := by kernel_rfl
theorem w.slices_IndexFunc_Lseiche_api_Replace_seiche_api_Replace_h0 (e : Nat → List V → Option V) (v0 v1 : V) : vl e 10752 1 [v0, v1] = y.slices_IndexFunc_Lseiche_api_Replace_seiche_api_Replace_h0 (vl e) v0 v1 := val_of (s.slices_IndexFunc_Lseiche_api_Replace_seiche_api_Replace_h0 e _ v0 v1)
noncomputable def y.slices_IndexFunc_Lseiche_api_Replace_seiche_api_Replace_h0_8 (Γ : Gam) (v0 v1 v2 v3 : V) : Option V :=
  pr (.bin (.lss) (.no)) [v2, v1] fun v4 =>
  vif v4 (
    pr (.elem 2) [v0, v2] fun v5 =>
    pr (.ld (some 2) 0) [v5] fun v6 =>
    ch Γ 10608 [v6, v3] fun v7 =>
    pr (.ext 0) [v7] fun v8 =>
    pr (.ext 1) [v7] fun v9 =>
    vif v8 (
      some (.tup [v2, v9])) (
      pr (.bin (.add) (.no)) [v2, (.int .i64 1)] fun v10 =>
      Γ 10752 8 [v0, v1, v10, v9])) (
    some (.tup [(.int .i64 (-1)), v3]))
theorem s.slices_IndexFunc_Lseiche_api_Replace_seiche_api_Replace_h0_8 (e : Nat → List V → Option V) (Γ : Gam) (v0 v1 v2 v3 : V) : Go.Abs.step Tryd.prog tabs e cfg Γ 10752 8 [v0, v1, v2, v3] = y.slices_IndexFunc_Lseiche_api_Replace_seiche_api_Replace_h0_8 Γ v0 v1 v2 v3 := by kernel_rfl
theorem w.slices_IndexFunc_Lseiche_api_Replace_seiche_api_Replace_h0_8 (e : Nat → List V → Option V) (v0 v1 v2 v3 : V) : vl e 10752 8 [v0, v1, v2, v3] = y.slices_IndexFunc_Lseiche_api_Replace_seiche_api_Replace_h0_8 (vl e) v0 v1 v2 v3 := val_of (s.slices_IndexFunc_Lseiche_api_Replace_seiche_api_Replace_h0_8 e _ v0 v1 v2 v3)
noncomputable def y.seiche_modfile_reader_replace_1_h0 (Γ : Gam) (v0 v1 : V) : Option V :=
  pr .scs [v0] fun v2 =>
  pr (.ld none 0) [v2] fun v3 =>
  pr (.ld none 0) [v1] fun v4 =>
  pr (.elem 1) [v4, (.int .i64 0)] fun v5 =>
  pr (.ld none 0) [v5] fun v6 =>
  pr (.bin (.eql) (.no)) [v3, v6] fun v7 =>
  some (.tup [v7, v1])
theorem s.seiche_modfile_reader_replace_1_h0 (e : Nat → List V → Option V) (Γ : Gam) (v0 v1 : V) : Go.Abs.step Tryd.prog tabs e cfg Γ 10608 1 [v0, v1] = y.seiche_modfile_reader_replace_1_h0 Γ v0 v1 := by kernel_rfl
theorem w.seiche_modfile_reader_replace_1_h0 (e : Nat → List V → Option V) (v0 v1 : V) : vl e 10608 1 [v0, v1] = y.seiche_modfile_reader_replace_1_h0 (vl e) v0 v1 := val_of (s.seiche_modfile_reader_replace_1_h0 e _ v0 v1)
end Go.Proofs.YtanocopjancaiaaDoor
/-
  What functions of the program come to: all of them. Printed by programs of this seat.
-/
/-
  B0: words for plain proofs over Y that hang on no program. Own work of this seat.
-/
namespace Go.Proofs.YtanocopjancaiaaDoor
open Go.Abs
theorem next64 {i n : Nat} (h : i < n) (hn : n ≤ 1152921504606846976) : IntKind.i64.wrap ((i : Int) + 1) = ((i + 1 : Nat) : Int) := w64 _ (by omega)
theorem v_s2b {x : Bytes} : evp .s2b [.str x] = some (.sl false 1 (encB x)) := rfl
theorem v_ld0 {x : V} (h : x.sc = true) : evp (.ld none 0) [x] = some x := by cases x <;> first | rfl | cases h
theorem encB_get (x : Bytes) (i : Nat) : (encB x)[i]? = (x[i]?).map byteV := by simp [encB]
theorem encB_len (x : Bytes) : (encB x).length = x.length := by simp [encB]
abbrev I (n : Int) : V := .int .i64 n
abbrev strs (l : List Bytes) : V := .sl false 1 (l.map .str)
theorem v_push {l : List Bytes} {x : Bytes} (h : l.length + 1 ≤ Lim) : evp (.app 1) [strs l, .sl false 1 [.str x]] = some (strs (l ++ [x])) := by
  rw [strs, v_app (by simpa using h)]; simp
theorem v_bsl1 {x : Bytes} : evp (.bsl 1) [.str x] = some (.sl false 1 [.str x]) := rfl
theorem v_get {l : List Bytes} {i : Nat} (h : i < l.length) : evp (.elem 1) [strs l, .int .i64 i] = some (.str l[i]) := v_elem (by simp [h])
theorem v_get0 {x : Bytes} {l : List Bytes} : evp (.elem 1) [strs (x :: l), .int .i64 0] = some (.str x) := v_elem (i := 0) rfl
theorem v_lds {x : Bytes} : evp (.ld none 0) [.str x] = some (.str x) := rfl
theorem v_lenS {l : List Bytes} : evp (.len false) [strs l] = some (.int .i64 l.length) := by rw [strs, v_len, List.length_map]
theorem v_nil : V.sl false 1 [] = strs [] := rfl

theorem bind_eq {o : Option V} {v : V} {k : V → Option V} {R : Option V} (h : o = some v) (hk : k v = R) : o.bind k = R := by rw [h]; exact hk
theorem v_mul {k : IntKind} {a b : Int} : evp (.bin .mul .no) [.int k a, .int k b] = some (.int k (k.wrap (a * b))) := by simp [evp, abin, aint]
theorem v_quo {k : Nat} (h0 : k ≠ 0) {n : Nat} (h : n < 4611686018427387904) : evp (.bin .quo .no) [.int .i64 (n : Int), .int .i64 (k : Int)] = some (.int .i64 ((n / k : Nat) : Int)) := by
  show (if (k : Int) = 0 then none else some (V.int .i64 (IntKind.i64.wrap ((n : Int).tdiv (k : Int))))) = _
  have := Nat.div_le_self n k
  have e1 : (n : Int).tdiv (k : Int) = ((n / k : Nat) : Int) := (Int.ofNat_tdiv n k).symm
  rw [if_neg (by omega), e1]
  generalize n / k = q at *
  rw [w64 _ (by omega)]
theorem v_rem {k : Nat} (h0 : k ≠ 0) {n : Nat} : evp (.bin .rem .no) [.int .i64 (n : Int), .int .i64 (k : Int)] = some (.int .i64 ((n % k : Nat) : Int)) := by
  show (if (k : Int) = 0 then none else some (V.int .i64 ((n : Int).tmod (k : Int)))) = _
  rw [if_neg (by omega), ← Int.ofNat_tmod]
abbrev bsl (l : Bytes) : V := .sl false 1 (l.map byteV)
theorem toBytes_map : ∀ l : Bytes, toBytes (l.map byteV) = some l
  | [] => rfl
  | c :: r => by
    have ih := toBytes_map r
    have hc : UInt8.ofNat ((c.toNat : Int).toNat) = c := by rw [Int.toNat_natCast]; exact UInt8.ofNat_toNat
    show ((toBytes (r.map byteV)).map (UInt8.ofNat ((c.toNat : Int).toNat) :: ·)) = _
    rw [ih, hc]; rfl
theorem v_b2s {l : Bytes} : evp .b2s [bsl l] = some (.str l) := by
  show (toBytes (l.map byteV)).map V.str = _
  rw [toBytes_map]; rfl
theorem v_slcD {sz : Nat} {l : List V} {i : Nat} (h : i ≤ l.length) : evp (.slc sz true false false) [.sl false sz l, .int .i64 (i : Int)] = some (.sl false sz (l.drop i)) := by
  simp only [evp, vSlcC, vSlc, vOpt]
  simp [cut3, h]
end Go.Proofs.YtanocopjancaiaaDoor
/-
  Ext, part 2: the world of a call; the words for one seat. Own work of this seat.
-/
namespace Go.Proofs.YtanocopjancaiaaDoor
open Go.Abs Go.RowKit

noncomputable def cxD (w : World) : Cx := ⟨Tryd.prog, w, fun _ => none⟩
theorem mixed : Tryd.prog.follows .mixedOrders = true := by kernel_rfl
theorem glD (w : World) : GlOK (cxD w) := fun g cs h => by cases h
def HasMax (w : World) : Prop := ∃ m, w.cell? ⟨0, 0, none⟩ = some (.int .i64 m)
structure EnvOK (w : World) : Prop where
  max : HasMax w
end Go.Proofs.YtanocopjancaiaaDoor
/-
  DERIVED: THE SHELF's CONTRACTS AT THIS DUMP, IN PLAIN WORDS (tools/lay-plain.mjs out of 'TrydShelf.lean', which tools/lay-shelf.mjs wrote): THE SAME DECLARATIONS UNDER THE SAME NAMES: 'import', 'namespace', 'open', 'def', 'theorem' AND NOTHING ELSE: no command of the shelf's: FOR A HAND-IN. Each laying: the table of numbers ('.._ren') and one theorem, a field a fact of the dump's own or the kernel's comparison; each contract: ONE APPLICATION.
-/
namespace Go.Proofs
open Go.Shelf
def Tryd.lays119_ren : Go.Shelf.Ren := ⟨fun | 119 => 60 | n => n, fun | 21 => 21 | 4 => 4 | n => n, fun | n => n⟩
theorem Tryd.lays119 : Go.Proofs.Lays.n119 Tryd.prog Tryd.lays119_ren := {
  mixed := by kernel_rfl
  f119 := Tryd.func60.trans (congrArg some (by kernel_rfl))
  t4 := Tryd.underlying4
  a4 := Tryd.isAgg4
  z4 := Tryd.sizeOf4
  v4 := Tryd.zeroValue4
  t21 := Tryd.underlying21
  a21 := Tryd.isAgg21
  z21 := Tryd.sizeOf21
  v21 := Tryd.zeroValue21 }
/-- utf8.ValidRune: "ValidRune reports whether r can be legally encoded as UTF-8. Code points that are out of range or a surrogate half are illegal.": IT RETURNS 'Lib.validRune r'; the world is as it was. (LAID: no walk: one application.) -/
theorem Tryd.utf8_ValidRune (r : Int) (w : World) :
    Calls Tryd.prog 60 #[.int .i32 r] w fun e w' => e = .returned (.bool (Lib.validRune r)) ∧ w' = w := Any.utf8_ValidRune Tryd.lays119 r w
def Tryd.lays137_ren : Go.Shelf.Ren := ⟨fun | 137 => 59 | 217 => 29 | 266 => 40 | n => n, fun | 9 => 9 | 5 => 5 | 3 => 3 | n => n, fun | n => n⟩
theorem Tryd.lays137 : Go.Proofs.Lays.n137 Tryd.prog Tryd.lays137_ren := {
  mixed := by kernel_rfl
  f137 := Tryd.func59.trans (congrArg some (by kernel_rfl))
  f217 := Tryd.func29.trans (congrArg some (by kernel_rfl))
  f266 := Tryd.func40.trans (congrArg some (by kernel_rfl))
  t3 := Tryd.underlying3
  a3 := Tryd.isAgg3
  z3 := Tryd.sizeOf3
  v3 := Tryd.zeroValue3
  t5 := Tryd.underlying5
  a5 := Tryd.isAgg5
  z5 := Tryd.sizeOf5
  v5 := Tryd.zeroValue5
  t9 := Tryd.underlying9
  a9 := Tryd.isAgg9
  z9 := Tryd.sizeOf9
  v9 := Tryd.zeroValue9 }
open Go.RowKit in
/-- strings.IndexByte: "IndexByte returns the index of the first instance of c in s, or -1 if c is not present in s.": IT RETURNS 'Lib.indexByte s c'; the world is as it was. (LAID: no walk: one application.) -/
theorem Tryd.strings_IndexByte (s : ByteArray) (c : Int) (w : World) :
    Calls Tryd.prog 59 #[.string s, .int .u8 c] w fun e w' => e = .returned (.int .i64 (Lib.indexByte s.data.toList c.toNat.toUInt8)) ∧ w' = w := Any.strings_IndexByte Tryd.lays137 s c w
def Tryd.lays244_ren : Go.Shelf.Ren := ⟨fun | 244 => 43 | 247 => 52 | 287 => 61 | 321 => 68 | 322 => 69 | n => n, fun | 9 => 9 | 3 => 3 | 75 => 62 | 4 => 4 | 5 => 5 | 167 => 84 | 37 => 32 | 0 => 0 | 85 => 85 | 2 => 2 | 53 => 92 | 175 => 93 | 46 => 60 | 21 => 21 | 80 => 116 | n => n, fun | n => n⟩
theorem Tryd.lays244 : Go.Proofs.Lays.n244 Tryd.prog Tryd.lays244_ren := {
  mixed := by kernel_rfl
  f244 := Tryd.func43.trans (congrArg some (by kernel_rfl))
  f247 := Tryd.func52.trans (congrArg some (by kernel_rfl))
  f287 := Tryd.func61.trans (congrArg some (by kernel_rfl))
  f321 := Tryd.func68.trans (congrArg some (by kernel_rfl))
  f322 := Tryd.func69.trans (congrArg some (by kernel_rfl))
  t0 := Tryd.underlying0
  a0 := Tryd.isAgg0
  z0 := Tryd.sizeOf0
  v0 := Tryd.zeroValue0
  t2 := Tryd.underlying2
  a2 := Tryd.isAgg2
  z2 := Tryd.sizeOf2
  v2 := Tryd.zeroValue2
  t3 := Tryd.underlying3
  a3 := Tryd.isAgg3
  z3 := Tryd.sizeOf3
  v3 := Tryd.zeroValue3
  t4 := Tryd.underlying4
  a4 := Tryd.isAgg4
  z4 := Tryd.sizeOf4
  v4 := Tryd.zeroValue4
  t5 := Tryd.underlying5
  a5 := Tryd.isAgg5
  z5 := Tryd.sizeOf5
  v5 := Tryd.zeroValue5
  t9 := Tryd.underlying9
  a9 := Tryd.isAgg9
  z9 := Tryd.sizeOf9
  v9 := Tryd.zeroValue9
  t21 := Tryd.underlying21
  a21 := Tryd.isAgg21
  z21 := Tryd.sizeOf21
  v21 := Tryd.zeroValue21
  t37 := Tryd.underlying32
  a37 := Tryd.isAgg32
  z37 := Tryd.sizeOf32
  v37 := Tryd.zeroValue32
  t46 := Tryd.underlying60
  a46 := Tryd.isAgg60
  z46 := Tryd.sizeOf60
  v46 := Tryd.zeroValue60
  t53 := Tryd.underlying92
  a53 := Tryd.isAgg92
  z53 := Tryd.sizeOf92
  v53 := Tryd.zeroValue92
  t75 := Tryd.underlying62
  a75 := Tryd.isAgg62
  z75 := Tryd.sizeOf62
  v75 := Tryd.zeroValue62
  t85 := Tryd.underlying85
  a85 := Tryd.isAgg85
  z85 := Tryd.sizeOf85
  v85 := Tryd.zeroValue85
  t167 := Tryd.underlying84
  a167 := Tryd.isAgg84
  z167 := Tryd.sizeOf84
  v167 := Tryd.zeroValue84
  t175 := Tryd.underlying93
  a175 := Tryd.isAgg93
  z175 := Tryd.sizeOf93
  v175 := Tryd.zeroValue93 }
open Go.RowKit in
/-- internal/strconv.Atoi, at a decimal numeral of at most 18 bytes: ITS VALUE, AND NO ERROR. The world behind the call: the one new row that '[]byte(s)' lays. (LAID: no walk: one application.) -/
theorem Tryd.internal_strconv_Atoi (s : ByteArray) (n : Int) (hl : s.size ≤ 18) (h : Lib.atoi s.data.toList = some n) (w : World) :
    Calls Tryd.prog 43 #[.string s] w fun e w' => e = .returned (.tuple #[.int .i64 n, .nilIface]) ∧ ∃ t, w' = Lib.bytesWorld w 5 t := Any.internal_strconv_Atoi Tryd.lays244 s n hl h w
def Tryd.lays172_ren : Go.Shelf.Ren := ⟨fun | 172 => 34 | 244 => 43 | 245 => 44 | 247 => 52 | 279 => 53 | 280 => 54 | 281 => 55 | 282 => 56 | 287 => 61 | 316 => 62 | 171 => 35 | 205 => 63 | 321 => 68 | 322 => 69 | 243 => 45 | 246 => 57 | 283 => 64 | 284 => 65 | 285 => 66 | 286 => 67 | 129 => 71 | 317 => 70 | 318 => 72 | 319 => 73 | 320 => 74 | 337 => 75 | 338 => 76 | n => n, fun | 9 => 9 | 3 => 3 | 75 => 62 | 76 => 63 | 4 => 4 | 5 => 5 | 167 => 84 | 37 => 32 | 0 => 0 | 85 => 85 | 2 => 2 | 168 => 87 | 53 => 92 | 175 => 93 | 46 => 60 | 210 => 97 | 127 => 105 | 145 => 108 | 143 => 106 | 21 => 21 | 171 => 99 | 173 => 102 | 212 => 110 | 51 => 68 | 20 => 20 | 213 => 111 | 232 => 114 | 233 => 115 | 80 => 116 | n => n, fun | 15 => 3 | 16 => 4 | 17 => 5 | 18 => 6 | 19 => 7 | n => n⟩
theorem Tryd.lays172 : Go.Proofs.Lays.n172 Tryd.prog Tryd.lays172_ren := {
  mixed := by kernel_rfl
  f129 := Tryd.func71.trans (congrArg some (by kernel_rfl))
  f171 := Tryd.func35.trans (congrArg some (by kernel_rfl))
  f172 := Tryd.func34.trans (congrArg some (by kernel_rfl))
  f205 := Tryd.func63.trans (congrArg some (by kernel_rfl))
  f243 := Tryd.func45.trans (congrArg some (by kernel_rfl))
  f244 := Tryd.func43.trans (congrArg some (by kernel_rfl))
  f245 := Tryd.func44.trans (congrArg some (by kernel_rfl))
  f246 := Tryd.func57.trans (congrArg some (by kernel_rfl))
  f247 := Tryd.func52.trans (congrArg some (by kernel_rfl))
  f279 := Tryd.func53.trans (congrArg some (by kernel_rfl))
  f280 := Tryd.func54.trans (congrArg some (by kernel_rfl))
  f281 := Tryd.func55.trans (congrArg some (by kernel_rfl))
  f282 := Tryd.func56.trans (congrArg some (by kernel_rfl))
  f283 := Tryd.func64.trans (congrArg some (by kernel_rfl))
  f284 := Tryd.func65.trans (congrArg some (by kernel_rfl))
  f285 := Tryd.func66.trans (congrArg some (by kernel_rfl))
  f286 := Tryd.func67.trans (congrArg some (by kernel_rfl))
  f287 := Tryd.func61.trans (congrArg some (by kernel_rfl))
  f316 := Tryd.func62.trans (congrArg some (by kernel_rfl))
  f317 := Tryd.func70.trans (congrArg some (by kernel_rfl))
  f318 := Tryd.func72.trans (congrArg some (by kernel_rfl))
  f319 := Tryd.func73.trans (congrArg some (by kernel_rfl))
  f320 := Tryd.func74.trans (congrArg some (by kernel_rfl))
  f321 := Tryd.func68.trans (congrArg some (by kernel_rfl))
  f322 := Tryd.func69.trans (congrArg some (by kernel_rfl))
  f337 := Tryd.func75.trans (congrArg some (by kernel_rfl))
  f338 := Tryd.func76.trans (congrArg some (by kernel_rfl))
  t0 := Tryd.underlying0
  a0 := Tryd.isAgg0
  z0 := Tryd.sizeOf0
  v0 := Tryd.zeroValue0
  t2 := Tryd.underlying2
  a2 := Tryd.isAgg2
  z2 := Tryd.sizeOf2
  v2 := Tryd.zeroValue2
  t3 := Tryd.underlying3
  a3 := Tryd.isAgg3
  z3 := Tryd.sizeOf3
  v3 := Tryd.zeroValue3
  t4 := Tryd.underlying4
  a4 := Tryd.isAgg4
  z4 := Tryd.sizeOf4
  v4 := Tryd.zeroValue4
  t5 := Tryd.underlying5
  a5 := Tryd.isAgg5
  z5 := Tryd.sizeOf5
  v5 := Tryd.zeroValue5
  t9 := Tryd.underlying9
  a9 := Tryd.isAgg9
  z9 := Tryd.sizeOf9
  v9 := Tryd.zeroValue9
  t20 := Tryd.underlying20
  a20 := Tryd.isAgg20
  z20 := Tryd.sizeOf20
  v20 := Tryd.zeroValue20
  t21 := Tryd.underlying21
  a21 := Tryd.isAgg21
  z21 := Tryd.sizeOf21
  v21 := Tryd.zeroValue21
  t37 := Tryd.underlying32
  a37 := Tryd.isAgg32
  z37 := Tryd.sizeOf32
  v37 := Tryd.zeroValue32
  t46 := Tryd.underlying60
  a46 := Tryd.isAgg60
  z46 := Tryd.sizeOf60
  v46 := Tryd.zeroValue60
  t51 := Tryd.underlying68
  a51 := Tryd.isAgg68
  z51 := Tryd.sizeOf68
  v51 := Tryd.zeroValue68
  t53 := Tryd.underlying92
  a53 := Tryd.isAgg92
  z53 := Tryd.sizeOf92
  v53 := Tryd.zeroValue92
  t75 := Tryd.underlying62
  a75 := Tryd.isAgg62
  z75 := Tryd.sizeOf62
  v75 := Tryd.zeroValue62
  t76 := Tryd.underlying63
  a76 := Tryd.isAgg63
  z76 := Tryd.sizeOf63
  v76 := Tryd.zeroValue63
  t85 := Tryd.underlying85
  a85 := Tryd.isAgg85
  z85 := Tryd.sizeOf85
  v85 := Tryd.zeroValue85
  t127 := Tryd.underlying105
  a127 := Tryd.isAgg105
  z127 := Tryd.sizeOf105
  v127 := Tryd.zeroValue105
  t143 := Tryd.underlying106
  a143 := Tryd.isAgg106
  z143 := Tryd.sizeOf106
  v143 := Tryd.zeroValue106
  t145 := Tryd.underlying108
  a145 := Tryd.isAgg108
  z145 := Tryd.sizeOf108
  v145 := Tryd.zeroValue108
  t167 := Tryd.underlying84
  a167 := Tryd.isAgg84
  z167 := Tryd.sizeOf84
  v167 := Tryd.zeroValue84
  t168 := Tryd.underlying87
  a168 := Tryd.isAgg87
  z168 := Tryd.sizeOf87
  v168 := Tryd.zeroValue87
  t171 := Tryd.underlying99
  a171 := Tryd.isAgg99
  z171 := Tryd.sizeOf99
  v171 := Tryd.zeroValue99
  t173 := Tryd.underlying102
  a173 := Tryd.isAgg102
  z173 := Tryd.sizeOf102
  v173 := Tryd.zeroValue102
  t175 := Tryd.underlying93
  a175 := Tryd.isAgg93
  z175 := Tryd.sizeOf93
  v175 := Tryd.zeroValue93
  t210 := Tryd.underlying97
  a210 := Tryd.isAgg97
  z210 := Tryd.sizeOf97
  v210 := Tryd.zeroValue97
  t212 := Tryd.underlying110
  a212 := Tryd.isAgg110
  z212 := Tryd.sizeOf110
  v212 := Tryd.zeroValue110
  t213 := Tryd.underlying111
  a213 := Tryd.isAgg111
  z213 := Tryd.sizeOf111
  t232 := Tryd.underlying114
  a232 := Tryd.isAgg114
  z232 := Tryd.sizeOf114
  v232 := Tryd.zeroValue114
  t233 := Tryd.underlying115
  a233 := Tryd.isAgg115
  z233 := Tryd.sizeOf115
  v233 := Tryd.zeroValue115
  g15 := by kernel_rfl
  g16 := by kernel_rfl
  g17 := by kernel_rfl
  g18 := by kernel_rfl
  g19 := by kernel_rfl }
open Go.RowKit in
/-- strconv.Atoi: "Atoi is equivalent to ParseInt(s, 10, 0), converted to type int.": AT A DECIMAL NUMERAL OF AT MOST 18 BYTES: its value, and a nil error. The world behind the call: the one new row that the library's '[]byte(s)' lays. (LAID: no walk: one application.) -/
theorem Tryd.strconv_Atoi (s : ByteArray) (n : Int) (hl : s.size ≤ 18) (h : Lib.atoi s.data.toList = some n) (w : World) :
    Calls Tryd.prog 34 #[.string s] w fun e w' => e = .returned (.tuple #[.int .i64 n, .nilIface]) ∧ ∃ t, w' = Lib.bytesWorld w 5 t := Any.strconv_Atoi Tryd.lays172 s n hl h w
def Tryd.lays129_ren : Go.Shelf.Ren := ⟨fun | 129 => 71 | n => n, fun | 53 => 92 | 3 => 3 | 4 => 4 | 46 => 60 | 5 => 5 | 9 => 9 | n => n, fun | n => n⟩
theorem Tryd.lays129 : Go.Proofs.Lays.n129 Tryd.prog Tryd.lays129_ren := {
  mixed := by kernel_rfl
  f129 := Tryd.func71.trans (congrArg some (by kernel_rfl))
  t3 := Tryd.underlying3
  a3 := Tryd.isAgg3
  z3 := Tryd.sizeOf3
  v3 := Tryd.zeroValue3
  t4 := Tryd.underlying4
  a4 := Tryd.isAgg4
  z4 := Tryd.sizeOf4
  v4 := Tryd.zeroValue4
  t5 := Tryd.underlying5
  a5 := Tryd.isAgg5
  z5 := Tryd.sizeOf5
  v5 := Tryd.zeroValue5
  t9 := Tryd.underlying9
  a9 := Tryd.isAgg9
  z9 := Tryd.sizeOf9
  v9 := Tryd.zeroValue9
  t46 := Tryd.underlying60
  a46 := Tryd.isAgg60
  z46 := Tryd.sizeOf60
  v46 := Tryd.zeroValue60
  t53 := Tryd.underlying92
  a53 := Tryd.isAgg92
  z53 := Tryd.sizeOf92
  v53 := Tryd.zeroValue92 }
/-- bits.Len64: "Len64 returns the minimum number of bits required to represent x; the result is 0 for x == 0.": IT RETURNS 'Lib.bitLen x'; the world is as it was. ('h0', 'h1': x is a uint64.) (LAID: no walk: one application.) -/
theorem Tryd.bits_Len64 (x : Int) (w : World) (h0 : 0 ≤ x) (h1 : x ≤ 18446744073709551615) :
    Calls Tryd.prog 71 #[.int .u64 x] w fun e w' => e = .returned (.int .i64 (Lib.bitLen x.toNat)) ∧ w' = w := Any.bits_Len64 Tryd.lays129 x w h0 h1
def Tryd.lays317_ren : Go.Shelf.Ren := ⟨fun | 317 => 70 | n => n, fun | 3 => 3 | 46 => 60 | n => n, fun | n => n⟩
theorem Tryd.lays317 : Go.Proofs.Lays.n317 Tryd.prog Tryd.lays317_ren := {
  mixed := by kernel_rfl
  f317 := Tryd.func70.trans (congrArg some (by kernel_rfl))
  t3 := Tryd.underlying3
  a3 := Tryd.isAgg3
  z3 := Tryd.sizeOf3
  v3 := Tryd.zeroValue3
  t46 := Tryd.underlying60
  a46 := Tryd.isAgg60
  z46 := Tryd.sizeOf60
  v46 := Tryd.zeroValue60 }
open Go.Lib in
/-- internal/strconv.log10Pow2: "log10Pow2(x) returns ⌊log₁₀ 2**x⌋ = ⌊x * log₁₀ 2⌋.": '(x * 78913) >> 18', at an x up to 64 (a length in bits). The world is as it was. (LAID: no walk: one application.) -/
theorem Tryd.internal_strconv_log10Pow2 (x : Nat) (h : x ≤ 64) (w : World) :
    Calls Tryd.prog 70 #[.int .i64 x] w fun e w' => e = .returned (.int .i64 (Lib.l10 x)) ∧ w' = w := Any.internal_strconv_log10Pow2 Tryd.lays317 x h w
def Tryd.lays318_ren : Go.Shelf.Ren := ⟨fun | 318 => 72 | n => n, fun | 3 => 3 | 4 => 4 | n => n, fun | n => n⟩
theorem Tryd.lays318 : Go.Proofs.Lays.n318 Tryd.prog Tryd.lays318_ren := {
  mixed := by kernel_rfl
  f318 := Tryd.func72.trans (congrArg some (by kernel_rfl))
  t3 := Tryd.underlying3
  a3 := Tryd.isAgg3
  z3 := Tryd.sizeOf3
  v3 := Tryd.zeroValue3
  t4 := Tryd.underlying4
  a4 := Tryd.isAgg4
  z4 := Tryd.sizeOf4
  v4 := Tryd.zeroValue4 }
open Go.Lib in
/-- internal/strconv.bool2: "bool2 converts b to an integer: 1 for true, 0 for false." The world is as it was. (LAID: no walk: one application.) -/
theorem Tryd.internal_strconv_bool2_int (b : Bool) (w : World) :
    Calls Tryd.prog 72 #[.bool b] w fun e w' => e = .returned (.int .i64 (if b then 1 else 0)) ∧ w' = w := Any.internal_strconv_bool2_int Tryd.lays318 b w
def Tryd.lays283_ren : Go.Shelf.Ren := ⟨fun | 283 => 64 | n => n, fun | 3 => 3 | 9 => 9 | 4 => 4 | n => n, fun | n => n⟩
theorem Tryd.lays283 : Go.Proofs.Lays.n283 Tryd.prog Tryd.lays283_ren := {
  mixed := by kernel_rfl
  f283 := Tryd.func64.trans (congrArg some (by kernel_rfl))
  t3 := Tryd.underlying3
  a3 := Tryd.isAgg3
  z3 := Tryd.sizeOf3
  v3 := Tryd.zeroValue3
  t4 := Tryd.underlying4
  a4 := Tryd.isAgg4
  z4 := Tryd.sizeOf4
  v4 := Tryd.zeroValue4
  t9 := Tryd.underlying9
  a9 := Tryd.isAgg9
  z9 := Tryd.sizeOf9
  v9 := Tryd.zeroValue9 }
open Go.Lib in
/-- internal/strconv.small: "small returns the string for an i with 0 <= i < nSmalls.": i's decimal numeral. The world is as it was. (LAID: no walk: one application.) -/
theorem Tryd.internal_strconv_small (i : Nat) (h : i < 100) (w : World) :
    Calls Tryd.prog 64 #[.int .i64 i] w fun e w' => e = .returned (.string ⟨(Lib.decDigits i).toArray⟩) ∧ w' = w := Any.internal_strconv_small Tryd.lays283 i h w
def Tryd.laysM284_ren : Go.Shelf.Ren := ⟨fun | 284 => 65 | 129 => 71 | 317 => 70 | 318 => 72 | n => n, fun | 53 => 92 | 3 => 3 | 212 => 110 | 0 => 0 | 4 => 4 | 46 => 60 | 5 => 5 | 9 => 9 | n => n, fun | 17 => 5 | n => n⟩
theorem Tryd.laysM284 : Go.Proofs.LaysM.n284 Tryd.prog Tryd.laysM284_ren := {
  mixed := by kernel_rfl
  f129 := Tryd.func71.trans (congrArg some (by kernel_rfl))
  f284 := Tryd.func65.trans (congrArg some (by kernel_rfl))
  f317 := Tryd.func70.trans (congrArg some (by kernel_rfl))
  f318 := Tryd.func72.trans (congrArg some (by kernel_rfl))
  t0 := Tryd.underlying0
  a0 := Tryd.isAgg0
  z0 := Tryd.sizeOf0
  v0 := Tryd.zeroValue0
  t3 := Tryd.underlying3
  a3 := Tryd.isAgg3
  z3 := Tryd.sizeOf3
  v3 := Tryd.zeroValue3
  t4 := Tryd.underlying4
  a4 := Tryd.isAgg4
  z4 := Tryd.sizeOf4
  v4 := Tryd.zeroValue4
  t5 := Tryd.underlying5
  a5 := Tryd.isAgg5
  z5 := Tryd.sizeOf5
  v5 := Tryd.zeroValue5
  t9 := Tryd.underlying9
  a9 := Tryd.isAgg9
  z9 := Tryd.sizeOf9
  v9 := Tryd.zeroValue9
  t46 := Tryd.underlying60
  a46 := Tryd.isAgg60
  z46 := Tryd.sizeOf60
  v46 := Tryd.zeroValue60
  t53 := Tryd.underlying92
  a53 := Tryd.isAgg92
  z53 := Tryd.sizeOf92
  v53 := Tryd.zeroValue92
  t212 := Tryd.underlying110
  a212 := Tryd.isAgg110
  z212 := Tryd.sizeOf110
  v212 := Tryd.zeroValue110
  g17 := by kernel_rfl
  i0 := by kernel_rfl
  i3 := by kernel_rfl
  i4 := by kernel_rfl
  i5 := by kernel_rfl
  i9 := by kernel_rfl
  i46 := by kernel_rfl
  i53 := by kernel_rfl
  i212 := by kernel_rfl
  m17 := by kernel_rfl }
open Go.Lib in
/-- internal/strconv.numDigits, at a d that is not 0: THE NUMBER OF d's DECIMAL DIGITS. The world is as it was. (LAID: no walk: one application.) -/
theorem Tryd.internal_strconv_numDigits (u : Nat) (h1 : 1 ≤ u) (h2 : u < 18446744073709551616) (w : World) (htab : Lib.TabIs Tryd.prog w "internal/strconv.uint64pow10" .u64 Lib.pow10Tab) :
    Calls Tryd.prog 65 #[.int .u64 u] w fun e w' => e = .returned (.int .i64 (Lib.nDigits u)) ∧ w' = w := Any.internal_strconv_numDigits Tryd.laysM284 u h1 h2 w htab
def Tryd.lays285_ren : Go.Shelf.Ren := ⟨fun | 285 => 66 | n => n, fun | 37 => 32 | 53 => 92 | 3 => 3 | 4 => 4 | 51 => 68 | 9 => 9 | 5 => 5 | 0 => 0 | n => n, fun | n => n⟩
theorem Tryd.lays285 : Go.Proofs.Lays.n285 Tryd.prog Tryd.lays285_ren := {
  mixed := by kernel_rfl
  f285 := Tryd.func66.trans (congrArg some (by kernel_rfl))
  t0 := Tryd.underlying0
  a0 := Tryd.isAgg0
  z0 := Tryd.sizeOf0
  v0 := Tryd.zeroValue0
  t3 := Tryd.underlying3
  a3 := Tryd.isAgg3
  z3 := Tryd.sizeOf3
  v3 := Tryd.zeroValue3
  t4 := Tryd.underlying4
  a4 := Tryd.isAgg4
  z4 := Tryd.sizeOf4
  v4 := Tryd.zeroValue4
  t5 := Tryd.underlying5
  a5 := Tryd.isAgg5
  z5 := Tryd.sizeOf5
  v5 := Tryd.zeroValue5
  t9 := Tryd.underlying9
  a9 := Tryd.isAgg9
  z9 := Tryd.sizeOf9
  v9 := Tryd.zeroValue9
  t37 := Tryd.underlying32
  a37 := Tryd.isAgg32
  z37 := Tryd.sizeOf32
  v37 := Tryd.zeroValue32
  t51 := Tryd.underlying68
  a51 := Tryd.isAgg68
  z51 := Tryd.sizeOf68
  v51 := Tryd.zeroValue68
  t53 := Tryd.underlying92
  a53 := Tryd.isAgg92
  z53 := Tryd.sizeOf92
  v53 := Tryd.zeroValue92 }
open Go.RowKit Go.Sort Go.Lib in
/-- internal/strconv.formatBase10: "formatBase10 formats the decimal representation of u into a. The caller is responsible for ensuring that a is big enough to hold u. If a is too big, leading zeros will be filled in as needed.": THE ROW HOLDS u's DIGITS ('FmtInv .. 0 ..': every place t holds 'dg u (len - 1 - t)'); all else is as it was but for the count of draws. (LAID: no walk: one application.) -/
theorem Tryd.internal_strconv_formatBase10 (blk off cap : Nat) (u : Nat) (d : Array UInt8) (w : World) (hH : Holds (fun (b : UInt8) => Value.int .u8 (b.toNat : Int)) w blk off d) (hu : u < 10 ^ d.size) (hu64 : u < 18446744073709551616) (hsz : d.size < 4611686018427387904) :
    Calls Tryd.prog 66 #[.slice (some ⟨blk, off, none⟩) d.size cap, .int .u64 u] w fun e w' =>
      e = .returned (.tuple #[]) ∧ ∃ (n v' : Nat) (dk : Array UInt8), w' = (putRow (fun (b : UInt8) => Value.int .u8 (b.toNat : Int)) w blk off dk).drewN n ∧ FmtInv d.size u 0 v' dk := Any.internal_strconv_formatBase10 Tryd.lays285 blk off cap u d w hH hu hu64 hsz
def Tryd.laysM246_ren : Go.Shelf.Ren := ⟨fun | 246 => 57 | 283 => 64 | 284 => 65 | 285 => 66 | 286 => 67 | 129 => 71 | 317 => 70 | 318 => 72 | 319 => 73 | 320 => 74 | 337 => 75 | 338 => 76 | n => n, fun | 2 => 2 | 3 => 3 | 9 => 9 | 4 => 4 | 171 => 99 | 0 => 0 | 53 => 92 | 37 => 32 | 5 => 5 | 173 => 102 | 212 => 110 | 51 => 68 | 20 => 20 | 213 => 111 | 46 => 60 | 232 => 114 | 233 => 115 | n => n, fun | 17 => 5 | 18 => 6 | 19 => 7 | n => n⟩
theorem Tryd.laysM246 : Go.Proofs.LaysM.n246 Tryd.prog Tryd.laysM246_ren := {
  mixed := by kernel_rfl
  f129 := Tryd.func71.trans (congrArg some (by kernel_rfl))
  f246 := Tryd.func57.trans (congrArg some (by kernel_rfl))
  f283 := Tryd.func64.trans (congrArg some (by kernel_rfl))
  f284 := Tryd.func65.trans (congrArg some (by kernel_rfl))
  f285 := Tryd.func66.trans (congrArg some (by kernel_rfl))
  f286 := Tryd.func67.trans (congrArg some (by kernel_rfl))
  f317 := Tryd.func70.trans (congrArg some (by kernel_rfl))
  f318 := Tryd.func72.trans (congrArg some (by kernel_rfl))
  f319 := Tryd.func73.trans (congrArg some (by kernel_rfl))
  f320 := Tryd.func74.trans (congrArg some (by kernel_rfl))
  f337 := Tryd.func75.trans (congrArg some (by kernel_rfl))
  f338 := Tryd.func76.trans (congrArg some (by kernel_rfl))
  t0 := Tryd.underlying0
  a0 := Tryd.isAgg0
  z0 := Tryd.sizeOf0
  v0 := Tryd.zeroValue0
  t2 := Tryd.underlying2
  a2 := Tryd.isAgg2
  z2 := Tryd.sizeOf2
  v2 := Tryd.zeroValue2
  t3 := Tryd.underlying3
  a3 := Tryd.isAgg3
  z3 := Tryd.sizeOf3
  v3 := Tryd.zeroValue3
  t4 := Tryd.underlying4
  a4 := Tryd.isAgg4
  z4 := Tryd.sizeOf4
  v4 := Tryd.zeroValue4
  t5 := Tryd.underlying5
  a5 := Tryd.isAgg5
  z5 := Tryd.sizeOf5
  v5 := Tryd.zeroValue5
  t9 := Tryd.underlying9
  a9 := Tryd.isAgg9
  z9 := Tryd.sizeOf9
  v9 := Tryd.zeroValue9
  t20 := Tryd.underlying20
  a20 := Tryd.isAgg20
  z20 := Tryd.sizeOf20
  v20 := Tryd.zeroValue20
  t37 := Tryd.underlying32
  a37 := Tryd.isAgg32
  z37 := Tryd.sizeOf32
  v37 := Tryd.zeroValue32
  t46 := Tryd.underlying60
  a46 := Tryd.isAgg60
  z46 := Tryd.sizeOf60
  v46 := Tryd.zeroValue60
  t51 := Tryd.underlying68
  a51 := Tryd.isAgg68
  z51 := Tryd.sizeOf68
  v51 := Tryd.zeroValue68
  t53 := Tryd.underlying92
  a53 := Tryd.isAgg92
  z53 := Tryd.sizeOf92
  v53 := Tryd.zeroValue92
  t171 := Tryd.underlying99
  a171 := Tryd.isAgg99
  z171 := Tryd.sizeOf99
  v171 := Tryd.zeroValue99
  t173 := Tryd.underlying102
  a173 := Tryd.isAgg102
  z173 := Tryd.sizeOf102
  v173 := Tryd.zeroValue102
  t212 := Tryd.underlying110
  a212 := Tryd.isAgg110
  z212 := Tryd.sizeOf110
  v212 := Tryd.zeroValue110
  t213 := Tryd.underlying111
  a213 := Tryd.isAgg111
  z213 := Tryd.sizeOf111
  t232 := Tryd.underlying114
  a232 := Tryd.isAgg114
  z232 := Tryd.sizeOf114
  v232 := Tryd.zeroValue114
  t233 := Tryd.underlying115
  a233 := Tryd.isAgg115
  z233 := Tryd.sizeOf115
  v233 := Tryd.zeroValue115
  g17 := by kernel_rfl
  g18 := by kernel_rfl
  g19 := by kernel_rfl
  i0 := by kernel_rfl
  i2 := by kernel_rfl
  i3 := by kernel_rfl
  i4 := by kernel_rfl
  i5 := by kernel_rfl
  i9 := by kernel_rfl
  i20 := by kernel_rfl
  i37 := by kernel_rfl
  i46 := by kernel_rfl
  i51 := by kernel_rfl
  i53 := by kernel_rfl
  i171 := by kernel_rfl
  i173 := by kernel_rfl
  i212 := by kernel_rfl
  i232 := by kernel_rfl
  i233 := by kernel_rfl
  m17 := by kernel_rfl
  m18 := by kernel_rfl
  m19 := by kernel_rfl }
open Go.RowKit Go.Sort Go.Lib in
/-- internal/strconv.FormatInt: "FormatInt returns the string representation of i in the given base": AT BASE 10: i's decimal numeral, for every int64. The world behind the call: the world before it, new blocks behind the heap, draws. (LAID: no walk: one application.) -/
theorem Tryd.internal_strconv_FormatInt_10 (n : Int) (h0 : -9223372036854775808 ≤ n) (h1 : n ≤ 9223372036854775807) (w : World) (htab : Lib.TabIs Tryd.prog w "internal/strconv.uint64pow10" .u64 Lib.pow10Tab) :
    Calls Tryd.prog 57 #[.int .i64 n, .int .i64 10] w fun e w' => e = .returned (.string ⟨(Lib.itoa n).toArray⟩) ∧ ∃ k os, w' = grow (w.drewN k) os := Any.internal_strconv_FormatInt_10 Tryd.laysM246 n h0 h1 w htab
def Tryd.lays246_ren : Go.Shelf.Ren := ⟨fun | 246 => 57 | 283 => 64 | 284 => 65 | 285 => 66 | 286 => 67 | 129 => 71 | 317 => 70 | 318 => 72 | 319 => 73 | 320 => 74 | 337 => 75 | 338 => 76 | n => n, fun | 2 => 2 | 3 => 3 | 9 => 9 | 4 => 4 | 171 => 99 | 0 => 0 | 53 => 92 | 37 => 32 | 5 => 5 | 173 => 102 | 212 => 110 | 51 => 68 | 20 => 20 | 213 => 111 | 46 => 60 | 232 => 114 | 233 => 115 | n => n, fun | 17 => 5 | 18 => 6 | 19 => 7 | n => n⟩
theorem Tryd.lays246 : Go.Proofs.Lays.n246 Tryd.prog Tryd.lays246_ren := {
  mixed := by kernel_rfl
  f129 := Tryd.func71.trans (congrArg some (by kernel_rfl))
  f246 := Tryd.func57.trans (congrArg some (by kernel_rfl))
  f283 := Tryd.func64.trans (congrArg some (by kernel_rfl))
  f284 := Tryd.func65.trans (congrArg some (by kernel_rfl))
  f285 := Tryd.func66.trans (congrArg some (by kernel_rfl))
  f286 := Tryd.func67.trans (congrArg some (by kernel_rfl))
  f317 := Tryd.func70.trans (congrArg some (by kernel_rfl))
  f318 := Tryd.func72.trans (congrArg some (by kernel_rfl))
  f319 := Tryd.func73.trans (congrArg some (by kernel_rfl))
  f320 := Tryd.func74.trans (congrArg some (by kernel_rfl))
  f337 := Tryd.func75.trans (congrArg some (by kernel_rfl))
  f338 := Tryd.func76.trans (congrArg some (by kernel_rfl))
  t0 := Tryd.underlying0
  a0 := Tryd.isAgg0
  z0 := Tryd.sizeOf0
  v0 := Tryd.zeroValue0
  t2 := Tryd.underlying2
  a2 := Tryd.isAgg2
  z2 := Tryd.sizeOf2
  v2 := Tryd.zeroValue2
  t3 := Tryd.underlying3
  a3 := Tryd.isAgg3
  z3 := Tryd.sizeOf3
  v3 := Tryd.zeroValue3
  t4 := Tryd.underlying4
  a4 := Tryd.isAgg4
  z4 := Tryd.sizeOf4
  v4 := Tryd.zeroValue4
  t5 := Tryd.underlying5
  a5 := Tryd.isAgg5
  z5 := Tryd.sizeOf5
  v5 := Tryd.zeroValue5
  t9 := Tryd.underlying9
  a9 := Tryd.isAgg9
  z9 := Tryd.sizeOf9
  v9 := Tryd.zeroValue9
  t20 := Tryd.underlying20
  a20 := Tryd.isAgg20
  z20 := Tryd.sizeOf20
  v20 := Tryd.zeroValue20
  t37 := Tryd.underlying32
  a37 := Tryd.isAgg32
  z37 := Tryd.sizeOf32
  v37 := Tryd.zeroValue32
  t46 := Tryd.underlying60
  a46 := Tryd.isAgg60
  z46 := Tryd.sizeOf60
  v46 := Tryd.zeroValue60
  t51 := Tryd.underlying68
  a51 := Tryd.isAgg68
  z51 := Tryd.sizeOf68
  v51 := Tryd.zeroValue68
  t53 := Tryd.underlying92
  a53 := Tryd.isAgg92
  z53 := Tryd.sizeOf92
  v53 := Tryd.zeroValue92
  t171 := Tryd.underlying99
  a171 := Tryd.isAgg99
  z171 := Tryd.sizeOf99
  v171 := Tryd.zeroValue99
  t173 := Tryd.underlying102
  a173 := Tryd.isAgg102
  z173 := Tryd.sizeOf102
  v173 := Tryd.zeroValue102
  t212 := Tryd.underlying110
  a212 := Tryd.isAgg110
  z212 := Tryd.sizeOf110
  v212 := Tryd.zeroValue110
  t213 := Tryd.underlying111
  a213 := Tryd.isAgg111
  z213 := Tryd.sizeOf111
  t232 := Tryd.underlying114
  a232 := Tryd.isAgg114
  z232 := Tryd.sizeOf114
  v232 := Tryd.zeroValue114
  t233 := Tryd.underlying115
  a233 := Tryd.isAgg115
  z233 := Tryd.sizeOf115
  v233 := Tryd.zeroValue115
  g17 := by kernel_rfl
  g18 := by kernel_rfl
  g19 := by kernel_rfl }
open Go.RowKit Go.Sort Go.Lib in
/-- THE ROAD WITHOUT THE TABLE: 0 <= i < 100: two constants are read, nothing is laid: no premise on the world, and the world is as it was. (LAID: no walk: one application.) -/
theorem Tryd.internal_strconv_FormatInt_10_small (i : Nat) (hi : i < 100) (w : World) :
    Calls Tryd.prog 57 #[.int .i64 i, .int .i64 10] w fun e w' => e = .returned (.string ⟨(Lib.decDigits i).toArray⟩) ∧ w' = w := Any.internal_strconv_FormatInt_10_small Tryd.lays246 i hi w
def Tryd.laysM243_ren : Go.Shelf.Ren := ⟨fun | 243 => 45 | 246 => 57 | 283 => 64 | 284 => 65 | 285 => 66 | 286 => 67 | 129 => 71 | 317 => 70 | 318 => 72 | 319 => 73 | 320 => 74 | 337 => 75 | 338 => 76 | n => n, fun | 3 => 3 | 9 => 9 | 2 => 2 | 4 => 4 | 171 => 99 | 0 => 0 | 53 => 92 | 37 => 32 | 5 => 5 | 173 => 102 | 212 => 110 | 51 => 68 | 20 => 20 | 213 => 111 | 46 => 60 | 232 => 114 | 233 => 115 | n => n, fun | 17 => 5 | 18 => 6 | 19 => 7 | n => n⟩
theorem Tryd.laysM243 : Go.Proofs.LaysM.n243 Tryd.prog Tryd.laysM243_ren := {
  mixed := by kernel_rfl
  f129 := Tryd.func71.trans (congrArg some (by kernel_rfl))
  f243 := Tryd.func45.trans (congrArg some (by kernel_rfl))
  f246 := Tryd.func57.trans (congrArg some (by kernel_rfl))
  f283 := Tryd.func64.trans (congrArg some (by kernel_rfl))
  f284 := Tryd.func65.trans (congrArg some (by kernel_rfl))
  f285 := Tryd.func66.trans (congrArg some (by kernel_rfl))
  f286 := Tryd.func67.trans (congrArg some (by kernel_rfl))
  f317 := Tryd.func70.trans (congrArg some (by kernel_rfl))
  f318 := Tryd.func72.trans (congrArg some (by kernel_rfl))
  f319 := Tryd.func73.trans (congrArg some (by kernel_rfl))
  f320 := Tryd.func74.trans (congrArg some (by kernel_rfl))
  f337 := Tryd.func75.trans (congrArg some (by kernel_rfl))
  f338 := Tryd.func76.trans (congrArg some (by kernel_rfl))
  t0 := Tryd.underlying0
  a0 := Tryd.isAgg0
  z0 := Tryd.sizeOf0
  v0 := Tryd.zeroValue0
  t2 := Tryd.underlying2
  a2 := Tryd.isAgg2
  z2 := Tryd.sizeOf2
  v2 := Tryd.zeroValue2
  t3 := Tryd.underlying3
  a3 := Tryd.isAgg3
  z3 := Tryd.sizeOf3
  v3 := Tryd.zeroValue3
  t4 := Tryd.underlying4
  a4 := Tryd.isAgg4
  z4 := Tryd.sizeOf4
  v4 := Tryd.zeroValue4
  t5 := Tryd.underlying5
  a5 := Tryd.isAgg5
  z5 := Tryd.sizeOf5
  v5 := Tryd.zeroValue5
  t9 := Tryd.underlying9
  a9 := Tryd.isAgg9
  z9 := Tryd.sizeOf9
  v9 := Tryd.zeroValue9
  t20 := Tryd.underlying20
  a20 := Tryd.isAgg20
  z20 := Tryd.sizeOf20
  v20 := Tryd.zeroValue20
  t37 := Tryd.underlying32
  a37 := Tryd.isAgg32
  z37 := Tryd.sizeOf32
  v37 := Tryd.zeroValue32
  t46 := Tryd.underlying60
  a46 := Tryd.isAgg60
  z46 := Tryd.sizeOf60
  v46 := Tryd.zeroValue60
  t51 := Tryd.underlying68
  a51 := Tryd.isAgg68
  z51 := Tryd.sizeOf68
  v51 := Tryd.zeroValue68
  t53 := Tryd.underlying92
  a53 := Tryd.isAgg92
  z53 := Tryd.sizeOf92
  v53 := Tryd.zeroValue92
  t171 := Tryd.underlying99
  a171 := Tryd.isAgg99
  z171 := Tryd.sizeOf99
  v171 := Tryd.zeroValue99
  t173 := Tryd.underlying102
  a173 := Tryd.isAgg102
  z173 := Tryd.sizeOf102
  v173 := Tryd.zeroValue102
  t212 := Tryd.underlying110
  a212 := Tryd.isAgg110
  z212 := Tryd.sizeOf110
  v212 := Tryd.zeroValue110
  t213 := Tryd.underlying111
  a213 := Tryd.isAgg111
  z213 := Tryd.sizeOf111
  t232 := Tryd.underlying114
  a232 := Tryd.isAgg114
  z232 := Tryd.sizeOf114
  v232 := Tryd.zeroValue114
  t233 := Tryd.underlying115
  a233 := Tryd.isAgg115
  z233 := Tryd.sizeOf115
  v233 := Tryd.zeroValue115
  g17 := by kernel_rfl
  g18 := by kernel_rfl
  g19 := by kernel_rfl
  i0 := by kernel_rfl
  i2 := by kernel_rfl
  i3 := by kernel_rfl
  i4 := by kernel_rfl
  i5 := by kernel_rfl
  i9 := by kernel_rfl
  i20 := by kernel_rfl
  i37 := by kernel_rfl
  i46 := by kernel_rfl
  i51 := by kernel_rfl
  i53 := by kernel_rfl
  i171 := by kernel_rfl
  i173 := by kernel_rfl
  i212 := by kernel_rfl
  i232 := by kernel_rfl
  i233 := by kernel_rfl
  m17 := by kernel_rfl
  m18 := by kernel_rfl
  m19 := by kernel_rfl }
open Go.RowKit Go.Sort Go.Lib in
/-- internal/strconv.Itoa: "Itoa is equivalent to FormatInt(int64(i), 10).": i's decimal numeral, for every int. (LAID: no walk: one application.) -/
theorem Tryd.internal_strconv_Itoa (n : Int) (h0 : -9223372036854775808 ≤ n) (h1 : n ≤ 9223372036854775807) (w : World) (htab : Lib.TabIs Tryd.prog w "internal/strconv.uint64pow10" .u64 Lib.pow10Tab) :
    Calls Tryd.prog 45 #[.int .i64 n] w fun e w' => e = .returned (.string ⟨(Lib.itoa n).toArray⟩) ∧ ∃ k os, w' = grow (w.drewN k) os := Any.internal_strconv_Itoa Tryd.laysM243 n h0 h1 w htab
def Tryd.lays243_ren : Go.Shelf.Ren := ⟨fun | 243 => 45 | 246 => 57 | 283 => 64 | 284 => 65 | 285 => 66 | 286 => 67 | 129 => 71 | 317 => 70 | 318 => 72 | 319 => 73 | 320 => 74 | 337 => 75 | 338 => 76 | n => n, fun | 3 => 3 | 9 => 9 | 2 => 2 | 4 => 4 | 171 => 99 | 0 => 0 | 53 => 92 | 37 => 32 | 5 => 5 | 173 => 102 | 212 => 110 | 51 => 68 | 20 => 20 | 213 => 111 | 46 => 60 | 232 => 114 | 233 => 115 | n => n, fun | 17 => 5 | 18 => 6 | 19 => 7 | n => n⟩
theorem Tryd.lays243 : Go.Proofs.Lays.n243 Tryd.prog Tryd.lays243_ren := {
  mixed := by kernel_rfl
  f129 := Tryd.func71.trans (congrArg some (by kernel_rfl))
  f243 := Tryd.func45.trans (congrArg some (by kernel_rfl))
  f246 := Tryd.func57.trans (congrArg some (by kernel_rfl))
  f283 := Tryd.func64.trans (congrArg some (by kernel_rfl))
  f284 := Tryd.func65.trans (congrArg some (by kernel_rfl))
  f285 := Tryd.func66.trans (congrArg some (by kernel_rfl))
  f286 := Tryd.func67.trans (congrArg some (by kernel_rfl))
  f317 := Tryd.func70.trans (congrArg some (by kernel_rfl))
  f318 := Tryd.func72.trans (congrArg some (by kernel_rfl))
  f319 := Tryd.func73.trans (congrArg some (by kernel_rfl))
  f320 := Tryd.func74.trans (congrArg some (by kernel_rfl))
  f337 := Tryd.func75.trans (congrArg some (by kernel_rfl))
  f338 := Tryd.func76.trans (congrArg some (by kernel_rfl))
  t0 := Tryd.underlying0
  a0 := Tryd.isAgg0
  z0 := Tryd.sizeOf0
  v0 := Tryd.zeroValue0
  t2 := Tryd.underlying2
  a2 := Tryd.isAgg2
  z2 := Tryd.sizeOf2
  v2 := Tryd.zeroValue2
  t3 := Tryd.underlying3
  a3 := Tryd.isAgg3
  z3 := Tryd.sizeOf3
  v3 := Tryd.zeroValue3
  t4 := Tryd.underlying4
  a4 := Tryd.isAgg4
  z4 := Tryd.sizeOf4
  v4 := Tryd.zeroValue4
  t5 := Tryd.underlying5
  a5 := Tryd.isAgg5
  z5 := Tryd.sizeOf5
  v5 := Tryd.zeroValue5
  t9 := Tryd.underlying9
  a9 := Tryd.isAgg9
  z9 := Tryd.sizeOf9
  v9 := Tryd.zeroValue9
  t20 := Tryd.underlying20
  a20 := Tryd.isAgg20
  z20 := Tryd.sizeOf20
  v20 := Tryd.zeroValue20
  t37 := Tryd.underlying32
  a37 := Tryd.isAgg32
  z37 := Tryd.sizeOf32
  v37 := Tryd.zeroValue32
  t46 := Tryd.underlying60
  a46 := Tryd.isAgg60
  z46 := Tryd.sizeOf60
  v46 := Tryd.zeroValue60
  t51 := Tryd.underlying68
  a51 := Tryd.isAgg68
  z51 := Tryd.sizeOf68
  v51 := Tryd.zeroValue68
  t53 := Tryd.underlying92
  a53 := Tryd.isAgg92
  z53 := Tryd.sizeOf92
  v53 := Tryd.zeroValue92
  t171 := Tryd.underlying99
  a171 := Tryd.isAgg99
  z171 := Tryd.sizeOf99
  v171 := Tryd.zeroValue99
  t173 := Tryd.underlying102
  a173 := Tryd.isAgg102
  z173 := Tryd.sizeOf102
  v173 := Tryd.zeroValue102
  t212 := Tryd.underlying110
  a212 := Tryd.isAgg110
  z212 := Tryd.sizeOf110
  v212 := Tryd.zeroValue110
  t213 := Tryd.underlying111
  a213 := Tryd.isAgg111
  z213 := Tryd.sizeOf111
  t232 := Tryd.underlying114
  a232 := Tryd.isAgg114
  z232 := Tryd.sizeOf114
  v232 := Tryd.zeroValue114
  t233 := Tryd.underlying115
  a233 := Tryd.isAgg115
  z233 := Tryd.sizeOf115
  v233 := Tryd.zeroValue115
  g17 := by kernel_rfl
  g18 := by kernel_rfl
  g19 := by kernel_rfl }
open Go.RowKit Go.Sort Go.Lib in
/-- THE ROAD WITHOUT THE TABLE: 0 <= i < 100. (LAID: no walk: one application.) -/
theorem Tryd.internal_strconv_Itoa_small (i : Nat) (hi : i < 100) (w : World) :
    Calls Tryd.prog 45 #[.int .i64 i] w fun e w' => e = .returned (.string ⟨(Lib.decDigits i).toArray⟩) ∧ w' = w := Any.internal_strconv_Itoa_small Tryd.lays243 i hi w
def Tryd.laysM171_ren : Go.Shelf.Ren := ⟨fun | 171 => 35 | 243 => 45 | 246 => 57 | 283 => 64 | 284 => 65 | 285 => 66 | 286 => 67 | 129 => 71 | 317 => 70 | 318 => 72 | 319 => 73 | 320 => 74 | 337 => 75 | 338 => 76 | n => n, fun | 3 => 3 | 9 => 9 | 2 => 2 | 4 => 4 | 171 => 99 | 0 => 0 | 53 => 92 | 37 => 32 | 5 => 5 | 173 => 102 | 212 => 110 | 51 => 68 | 20 => 20 | 213 => 111 | 46 => 60 | 232 => 114 | 233 => 115 | n => n, fun | 17 => 5 | 18 => 6 | 19 => 7 | n => n⟩
theorem Tryd.laysM171 : Go.Proofs.LaysM.n171 Tryd.prog Tryd.laysM171_ren := {
  mixed := by kernel_rfl
  f129 := Tryd.func71.trans (congrArg some (by kernel_rfl))
  f171 := Tryd.func35.trans (congrArg some (by kernel_rfl))
  f243 := Tryd.func45.trans (congrArg some (by kernel_rfl))
  f246 := Tryd.func57.trans (congrArg some (by kernel_rfl))
  f283 := Tryd.func64.trans (congrArg some (by kernel_rfl))
  f284 := Tryd.func65.trans (congrArg some (by kernel_rfl))
  f285 := Tryd.func66.trans (congrArg some (by kernel_rfl))
  f286 := Tryd.func67.trans (congrArg some (by kernel_rfl))
  f317 := Tryd.func70.trans (congrArg some (by kernel_rfl))
  f318 := Tryd.func72.trans (congrArg some (by kernel_rfl))
  f319 := Tryd.func73.trans (congrArg some (by kernel_rfl))
  f320 := Tryd.func74.trans (congrArg some (by kernel_rfl))
  f337 := Tryd.func75.trans (congrArg some (by kernel_rfl))
  f338 := Tryd.func76.trans (congrArg some (by kernel_rfl))
  t0 := Tryd.underlying0
  a0 := Tryd.isAgg0
  z0 := Tryd.sizeOf0
  v0 := Tryd.zeroValue0
  t2 := Tryd.underlying2
  a2 := Tryd.isAgg2
  z2 := Tryd.sizeOf2
  v2 := Tryd.zeroValue2
  t3 := Tryd.underlying3
  a3 := Tryd.isAgg3
  z3 := Tryd.sizeOf3
  v3 := Tryd.zeroValue3
  t4 := Tryd.underlying4
  a4 := Tryd.isAgg4
  z4 := Tryd.sizeOf4
  v4 := Tryd.zeroValue4
  t5 := Tryd.underlying5
  a5 := Tryd.isAgg5
  z5 := Tryd.sizeOf5
  v5 := Tryd.zeroValue5
  t9 := Tryd.underlying9
  a9 := Tryd.isAgg9
  z9 := Tryd.sizeOf9
  v9 := Tryd.zeroValue9
  t20 := Tryd.underlying20
  a20 := Tryd.isAgg20
  z20 := Tryd.sizeOf20
  v20 := Tryd.zeroValue20
  t37 := Tryd.underlying32
  a37 := Tryd.isAgg32
  z37 := Tryd.sizeOf32
  v37 := Tryd.zeroValue32
  t46 := Tryd.underlying60
  a46 := Tryd.isAgg60
  z46 := Tryd.sizeOf60
  v46 := Tryd.zeroValue60
  t51 := Tryd.underlying68
  a51 := Tryd.isAgg68
  z51 := Tryd.sizeOf68
  v51 := Tryd.zeroValue68
  t53 := Tryd.underlying92
  a53 := Tryd.isAgg92
  z53 := Tryd.sizeOf92
  v53 := Tryd.zeroValue92
  t171 := Tryd.underlying99
  a171 := Tryd.isAgg99
  z171 := Tryd.sizeOf99
  v171 := Tryd.zeroValue99
  t173 := Tryd.underlying102
  a173 := Tryd.isAgg102
  z173 := Tryd.sizeOf102
  v173 := Tryd.zeroValue102
  t212 := Tryd.underlying110
  a212 := Tryd.isAgg110
  z212 := Tryd.sizeOf110
  v212 := Tryd.zeroValue110
  t213 := Tryd.underlying111
  a213 := Tryd.isAgg111
  z213 := Tryd.sizeOf111
  t232 := Tryd.underlying114
  a232 := Tryd.isAgg114
  z232 := Tryd.sizeOf114
  v232 := Tryd.zeroValue114
  t233 := Tryd.underlying115
  a233 := Tryd.isAgg115
  z233 := Tryd.sizeOf115
  v233 := Tryd.zeroValue115
  g17 := by kernel_rfl
  g18 := by kernel_rfl
  g19 := by kernel_rfl
  i0 := by kernel_rfl
  i2 := by kernel_rfl
  i3 := by kernel_rfl
  i4 := by kernel_rfl
  i5 := by kernel_rfl
  i9 := by kernel_rfl
  i20 := by kernel_rfl
  i37 := by kernel_rfl
  i46 := by kernel_rfl
  i51 := by kernel_rfl
  i53 := by kernel_rfl
  i171 := by kernel_rfl
  i173 := by kernel_rfl
  i212 := by kernel_rfl
  i232 := by kernel_rfl
  i233 := by kernel_rfl
  m17 := by kernel_rfl
  m18 := by kernel_rfl
  m19 := by kernel_rfl }
open Go.RowKit Go.Sort Go.Lib in
/-- strconv.Itoa: "Itoa is equivalent to FormatInt(int64(i), 10).": i's DECIMAL NUMERAL ('Lib.itoa': a '-' where i is negative, then the digits), FOR EVERY int. The world behind the call: the world before it, new blocks behind the heap (the library's 'var a [24]byte'), draws. (LAID: no walk: one application.) -/
theorem Tryd.strconv_Itoa (n : Int) (h0 : -9223372036854775808 ≤ n) (h1 : n ≤ 9223372036854775807) (w : World) (htab : Lib.TabIs Tryd.prog w "internal/strconv.uint64pow10" .u64 Lib.pow10Tab) :
    Calls Tryd.prog 35 #[.int .i64 n] w fun e w' => e = .returned (.string ⟨(Lib.itoa n).toArray⟩) ∧ ∃ k os, w' = grow (w.drewN k) os := Any.strconv_Itoa Tryd.laysM171 n h0 h1 w htab
def Tryd.lays171_ren : Go.Shelf.Ren := ⟨fun | 171 => 35 | 243 => 45 | 246 => 57 | 283 => 64 | 284 => 65 | 285 => 66 | 286 => 67 | 129 => 71 | 317 => 70 | 318 => 72 | 319 => 73 | 320 => 74 | 337 => 75 | 338 => 76 | n => n, fun | 3 => 3 | 9 => 9 | 2 => 2 | 4 => 4 | 171 => 99 | 0 => 0 | 53 => 92 | 37 => 32 | 5 => 5 | 173 => 102 | 212 => 110 | 51 => 68 | 20 => 20 | 213 => 111 | 46 => 60 | 232 => 114 | 233 => 115 | n => n, fun | 17 => 5 | 18 => 6 | 19 => 7 | n => n⟩
theorem Tryd.lays171 : Go.Proofs.Lays.n171 Tryd.prog Tryd.lays171_ren := {
  mixed := by kernel_rfl
  f129 := Tryd.func71.trans (congrArg some (by kernel_rfl))
  f171 := Tryd.func35.trans (congrArg some (by kernel_rfl))
  f243 := Tryd.func45.trans (congrArg some (by kernel_rfl))
  f246 := Tryd.func57.trans (congrArg some (by kernel_rfl))
  f283 := Tryd.func64.trans (congrArg some (by kernel_rfl))
  f284 := Tryd.func65.trans (congrArg some (by kernel_rfl))
  f285 := Tryd.func66.trans (congrArg some (by kernel_rfl))
  f286 := Tryd.func67.trans (congrArg some (by kernel_rfl))
  f317 := Tryd.func70.trans (congrArg some (by kernel_rfl))
  f318 := Tryd.func72.trans (congrArg some (by kernel_rfl))
  f319 := Tryd.func73.trans (congrArg some (by kernel_rfl))
  f320 := Tryd.func74.trans (congrArg some (by kernel_rfl))
  f337 := Tryd.func75.trans (congrArg some (by kernel_rfl))
  f338 := Tryd.func76.trans (congrArg some (by kernel_rfl))
  t0 := Tryd.underlying0
  a0 := Tryd.isAgg0
  z0 := Tryd.sizeOf0
  v0 := Tryd.zeroValue0
  t2 := Tryd.underlying2
  a2 := Tryd.isAgg2
  z2 := Tryd.sizeOf2
  v2 := Tryd.zeroValue2
  t3 := Tryd.underlying3
  a3 := Tryd.isAgg3
  z3 := Tryd.sizeOf3
  v3 := Tryd.zeroValue3
  t4 := Tryd.underlying4
  a4 := Tryd.isAgg4
  z4 := Tryd.sizeOf4
  v4 := Tryd.zeroValue4
  t5 := Tryd.underlying5
  a5 := Tryd.isAgg5
  z5 := Tryd.sizeOf5
  v5 := Tryd.zeroValue5
  t9 := Tryd.underlying9
  a9 := Tryd.isAgg9
  z9 := Tryd.sizeOf9
  v9 := Tryd.zeroValue9
  t20 := Tryd.underlying20
  a20 := Tryd.isAgg20
  z20 := Tryd.sizeOf20
  v20 := Tryd.zeroValue20
  t37 := Tryd.underlying32
  a37 := Tryd.isAgg32
  z37 := Tryd.sizeOf32
  v37 := Tryd.zeroValue32
  t46 := Tryd.underlying60
  a46 := Tryd.isAgg60
  z46 := Tryd.sizeOf60
  v46 := Tryd.zeroValue60
  t51 := Tryd.underlying68
  a51 := Tryd.isAgg68
  z51 := Tryd.sizeOf68
  v51 := Tryd.zeroValue68
  t53 := Tryd.underlying92
  a53 := Tryd.isAgg92
  z53 := Tryd.sizeOf92
  v53 := Tryd.zeroValue92
  t171 := Tryd.underlying99
  a171 := Tryd.isAgg99
  z171 := Tryd.sizeOf99
  v171 := Tryd.zeroValue99
  t173 := Tryd.underlying102
  a173 := Tryd.isAgg102
  z173 := Tryd.sizeOf102
  v173 := Tryd.zeroValue102
  t212 := Tryd.underlying110
  a212 := Tryd.isAgg110
  z212 := Tryd.sizeOf110
  v212 := Tryd.zeroValue110
  t213 := Tryd.underlying111
  a213 := Tryd.isAgg111
  z213 := Tryd.sizeOf111
  t232 := Tryd.underlying114
  a232 := Tryd.isAgg114
  z232 := Tryd.sizeOf114
  v232 := Tryd.zeroValue114
  t233 := Tryd.underlying115
  a233 := Tryd.isAgg115
  z233 := Tryd.sizeOf115
  v233 := Tryd.zeroValue115
  g17 := by kernel_rfl
  g18 := by kernel_rfl
  g19 := by kernel_rfl }
open Go.RowKit Go.Sort Go.Lib in
/-- THE ROAD WITHOUT THE TABLE: 0 <= i < 100: NO PREMISE ON THE WORLD, AND THE WORLD IS AS IT WAS: a row that keeps its argument in that range need list no table ('laid = []'). (LAID: no walk: one application.) -/
theorem Tryd.strconv_Itoa_small (i : Nat) (hi : i < 100) (w : World) :
    Calls Tryd.prog 35 #[.int .i64 i] w fun e w' => e = .returned (.string ⟨(Lib.decDigits i).toArray⟩) ∧ w' = w := Any.strconv_Itoa_small Tryd.lays171 i hi w
open Go.RowKit in
/-- internal/strconv.Atoi, at a string of 1 to 18 bytes THAT IS NO DECIMAL NUMERAL: 0, AND ErrSyntax (the package's own error number 2). The world behind the call: as it was, or with the one new row that '[]byte(s)' lays. (LAID: no walk: one application.) -/
theorem Tryd.internal_strconv_Atoi_err (s : ByteArray) (hl0 : 1 ≤ s.size) (hl : s.size ≤ 18) (h : Lib.atoi s.data.toList = none) (w : World) :
    Calls Tryd.prog 43 #[.string s] w fun e w' => e = .returned (.tuple #[.int .i64 0, (.iface 84 (.int .i64 2))]) ∧ (w' = w ∨ ∃ t, w' = Lib.bytesWorld w 5 t) := Any.internal_strconv_Atoi_err Tryd.lays244 s hl0 hl h w
def Tryd.lays247_ren : Go.Shelf.Ren := ⟨fun | 247 => 52 | 287 => 61 | 321 => 68 | 322 => 69 | n => n, fun | 9 => 9 | 3 => 3 | 2 => 2 | 75 => 62 | 4 => 4 | 167 => 84 | 5 => 5 | 53 => 92 | 175 => 93 | 46 => 60 | 37 => 32 | 0 => 0 | 21 => 21 | 80 => 116 | n => n, fun | n => n⟩
theorem Tryd.lays247 : Go.Proofs.Lays.n247 Tryd.prog Tryd.lays247_ren := {
  mixed := by kernel_rfl
  f247 := Tryd.func52.trans (congrArg some (by kernel_rfl))
  f287 := Tryd.func61.trans (congrArg some (by kernel_rfl))
  f321 := Tryd.func68.trans (congrArg some (by kernel_rfl))
  f322 := Tryd.func69.trans (congrArg some (by kernel_rfl))
  t0 := Tryd.underlying0
  a0 := Tryd.isAgg0
  z0 := Tryd.sizeOf0
  v0 := Tryd.zeroValue0
  t2 := Tryd.underlying2
  a2 := Tryd.isAgg2
  z2 := Tryd.sizeOf2
  v2 := Tryd.zeroValue2
  t3 := Tryd.underlying3
  a3 := Tryd.isAgg3
  z3 := Tryd.sizeOf3
  v3 := Tryd.zeroValue3
  t4 := Tryd.underlying4
  a4 := Tryd.isAgg4
  z4 := Tryd.sizeOf4
  v4 := Tryd.zeroValue4
  t5 := Tryd.underlying5
  a5 := Tryd.isAgg5
  z5 := Tryd.sizeOf5
  v5 := Tryd.zeroValue5
  t9 := Tryd.underlying9
  a9 := Tryd.isAgg9
  z9 := Tryd.sizeOf9
  v9 := Tryd.zeroValue9
  t21 := Tryd.underlying21
  a21 := Tryd.isAgg21
  z21 := Tryd.sizeOf21
  v21 := Tryd.zeroValue21
  t37 := Tryd.underlying32
  a37 := Tryd.isAgg32
  z37 := Tryd.sizeOf32
  v37 := Tryd.zeroValue32
  t46 := Tryd.underlying60
  a46 := Tryd.isAgg60
  z46 := Tryd.sizeOf60
  v46 := Tryd.zeroValue60
  t53 := Tryd.underlying92
  a53 := Tryd.isAgg92
  z53 := Tryd.sizeOf92
  v53 := Tryd.zeroValue92
  t75 := Tryd.underlying62
  a75 := Tryd.isAgg62
  z75 := Tryd.sizeOf62
  v75 := Tryd.zeroValue62
  t167 := Tryd.underlying84
  a167 := Tryd.isAgg84
  z167 := Tryd.sizeOf84
  v167 := Tryd.zeroValue84
  t175 := Tryd.underlying93
  a175 := Tryd.isAgg93
  z175 := Tryd.sizeOf93
  v175 := Tryd.zeroValue93 }
open Go.RowKit in
/-- internal/strconv.ParseInt at "": 'if s == "" { return 0, ErrSyntax }'. The world is as it was. (LAID: no walk: one application.) -/
theorem Tryd.internal_strconv_ParseInt_empty (base bits : Int) (w : World) :
    Calls Tryd.prog 52 #[.string ⟨#[]⟩, .int .i64 base, .int .i64 bits] w fun e w' => e = .returned (.tuple #[.int .i64 0, (.iface 84 (.int .i64 2))]) ∧ w' = w := Any.internal_strconv_ParseInt_empty Tryd.lays247 base bits w
open Go.RowKit in
/-- internal/strconv.Atoi at "". (LAID: no walk: one application.) -/
theorem Tryd.internal_strconv_Atoi_empty (w : World) :
    Calls Tryd.prog 43 #[.string ⟨#[]⟩] w fun e w' => e = .returned (.tuple #[.int .i64 0, (.iface 84 (.int .i64 2))]) ∧ w' = w := Any.internal_strconv_Atoi_empty Tryd.lays244 w
open Go.RowKit in
/-- internal/strconv.Atoi, AT EVERY STRING OF AT MOST 18 BYTES THAT IS NO DECIMAL NUMERAL: 0, and ErrSyntax. (LAID: no walk: one application.) -/
theorem Tryd.internal_strconv_Atoi_fail (s : ByteArray) (hl : s.size ≤ 18) (h : Lib.atoi s.data.toList = none) (w : World) :
    Calls Tryd.prog 43 #[.string s] w fun e w' => e = .returned (.tuple #[.int .i64 0, (.iface 84 (.int .i64 2))]) ∧ (w' = w ∨ ∃ t, w' = Lib.bytesWorld w 5 t) := Any.internal_strconv_Atoi_fail Tryd.lays244 s hl h w
def Tryd.laysM316_ren : Go.Shelf.Ren := ⟨fun | 316 => 62 | n => n, fun | 9 => 9 | 3 => 3 | 4 => 4 | 37 => 32 | 0 => 0 | 127 => 105 | 5 => 5 | n => n, fun | n => n⟩
theorem Tryd.laysM316 : Go.Proofs.LaysM.n316 Tryd.prog Tryd.laysM316_ren := {
  mixed := by kernel_rfl
  f316 := Tryd.func62.trans (congrArg some (by kernel_rfl))
  t0 := Tryd.underlying0
  a0 := Tryd.isAgg0
  z0 := Tryd.sizeOf0
  v0 := Tryd.zeroValue0
  t3 := Tryd.underlying3
  a3 := Tryd.isAgg3
  z3 := Tryd.sizeOf3
  v3 := Tryd.zeroValue3
  t4 := Tryd.underlying4
  a4 := Tryd.isAgg4
  z4 := Tryd.sizeOf4
  v4 := Tryd.zeroValue4
  t9 := Tryd.underlying9
  a9 := Tryd.isAgg9
  z9 := Tryd.sizeOf9
  v9 := Tryd.zeroValue9
  t37 := Tryd.underlying32
  a37 := Tryd.isAgg32
  z37 := Tryd.sizeOf32
  v37 := Tryd.zeroValue32
  t127 := Tryd.underlying105
  a127 := Tryd.isAgg105
  z127 := Tryd.sizeOf105
  v127 := Tryd.zeroValue105
  t5 := Tryd.underlying5
  a5 := Tryd.isAgg5
  z5 := Tryd.sizeOf5
  v5 := Tryd.zeroValue5
  i0 := by kernel_rfl
  i3 := by kernel_rfl
  i4 := by kernel_rfl
  i5 := by kernel_rfl
  i9 := by kernel_rfl
  i37 := by kernel_rfl
  i127 := by kernel_rfl }
open Go.RowKit in
/-- internal/stringslite.Clone (what strings.Clone calls): "Clone returns a fresh copy of s.": THE SAME BYTES. Of what was there nothing has turned (a new row is laid, and frozen, where s is not empty). (LAID: no walk: one application.) -/
theorem Tryd.stringslite_Clone (s : ByteArray) (w : World) (hlim : s.size ≤ 281474976710656) :
    Calls Tryd.prog 62 #[.string s] w fun e w' => e = .returned (.string s) ∧ Below w.heap.size w w' := Any.stringslite_Clone Tryd.laysM316 s w hlim
def Tryd.laysM279_ren : Go.Shelf.Ren := ⟨fun | 279 => 53 | 316 => 62 | n => n, fun | 9 => 9 | 168 => 87 | 75 => 62 | 210 => 97 | 3 => 3 | 4 => 4 | 37 => 32 | 0 => 0 | 127 => 105 | 80 => 116 | 5 => 5 | n => n, fun | 15 => 3 | n => n⟩
theorem Tryd.laysM279 : Go.Proofs.LaysM.n279 Tryd.prog Tryd.laysM279_ren := {
  mixed := by kernel_rfl
  f279 := Tryd.func53.trans (congrArg some (by kernel_rfl))
  f316 := Tryd.func62.trans (congrArg some (by kernel_rfl))
  t0 := Tryd.underlying0
  a0 := Tryd.isAgg0
  z0 := Tryd.sizeOf0
  v0 := Tryd.zeroValue0
  t3 := Tryd.underlying3
  a3 := Tryd.isAgg3
  z3 := Tryd.sizeOf3
  v3 := Tryd.zeroValue3
  t4 := Tryd.underlying4
  a4 := Tryd.isAgg4
  z4 := Tryd.sizeOf4
  v4 := Tryd.zeroValue4
  t9 := Tryd.underlying9
  a9 := Tryd.isAgg9
  z9 := Tryd.sizeOf9
  v9 := Tryd.zeroValue9
  t37 := Tryd.underlying32
  a37 := Tryd.isAgg32
  z37 := Tryd.sizeOf32
  v37 := Tryd.zeroValue32
  t75 := Tryd.underlying62
  a75 := Tryd.isAgg62
  z75 := Tryd.sizeOf62
  v75 := Tryd.zeroValue62
  t127 := Tryd.underlying105
  a127 := Tryd.isAgg105
  z127 := Tryd.sizeOf105
  v127 := Tryd.zeroValue105
  t168 := Tryd.underlying87
  a168 := Tryd.isAgg87
  z168 := Tryd.sizeOf87
  v168 := Tryd.zeroValue87
  t210 := Tryd.underlying97
  a210 := Tryd.isAgg97
  z210 := Tryd.sizeOf97
  v210 := Tryd.zeroValue97
  g15 := by kernel_rfl
  t5 := Tryd.underlying5
  a5 := Tryd.isAgg5
  z5 := Tryd.sizeOf5
  v5 := Tryd.zeroValue5
  t80 := Tryd.underlying116
  a80 := Tryd.isAgg116
  z80 := Tryd.sizeOf116
  v80 := Tryd.zeroValue116
  i0 := by kernel_rfl
  i3 := by kernel_rfl
  i4 := by kernel_rfl
  i5 := by kernel_rfl
  i9 := by kernel_rfl
  i37 := by kernel_rfl
  i75 := by kernel_rfl
  i80 := by kernel_rfl
  i127 := by kernel_rfl
  i168 := by kernel_rfl
  i210 := by kernel_rfl
  m15 := by kernel_rfl }
open Go.RowKit in
/-- strconv.syntaxError: '&NumError{fn, stringslite.Clone(str), ErrSyntax}': A POINTER TO A NEW BLOCK that holds fn, str's bytes, and what the variable ErrSyntax holds. Of what was there nothing has turned. (LAID: no walk: one application.) -/
theorem Tryd.strconv_syntaxError (fn s : ByteArray) (ev : Value) (w : World) (hlim : s.size ≤ 281474976710656) (hv : w.cell? ⟨3, 0, none⟩ = some ev) (hev : ev = .nilIface ∨ ∃ te pe, ev = .iface te pe) :
    Calls Tryd.prog 53 #[.string fn, .string s] w fun e w' => ∃ N, e = .returned (.pointer (some ⟨N, 0, none⟩)) ∧ w.heap.size ≤ N ∧ w'.heap[N]? = some (.cells #[.string fn, .string s, ev] 97 (0, 0)) ∧ Below w.heap.size w w' := Any.strconv_syntaxError Tryd.laysM279 fn s ev w hlim hv hev
def Tryd.laysC245_ren : Go.Shelf.Ren := ⟨fun | 245 => 44 | 279 => 53 | 280 => 54 | 281 => 55 | 282 => 56 | 316 => 62 | 171 => 35 | 205 => 63 | 243 => 45 | 246 => 57 | 283 => 64 | 284 => 65 | 285 => 66 | 286 => 67 | 129 => 71 | 317 => 70 | 318 => 72 | 319 => 73 | 320 => 74 | 337 => 75 | 338 => 76 | n => n, fun | 9 => 9 | 3 => 3 | 75 => 62 | 167 => 84 | 4 => 4 | 168 => 87 | 210 => 97 | 37 => 32 | 0 => 0 | 127 => 105 | 145 => 108 | 143 => 106 | 2 => 2 | 171 => 99 | 53 => 92 | 5 => 5 | 173 => 102 | 212 => 110 | 51 => 68 | 20 => 20 | 213 => 111 | 46 => 60 | 232 => 114 | 233 => 115 | 80 => 116 | n => n, fun | 15 => 3 | 16 => 4 | 17 => 5 | 18 => 6 | 19 => 7 | n => n⟩
theorem Tryd.laysC245 : Go.Proofs.LaysC.n245 Tryd.prog Tryd.laysC245_ren := {
  mixed := by kernel_rfl
  f129 := Tryd.func71.trans (congrArg some (by kernel_rfl))
  f171 := Tryd.func35.trans (congrArg some (by kernel_rfl))
  f205 := Tryd.func63.trans (congrArg some (by kernel_rfl))
  f243 := Tryd.func45.trans (congrArg some (by kernel_rfl))
  f245 := Tryd.func44.trans (congrArg some (by kernel_rfl))
  f246 := Tryd.func57.trans (congrArg some (by kernel_rfl))
  f279 := Tryd.func53.trans (congrArg some (by kernel_rfl))
  f280 := Tryd.func54.trans (congrArg some (by kernel_rfl))
  f281 := Tryd.func55.trans (congrArg some (by kernel_rfl))
  f282 := Tryd.func56.trans (congrArg some (by kernel_rfl))
  f283 := Tryd.func64.trans (congrArg some (by kernel_rfl))
  f284 := Tryd.func65.trans (congrArg some (by kernel_rfl))
  f285 := Tryd.func66.trans (congrArg some (by kernel_rfl))
  f286 := Tryd.func67.trans (congrArg some (by kernel_rfl))
  f316 := Tryd.func62.trans (congrArg some (by kernel_rfl))
  f317 := Tryd.func70.trans (congrArg some (by kernel_rfl))
  f318 := Tryd.func72.trans (congrArg some (by kernel_rfl))
  f319 := Tryd.func73.trans (congrArg some (by kernel_rfl))
  f320 := Tryd.func74.trans (congrArg some (by kernel_rfl))
  f337 := Tryd.func75.trans (congrArg some (by kernel_rfl))
  f338 := Tryd.func76.trans (congrArg some (by kernel_rfl))
  t0 := Tryd.underlying0
  a0 := Tryd.isAgg0
  z0 := Tryd.sizeOf0
  v0 := Tryd.zeroValue0
  t2 := Tryd.underlying2
  a2 := Tryd.isAgg2
  z2 := Tryd.sizeOf2
  v2 := Tryd.zeroValue2
  t3 := Tryd.underlying3
  a3 := Tryd.isAgg3
  z3 := Tryd.sizeOf3
  v3 := Tryd.zeroValue3
  t4 := Tryd.underlying4
  a4 := Tryd.isAgg4
  z4 := Tryd.sizeOf4
  v4 := Tryd.zeroValue4
  t5 := Tryd.underlying5
  a5 := Tryd.isAgg5
  z5 := Tryd.sizeOf5
  v5 := Tryd.zeroValue5
  t9 := Tryd.underlying9
  a9 := Tryd.isAgg9
  z9 := Tryd.sizeOf9
  v9 := Tryd.zeroValue9
  t20 := Tryd.underlying20
  a20 := Tryd.isAgg20
  z20 := Tryd.sizeOf20
  v20 := Tryd.zeroValue20
  t37 := Tryd.underlying32
  a37 := Tryd.isAgg32
  z37 := Tryd.sizeOf32
  v37 := Tryd.zeroValue32
  t46 := Tryd.underlying60
  a46 := Tryd.isAgg60
  z46 := Tryd.sizeOf60
  v46 := Tryd.zeroValue60
  t51 := Tryd.underlying68
  a51 := Tryd.isAgg68
  z51 := Tryd.sizeOf68
  v51 := Tryd.zeroValue68
  t53 := Tryd.underlying92
  a53 := Tryd.isAgg92
  z53 := Tryd.sizeOf92
  v53 := Tryd.zeroValue92
  t75 := Tryd.underlying62
  a75 := Tryd.isAgg62
  z75 := Tryd.sizeOf62
  v75 := Tryd.zeroValue62
  t127 := Tryd.underlying105
  a127 := Tryd.isAgg105
  z127 := Tryd.sizeOf105
  v127 := Tryd.zeroValue105
  t143 := Tryd.underlying106
  a143 := Tryd.isAgg106
  z143 := Tryd.sizeOf106
  v143 := Tryd.zeroValue106
  t145 := Tryd.underlying108
  a145 := Tryd.isAgg108
  z145 := Tryd.sizeOf108
  v145 := Tryd.zeroValue108
  t167 := Tryd.underlying84
  a167 := Tryd.isAgg84
  z167 := Tryd.sizeOf84
  v167 := Tryd.zeroValue84
  t168 := Tryd.underlying87
  a168 := Tryd.isAgg87
  z168 := Tryd.sizeOf87
  v168 := Tryd.zeroValue87
  t171 := Tryd.underlying99
  a171 := Tryd.isAgg99
  z171 := Tryd.sizeOf99
  v171 := Tryd.zeroValue99
  t173 := Tryd.underlying102
  a173 := Tryd.isAgg102
  z173 := Tryd.sizeOf102
  v173 := Tryd.zeroValue102
  t210 := Tryd.underlying97
  a210 := Tryd.isAgg97
  z210 := Tryd.sizeOf97
  v210 := Tryd.zeroValue97
  t212 := Tryd.underlying110
  a212 := Tryd.isAgg110
  z212 := Tryd.sizeOf110
  v212 := Tryd.zeroValue110
  t213 := Tryd.underlying111
  a213 := Tryd.isAgg111
  z213 := Tryd.sizeOf111
  t232 := Tryd.underlying114
  a232 := Tryd.isAgg114
  z232 := Tryd.sizeOf114
  v232 := Tryd.zeroValue114
  t233 := Tryd.underlying115
  a233 := Tryd.isAgg115
  z233 := Tryd.sizeOf115
  v233 := Tryd.zeroValue115
  g15 := by kernel_rfl
  g16 := by kernel_rfl
  g17 := by kernel_rfl
  g18 := by kernel_rfl
  g19 := by kernel_rfl
  t80 := Tryd.underlying116
  a80 := Tryd.isAgg116
  z80 := Tryd.sizeOf116
  v80 := Tryd.zeroValue116
  i0 := by kernel_rfl
  i2 := by kernel_rfl
  i3 := by kernel_rfl
  i4 := by kernel_rfl
  i5 := by kernel_rfl
  i9 := by kernel_rfl
  i20 := by kernel_rfl
  i37 := by kernel_rfl
  i46 := by kernel_rfl
  i51 := by kernel_rfl
  i53 := by kernel_rfl
  i75 := by kernel_rfl
  i80 := by kernel_rfl
  i127 := by kernel_rfl
  i143 := by kernel_rfl
  i145 := by kernel_rfl
  i167 := by kernel_rfl
  i168 := by kernel_rfl
  i171 := by kernel_rfl
  i173 := by kernel_rfl
  i210 := by kernel_rfl
  i212 := by kernel_rfl
  i232 := by kernel_rfl
  i233 := by kernel_rfl
  m15 := by kernel_rfl
  m16 := by kernel_rfl
  m17 := by kernel_rfl
  m18 := by kernel_rfl
  m19 := by kernel_rfl
  c0 := by kernel_rfl
  c2 := by kernel_rfl
  c3 := by kernel_rfl
  c4 := by kernel_rfl
  c5 := by kernel_rfl
  c9 := by kernel_rfl
  c20 := by kernel_rfl
  c37 := by kernel_rfl
  c46 := by kernel_rfl
  c51 := by kernel_rfl
  c53 := by kernel_rfl
  c75 := by kernel_rfl
  c80 := by kernel_rfl
  c127 := by kernel_rfl
  c143 := by kernel_rfl
  c145 := by kernel_rfl
  c167 := by kernel_rfl
  c168 := by kernel_rfl
  c171 := by kernel_rfl
  c173 := by kernel_rfl
  c210 := by kernel_rfl
  c212 := by kernel_rfl
  c213 := by kernel_rfl
  c232 := by kernel_rfl
  c233 := by kernel_rfl }
open Go.RowKit in
/-- strconv.toError, at the inner package's ErrSyntax: 'syntaxError(fn, s)' as an error: A *NumError IN A NEW BLOCK. (LAID: no walk: one application.) -/
theorem Tryd.strconv_toError_syntax (fn s : ByteArray) (base bits : Int) (ev : Value) (w : World) (hlim : s.size ≤ 281474976710656) (hv : w.cell? ⟨3, 0, none⟩ = some ev) (hev : ev = .nilIface ∨ ∃ te pe, ev = .iface te pe) :
    Calls Tryd.prog 44 #[.string fn, .string s, .int .i64 base, .int .i64 bits, .iface 84 (.int .i64 2)] w fun e w' => ∃ N, e = .returned (.iface 87 (.pointer (some ⟨N, 0, none⟩))) ∧ w.heap.size ≤ N ∧ w'.heap[N]? = some (.cells #[.string fn, .string s, ev] 97 (0, 0)) ∧ Below w.heap.size w w' := Any.strconv_toError_syntax Tryd.laysC245 fn s base bits ev w hlim hv hev
def Tryd.lays321_ren : Go.Shelf.Ren := ⟨fun | 321 => 68 | n => n, fun | 5 => 5 | n => n, fun | n => n⟩
theorem Tryd.lays321 : Go.Proofs.Lays.n321 Tryd.prog Tryd.lays321_ren := {
  mixed := by kernel_rfl
  f321 := Tryd.func68.trans (congrArg some (by kernel_rfl))
  t5 := Tryd.underlying5
  a5 := Tryd.isAgg5
  z5 := Tryd.sizeOf5
  v5 := Tryd.zeroValue5 }
open Go.RowKit in
/-- internal/strconv.lower: 'c | ('x' - 'X')': the bit 32 set. The world is as it was. (LAID: no walk: one application.) -/
theorem Tryd.internal_strconv_lower (c : Int) (w : World) :
    Calls Tryd.prog 68 #[.int .u8 c] w fun e w' => e = .returned (.int .u8 (bits .or .u8 c 32)) ∧ w' = w := Any.internal_strconv_lower Tryd.lays321 c w
def Tryd.lays287_ren : Go.Shelf.Ren := ⟨fun | 287 => 61 | 321 => 68 | 322 => 69 | n => n, fun | 9 => 9 | 3 => 3 | 53 => 92 | 75 => 62 | 4 => 4 | 167 => 84 | 5 => 5 | 46 => 60 | 37 => 32 | 0 => 0 | 21 => 21 | 80 => 116 | n => n, fun | n => n⟩
theorem Tryd.lays287 : Go.Proofs.Lays.n287 Tryd.prog Tryd.lays287_ren := {
  mixed := by kernel_rfl
  f287 := Tryd.func61.trans (congrArg some (by kernel_rfl))
  f321 := Tryd.func68.trans (congrArg some (by kernel_rfl))
  f322 := Tryd.func69.trans (congrArg some (by kernel_rfl))
  t0 := Tryd.underlying0
  a0 := Tryd.isAgg0
  z0 := Tryd.sizeOf0
  v0 := Tryd.zeroValue0
  t3 := Tryd.underlying3
  a3 := Tryd.isAgg3
  z3 := Tryd.sizeOf3
  v3 := Tryd.zeroValue3
  t4 := Tryd.underlying4
  a4 := Tryd.isAgg4
  z4 := Tryd.sizeOf4
  v4 := Tryd.zeroValue4
  t5 := Tryd.underlying5
  a5 := Tryd.isAgg5
  z5 := Tryd.sizeOf5
  v5 := Tryd.zeroValue5
  t9 := Tryd.underlying9
  a9 := Tryd.isAgg9
  z9 := Tryd.sizeOf9
  v9 := Tryd.zeroValue9
  t21 := Tryd.underlying21
  a21 := Tryd.isAgg21
  z21 := Tryd.sizeOf21
  v21 := Tryd.zeroValue21
  t37 := Tryd.underlying32
  a37 := Tryd.isAgg32
  z37 := Tryd.sizeOf32
  v37 := Tryd.zeroValue32
  t46 := Tryd.underlying60
  a46 := Tryd.isAgg60
  z46 := Tryd.sizeOf60
  v46 := Tryd.zeroValue60
  t53 := Tryd.underlying92
  a53 := Tryd.isAgg92
  z53 := Tryd.sizeOf92
  v53 := Tryd.zeroValue92
  t75 := Tryd.underlying62
  a75 := Tryd.isAgg62
  z75 := Tryd.sizeOf62
  v75 := Tryd.zeroValue62
  t167 := Tryd.underlying84
  a167 := Tryd.isAgg84
  z167 := Tryd.sizeOf84
  v167 := Tryd.zeroValue84 }
open Go.RowKit in
/-- internal/strconv.ParseUint(s, 10, 0), s NOT EMPTY: 'Lib.parseUint10 0' OF ITS BYTES: the number; or (0, ErrSyntax); or (the greatest uint64, ErrRange). The world behind the call: the one new row that '[]byte(s)' lays. (LAID: no walk: one application.) -/
theorem Tryd.internal_strconv_ParseUint_10 (t : ByteArray) (hne : t.size ≠ 0) (hmax : t.size ≤ 9223372036854775806) (w : World) :
    Calls Tryd.prog 61 #[.string t, .int .i64 10, .int .i64 0] w fun e w' => e = .returned (Lib.uintTuple 84 (Lib.parseUint10 0 t.data.toList)) ∧ w' = Lib.bytesWorld w 5 t := Any.internal_strconv_ParseUint_10 Tryd.lays287 t hne hmax w
open Go.RowKit in
/-- internal/strconv.ParseUint("", 10, 0): (0, ErrSyntax). The world is as it was. (LAID: no walk: one application.) -/
theorem Tryd.internal_strconv_ParseUint_10_empty (w : World) :
    Calls Tryd.prog 61 #[.string ⟨#[]⟩, .int .i64 10, .int .i64 0] w fun e w' => e = .returned (Lib.uintTuple 84 .syntax) ∧ w' = w := Any.internal_strconv_ParseUint_10_empty Tryd.lays287 w
open Go.RowKit in
/-- internal/strconv.ParseUint(s, 10, 0): 'Lib.parseMag' OF ITS BYTES. The world: as it was (the empty string), or with the one new row that '[]byte(s)' lays. (LAID: no walk: one application.) -/
theorem Tryd.internal_strconv_ParseUint_10_any (t : ByteArray) (hmax : t.size ≤ 9223372036854775806) (w : World) :
    Calls Tryd.prog 61 #[.string t, .int .i64 10, .int .i64 0] w fun e w' => e = .returned (Lib.uintTuple 84 (Lib.parseMag t.data.toList)) ∧ (w' = w ∨ w' = Lib.bytesWorld w 5 t) := Any.internal_strconv_ParseUint_10_any Tryd.lays287 t hmax w
def Tryd.laysC247_ren : Go.Shelf.Ren := ⟨fun | 247 => 52 | 287 => 61 | 321 => 68 | 322 => 69 | n => n, fun | 9 => 9 | 3 => 3 | 2 => 2 | 75 => 62 | 4 => 4 | 167 => 84 | 5 => 5 | 53 => 92 | 175 => 93 | 46 => 60 | 37 => 32 | 0 => 0 | 21 => 21 | 80 => 116 | n => n, fun | n => n⟩
theorem Tryd.laysC247 : Go.Proofs.LaysC.n247 Tryd.prog Tryd.laysC247_ren := {
  mixed := by kernel_rfl
  f247 := Tryd.func52.trans (congrArg some (by kernel_rfl))
  f287 := Tryd.func61.trans (congrArg some (by kernel_rfl))
  f321 := Tryd.func68.trans (congrArg some (by kernel_rfl))
  f322 := Tryd.func69.trans (congrArg some (by kernel_rfl))
  t0 := Tryd.underlying0
  a0 := Tryd.isAgg0
  z0 := Tryd.sizeOf0
  v0 := Tryd.zeroValue0
  t2 := Tryd.underlying2
  a2 := Tryd.isAgg2
  z2 := Tryd.sizeOf2
  v2 := Tryd.zeroValue2
  t3 := Tryd.underlying3
  a3 := Tryd.isAgg3
  z3 := Tryd.sizeOf3
  v3 := Tryd.zeroValue3
  t4 := Tryd.underlying4
  a4 := Tryd.isAgg4
  z4 := Tryd.sizeOf4
  v4 := Tryd.zeroValue4
  t5 := Tryd.underlying5
  a5 := Tryd.isAgg5
  z5 := Tryd.sizeOf5
  v5 := Tryd.zeroValue5
  t9 := Tryd.underlying9
  a9 := Tryd.isAgg9
  z9 := Tryd.sizeOf9
  v9 := Tryd.zeroValue9
  t21 := Tryd.underlying21
  a21 := Tryd.isAgg21
  z21 := Tryd.sizeOf21
  v21 := Tryd.zeroValue21
  t37 := Tryd.underlying32
  a37 := Tryd.isAgg32
  z37 := Tryd.sizeOf32
  v37 := Tryd.zeroValue32
  t46 := Tryd.underlying60
  a46 := Tryd.isAgg60
  z46 := Tryd.sizeOf60
  v46 := Tryd.zeroValue60
  t53 := Tryd.underlying92
  a53 := Tryd.isAgg92
  z53 := Tryd.sizeOf92
  v53 := Tryd.zeroValue92
  t75 := Tryd.underlying62
  a75 := Tryd.isAgg62
  z75 := Tryd.sizeOf62
  v75 := Tryd.zeroValue62
  t167 := Tryd.underlying84
  a167 := Tryd.isAgg84
  z167 := Tryd.sizeOf84
  v167 := Tryd.zeroValue84
  t175 := Tryd.underlying93
  a175 := Tryd.isAgg93
  z175 := Tryd.sizeOf93
  v175 := Tryd.zeroValue93
  t80 := Tryd.underlying116
  a80 := Tryd.isAgg116
  z80 := Tryd.sizeOf116
  v80 := Tryd.zeroValue116
  i0 := by kernel_rfl
  i2 := by kernel_rfl
  i3 := by kernel_rfl
  i4 := by kernel_rfl
  i5 := by kernel_rfl
  i9 := by kernel_rfl
  i21 := by kernel_rfl
  i37 := by kernel_rfl
  i46 := by kernel_rfl
  i53 := by kernel_rfl
  i75 := by kernel_rfl
  i80 := by kernel_rfl
  i167 := by kernel_rfl
  i175 := by kernel_rfl
  c0 := by kernel_rfl
  c2 := by kernel_rfl
  c3 := by kernel_rfl
  c4 := by kernel_rfl
  c5 := by kernel_rfl
  c9 := by kernel_rfl
  c21 := by kernel_rfl
  c37 := by kernel_rfl
  c46 := by kernel_rfl
  c53 := by kernel_rfl
  c75 := by kernel_rfl
  c80 := by kernel_rfl
  c167 := by kernel_rfl
  c175 := by kernel_rfl }
open Go.RowKit in
/-- internal/strconv.ParseInt(s, 10, 0), s NOT EMPTY: 'Lib.atoiAll' OF ITS BYTES: (the number, nil); (0, ErrSyntax); (the greatest or the least int64 by the sign, ErrRange). The world: as it was, or with the one new row that '[]byte(..)' lays. (LAID: no walk: one application.) -/
theorem Tryd.internal_strconv_ParseInt_10 (s : ByteArray) (hne : s.size ≠ 0) (hmax : s.size ≤ 9223372036854775806) (w : World) :
    Calls Tryd.prog 52 #[.string s, .int .i64 10, .int .i64 0] w fun e w' => e = .returned (Lib.intTuple 84 (Lib.atoiSat s.data.toList) (Lib.atoiAll s.data.toList)) ∧ (w' = w ∨ ∃ t, w' = Lib.bytesWorld w 5 t) := Any.internal_strconv_ParseInt_10 Tryd.laysC247 s hne hmax w
def Tryd.laysC244_ren : Go.Shelf.Ren := ⟨fun | 244 => 43 | 247 => 52 | 287 => 61 | 321 => 68 | 322 => 69 | n => n, fun | 9 => 9 | 3 => 3 | 75 => 62 | 4 => 4 | 5 => 5 | 167 => 84 | 37 => 32 | 0 => 0 | 85 => 85 | 2 => 2 | 53 => 92 | 175 => 93 | 46 => 60 | 21 => 21 | 80 => 116 | n => n, fun | n => n⟩
theorem Tryd.laysC244 : Go.Proofs.LaysC.n244 Tryd.prog Tryd.laysC244_ren := {
  mixed := by kernel_rfl
  f244 := Tryd.func43.trans (congrArg some (by kernel_rfl))
  f247 := Tryd.func52.trans (congrArg some (by kernel_rfl))
  f287 := Tryd.func61.trans (congrArg some (by kernel_rfl))
  f321 := Tryd.func68.trans (congrArg some (by kernel_rfl))
  f322 := Tryd.func69.trans (congrArg some (by kernel_rfl))
  t0 := Tryd.underlying0
  a0 := Tryd.isAgg0
  z0 := Tryd.sizeOf0
  v0 := Tryd.zeroValue0
  t2 := Tryd.underlying2
  a2 := Tryd.isAgg2
  z2 := Tryd.sizeOf2
  v2 := Tryd.zeroValue2
  t3 := Tryd.underlying3
  a3 := Tryd.isAgg3
  z3 := Tryd.sizeOf3
  v3 := Tryd.zeroValue3
  t4 := Tryd.underlying4
  a4 := Tryd.isAgg4
  z4 := Tryd.sizeOf4
  v4 := Tryd.zeroValue4
  t5 := Tryd.underlying5
  a5 := Tryd.isAgg5
  z5 := Tryd.sizeOf5
  v5 := Tryd.zeroValue5
  t9 := Tryd.underlying9
  a9 := Tryd.isAgg9
  z9 := Tryd.sizeOf9
  v9 := Tryd.zeroValue9
  t21 := Tryd.underlying21
  a21 := Tryd.isAgg21
  z21 := Tryd.sizeOf21
  v21 := Tryd.zeroValue21
  t37 := Tryd.underlying32
  a37 := Tryd.isAgg32
  z37 := Tryd.sizeOf32
  v37 := Tryd.zeroValue32
  t46 := Tryd.underlying60
  a46 := Tryd.isAgg60
  z46 := Tryd.sizeOf60
  v46 := Tryd.zeroValue60
  t53 := Tryd.underlying92
  a53 := Tryd.isAgg92
  z53 := Tryd.sizeOf92
  v53 := Tryd.zeroValue92
  t75 := Tryd.underlying62
  a75 := Tryd.isAgg62
  z75 := Tryd.sizeOf62
  v75 := Tryd.zeroValue62
  t85 := Tryd.underlying85
  a85 := Tryd.isAgg85
  z85 := Tryd.sizeOf85
  v85 := Tryd.zeroValue85
  t167 := Tryd.underlying84
  a167 := Tryd.isAgg84
  z167 := Tryd.sizeOf84
  v167 := Tryd.zeroValue84
  t175 := Tryd.underlying93
  a175 := Tryd.isAgg93
  z175 := Tryd.sizeOf93
  v175 := Tryd.zeroValue93
  t80 := Tryd.underlying116
  a80 := Tryd.isAgg116
  z80 := Tryd.sizeOf116
  v80 := Tryd.zeroValue116
  i0 := by kernel_rfl
  i2 := by kernel_rfl
  i3 := by kernel_rfl
  i4 := by kernel_rfl
  i5 := by kernel_rfl
  i9 := by kernel_rfl
  i21 := by kernel_rfl
  i37 := by kernel_rfl
  i46 := by kernel_rfl
  i53 := by kernel_rfl
  i75 := by kernel_rfl
  i80 := by kernel_rfl
  i85 := by kernel_rfl
  i167 := by kernel_rfl
  i175 := by kernel_rfl
  c0 := by kernel_rfl
  c2 := by kernel_rfl
  c3 := by kernel_rfl
  c4 := by kernel_rfl
  c5 := by kernel_rfl
  c9 := by kernel_rfl
  c21 := by kernel_rfl
  c37 := by kernel_rfl
  c46 := by kernel_rfl
  c53 := by kernel_rfl
  c75 := by kernel_rfl
  c80 := by kernel_rfl
  c85 := by kernel_rfl
  c167 := by kernel_rfl
  c175 := by kernel_rfl }
open Go.RowKit in
/-- internal/strconv.Atoi, AT EVERY STRING OF 19 BYTES OR MORE: 'Lib.atoiAll' OF ITS BYTES: (the number, nil); (0, ErrSyntax); (the greatest or the least int by the sign, ErrRange). (LAID: no walk: one application.) -/
theorem Tryd.internal_strconv_Atoi_long (s : ByteArray) (h19 : 19 ≤ s.size) (hmax : s.size ≤ 9223372036854775806) (w : World) :
    Calls Tryd.prog 43 #[.string s] w fun e w' => e = .returned (Lib.intTuple 84 (Lib.atoiSat s.data.toList) (Lib.atoiAll s.data.toList)) ∧ (w' = w ∨ ∃ t, w' = Lib.bytesWorld w 5 t) := Any.internal_strconv_Atoi_long Tryd.laysC244 s h19 hmax w
open Go.RowKit in
/-- internal/strconv.Atoi, AT EVERY STRING: 'Lib.atoiAll' OF ITS BYTES: (the number, nil); (0, ErrSyntax); (the greatest or the least int by the sign, ErrRange). The world: as it was, or with the one new row that '[]byte(..)' lays. (LAID: no walk: one application.) -/
theorem Tryd.internal_strconv_Atoi_all (s : ByteArray) (hmax : s.size ≤ 9223372036854775806) (w : World) :
    Calls Tryd.prog 43 #[.string s] w fun e w' => e = .returned (Lib.intTuple 84 (Lib.atoiSat s.data.toList) (Lib.atoiAll s.data.toList)) ∧ (w' = w ∨ ∃ t, w' = Lib.bytesWorld w 5 t) := Any.internal_strconv_Atoi_all Tryd.laysC244 s hmax w
def Tryd.laysM280_ren : Go.Shelf.Ren := ⟨fun | 280 => 54 | 316 => 62 | n => n, fun | 9 => 9 | 168 => 87 | 75 => 62 | 210 => 97 | 3 => 3 | 4 => 4 | 37 => 32 | 0 => 0 | 127 => 105 | 80 => 116 | 5 => 5 | n => n, fun | 16 => 4 | n => n⟩
theorem Tryd.laysM280 : Go.Proofs.LaysM.n280 Tryd.prog Tryd.laysM280_ren := {
  mixed := by kernel_rfl
  f280 := Tryd.func54.trans (congrArg some (by kernel_rfl))
  f316 := Tryd.func62.trans (congrArg some (by kernel_rfl))
  t0 := Tryd.underlying0
  a0 := Tryd.isAgg0
  z0 := Tryd.sizeOf0
  v0 := Tryd.zeroValue0
  t3 := Tryd.underlying3
  a3 := Tryd.isAgg3
  z3 := Tryd.sizeOf3
  v3 := Tryd.zeroValue3
  t4 := Tryd.underlying4
  a4 := Tryd.isAgg4
  z4 := Tryd.sizeOf4
  v4 := Tryd.zeroValue4
  t9 := Tryd.underlying9
  a9 := Tryd.isAgg9
  z9 := Tryd.sizeOf9
  v9 := Tryd.zeroValue9
  t37 := Tryd.underlying32
  a37 := Tryd.isAgg32
  z37 := Tryd.sizeOf32
  v37 := Tryd.zeroValue32
  t75 := Tryd.underlying62
  a75 := Tryd.isAgg62
  z75 := Tryd.sizeOf62
  v75 := Tryd.zeroValue62
  t127 := Tryd.underlying105
  a127 := Tryd.isAgg105
  z127 := Tryd.sizeOf105
  v127 := Tryd.zeroValue105
  t168 := Tryd.underlying87
  a168 := Tryd.isAgg87
  z168 := Tryd.sizeOf87
  v168 := Tryd.zeroValue87
  t210 := Tryd.underlying97
  a210 := Tryd.isAgg97
  z210 := Tryd.sizeOf97
  v210 := Tryd.zeroValue97
  g16 := by kernel_rfl
  t5 := Tryd.underlying5
  a5 := Tryd.isAgg5
  z5 := Tryd.sizeOf5
  v5 := Tryd.zeroValue5
  t80 := Tryd.underlying116
  a80 := Tryd.isAgg116
  z80 := Tryd.sizeOf116
  v80 := Tryd.zeroValue116
  i0 := by kernel_rfl
  i3 := by kernel_rfl
  i4 := by kernel_rfl
  i5 := by kernel_rfl
  i9 := by kernel_rfl
  i37 := by kernel_rfl
  i75 := by kernel_rfl
  i80 := by kernel_rfl
  i127 := by kernel_rfl
  i168 := by kernel_rfl
  i210 := by kernel_rfl
  m16 := by kernel_rfl }
open Go.RowKit in
/-- strconv.rangeError: '&NumError{fn, stringslite.Clone(str), ErrRange}': A POINTER TO A NEW BLOCK that holds fn, str's bytes, and what the variable ErrRange holds. Of what was there nothing has turned. (LAID: no walk: one application.) -/
theorem Tryd.strconv_rangeError (fn s : ByteArray) (ev : Value) (w : World) (hlim : s.size ≤ 281474976710656) (hv : w.cell? ⟨4, 0, none⟩ = some ev) (hev : ev = .nilIface ∨ ∃ te pe, ev = .iface te pe) :
    Calls Tryd.prog 54 #[.string fn, .string s] w fun e w' => ∃ N, e = .returned (.pointer (some ⟨N, 0, none⟩)) ∧ w.heap.size ≤ N ∧ w'.heap[N]? = some (.cells #[.string fn, .string s, ev] 97 (0, 0)) ∧ Below w.heap.size w w' := Any.strconv_rangeError Tryd.laysM280 fn s ev w hlim hv hev
open Go.RowKit in
/-- strconv.toError, at the inner package's ErrRange: 'rangeError(fn, s)' as an error: A *NumError IN A NEW BLOCK. (LAID: no walk: one application.) -/
theorem Tryd.strconv_toError_range (fn s : ByteArray) (base bits : Int) (ev : Value) (w : World) (hlim : s.size ≤ 281474976710656) (hv : w.cell? ⟨4, 0, none⟩ = some ev) (hev : ev = .nilIface ∨ ∃ te pe, ev = .iface te pe) :
    Calls Tryd.prog 44 #[.string fn, .string s, .int .i64 base, .int .i64 bits, .iface 84 (.int .i64 1)] w fun e w' => ∃ N, e = .returned (.iface 87 (.pointer (some ⟨N, 0, none⟩))) ∧ w.heap.size ≤ N ∧ w'.heap[N]? = some (.cells #[.string fn, .string s, ev] 97 (0, 0)) ∧ Below w.heap.size w w' := Any.strconv_toError_range Tryd.laysC245 fn s base bits ev w hlim hv hev
def Tryd.laysC172_ren : Go.Shelf.Ren := ⟨fun | 172 => 34 | 244 => 43 | 245 => 44 | 247 => 52 | 279 => 53 | 280 => 54 | 281 => 55 | 282 => 56 | 287 => 61 | 316 => 62 | 171 => 35 | 205 => 63 | 321 => 68 | 322 => 69 | 243 => 45 | 246 => 57 | 283 => 64 | 284 => 65 | 285 => 66 | 286 => 67 | 129 => 71 | 317 => 70 | 318 => 72 | 319 => 73 | 320 => 74 | 337 => 75 | 338 => 76 | n => n, fun | 9 => 9 | 3 => 3 | 75 => 62 | 76 => 63 | 4 => 4 | 5 => 5 | 167 => 84 | 37 => 32 | 0 => 0 | 85 => 85 | 2 => 2 | 168 => 87 | 53 => 92 | 175 => 93 | 46 => 60 | 210 => 97 | 127 => 105 | 145 => 108 | 143 => 106 | 21 => 21 | 171 => 99 | 173 => 102 | 212 => 110 | 51 => 68 | 20 => 20 | 213 => 111 | 232 => 114 | 233 => 115 | 80 => 116 | n => n, fun | 15 => 3 | 16 => 4 | 17 => 5 | 18 => 6 | 19 => 7 | n => n⟩
theorem Tryd.laysC172 : Go.Proofs.LaysC.n172 Tryd.prog Tryd.laysC172_ren := {
  mixed := by kernel_rfl
  f129 := Tryd.func71.trans (congrArg some (by kernel_rfl))
  f171 := Tryd.func35.trans (congrArg some (by kernel_rfl))
  f172 := Tryd.func34.trans (congrArg some (by kernel_rfl))
  f205 := Tryd.func63.trans (congrArg some (by kernel_rfl))
  f243 := Tryd.func45.trans (congrArg some (by kernel_rfl))
  f244 := Tryd.func43.trans (congrArg some (by kernel_rfl))
  f245 := Tryd.func44.trans (congrArg some (by kernel_rfl))
  f246 := Tryd.func57.trans (congrArg some (by kernel_rfl))
  f247 := Tryd.func52.trans (congrArg some (by kernel_rfl))
  f279 := Tryd.func53.trans (congrArg some (by kernel_rfl))
  f280 := Tryd.func54.trans (congrArg some (by kernel_rfl))
  f281 := Tryd.func55.trans (congrArg some (by kernel_rfl))
  f282 := Tryd.func56.trans (congrArg some (by kernel_rfl))
  f283 := Tryd.func64.trans (congrArg some (by kernel_rfl))
  f284 := Tryd.func65.trans (congrArg some (by kernel_rfl))
  f285 := Tryd.func66.trans (congrArg some (by kernel_rfl))
  f286 := Tryd.func67.trans (congrArg some (by kernel_rfl))
  f287 := Tryd.func61.trans (congrArg some (by kernel_rfl))
  f316 := Tryd.func62.trans (congrArg some (by kernel_rfl))
  f317 := Tryd.func70.trans (congrArg some (by kernel_rfl))
  f318 := Tryd.func72.trans (congrArg some (by kernel_rfl))
  f319 := Tryd.func73.trans (congrArg some (by kernel_rfl))
  f320 := Tryd.func74.trans (congrArg some (by kernel_rfl))
  f321 := Tryd.func68.trans (congrArg some (by kernel_rfl))
  f322 := Tryd.func69.trans (congrArg some (by kernel_rfl))
  f337 := Tryd.func75.trans (congrArg some (by kernel_rfl))
  f338 := Tryd.func76.trans (congrArg some (by kernel_rfl))
  t0 := Tryd.underlying0
  a0 := Tryd.isAgg0
  z0 := Tryd.sizeOf0
  v0 := Tryd.zeroValue0
  t2 := Tryd.underlying2
  a2 := Tryd.isAgg2
  z2 := Tryd.sizeOf2
  v2 := Tryd.zeroValue2
  t3 := Tryd.underlying3
  a3 := Tryd.isAgg3
  z3 := Tryd.sizeOf3
  v3 := Tryd.zeroValue3
  t4 := Tryd.underlying4
  a4 := Tryd.isAgg4
  z4 := Tryd.sizeOf4
  v4 := Tryd.zeroValue4
  t5 := Tryd.underlying5
  a5 := Tryd.isAgg5
  z5 := Tryd.sizeOf5
  v5 := Tryd.zeroValue5
  t9 := Tryd.underlying9
  a9 := Tryd.isAgg9
  z9 := Tryd.sizeOf9
  v9 := Tryd.zeroValue9
  t20 := Tryd.underlying20
  a20 := Tryd.isAgg20
  z20 := Tryd.sizeOf20
  v20 := Tryd.zeroValue20
  t21 := Tryd.underlying21
  a21 := Tryd.isAgg21
  z21 := Tryd.sizeOf21
  v21 := Tryd.zeroValue21
  t37 := Tryd.underlying32
  a37 := Tryd.isAgg32
  z37 := Tryd.sizeOf32
  v37 := Tryd.zeroValue32
  t46 := Tryd.underlying60
  a46 := Tryd.isAgg60
  z46 := Tryd.sizeOf60
  v46 := Tryd.zeroValue60
  t51 := Tryd.underlying68
  a51 := Tryd.isAgg68
  z51 := Tryd.sizeOf68
  v51 := Tryd.zeroValue68
  t53 := Tryd.underlying92
  a53 := Tryd.isAgg92
  z53 := Tryd.sizeOf92
  v53 := Tryd.zeroValue92
  t75 := Tryd.underlying62
  a75 := Tryd.isAgg62
  z75 := Tryd.sizeOf62
  v75 := Tryd.zeroValue62
  t76 := Tryd.underlying63
  a76 := Tryd.isAgg63
  z76 := Tryd.sizeOf63
  v76 := Tryd.zeroValue63
  t85 := Tryd.underlying85
  a85 := Tryd.isAgg85
  z85 := Tryd.sizeOf85
  v85 := Tryd.zeroValue85
  t127 := Tryd.underlying105
  a127 := Tryd.isAgg105
  z127 := Tryd.sizeOf105
  v127 := Tryd.zeroValue105
  t143 := Tryd.underlying106
  a143 := Tryd.isAgg106
  z143 := Tryd.sizeOf106
  v143 := Tryd.zeroValue106
  t145 := Tryd.underlying108
  a145 := Tryd.isAgg108
  z145 := Tryd.sizeOf108
  v145 := Tryd.zeroValue108
  t167 := Tryd.underlying84
  a167 := Tryd.isAgg84
  z167 := Tryd.sizeOf84
  v167 := Tryd.zeroValue84
  t168 := Tryd.underlying87
  a168 := Tryd.isAgg87
  z168 := Tryd.sizeOf87
  v168 := Tryd.zeroValue87
  t171 := Tryd.underlying99
  a171 := Tryd.isAgg99
  z171 := Tryd.sizeOf99
  v171 := Tryd.zeroValue99
  t173 := Tryd.underlying102
  a173 := Tryd.isAgg102
  z173 := Tryd.sizeOf102
  v173 := Tryd.zeroValue102
  t175 := Tryd.underlying93
  a175 := Tryd.isAgg93
  z175 := Tryd.sizeOf93
  v175 := Tryd.zeroValue93
  t210 := Tryd.underlying97
  a210 := Tryd.isAgg97
  z210 := Tryd.sizeOf97
  v210 := Tryd.zeroValue97
  t212 := Tryd.underlying110
  a212 := Tryd.isAgg110
  z212 := Tryd.sizeOf110
  v212 := Tryd.zeroValue110
  t213 := Tryd.underlying111
  a213 := Tryd.isAgg111
  z213 := Tryd.sizeOf111
  t232 := Tryd.underlying114
  a232 := Tryd.isAgg114
  z232 := Tryd.sizeOf114
  v232 := Tryd.zeroValue114
  t233 := Tryd.underlying115
  a233 := Tryd.isAgg115
  z233 := Tryd.sizeOf115
  v233 := Tryd.zeroValue115
  g15 := by kernel_rfl
  g16 := by kernel_rfl
  g17 := by kernel_rfl
  g18 := by kernel_rfl
  g19 := by kernel_rfl
  t80 := Tryd.underlying116
  a80 := Tryd.isAgg116
  z80 := Tryd.sizeOf116
  v80 := Tryd.zeroValue116
  i0 := by kernel_rfl
  i2 := by kernel_rfl
  i3 := by kernel_rfl
  i4 := by kernel_rfl
  i5 := by kernel_rfl
  i9 := by kernel_rfl
  i20 := by kernel_rfl
  i21 := by kernel_rfl
  i37 := by kernel_rfl
  i46 := by kernel_rfl
  i51 := by kernel_rfl
  i53 := by kernel_rfl
  i75 := by kernel_rfl
  i76 := by kernel_rfl
  i80 := by kernel_rfl
  i85 := by kernel_rfl
  i127 := by kernel_rfl
  i143 := by kernel_rfl
  i145 := by kernel_rfl
  i167 := by kernel_rfl
  i168 := by kernel_rfl
  i171 := by kernel_rfl
  i173 := by kernel_rfl
  i175 := by kernel_rfl
  i210 := by kernel_rfl
  i212 := by kernel_rfl
  i232 := by kernel_rfl
  i233 := by kernel_rfl
  m15 := by kernel_rfl
  m16 := by kernel_rfl
  m17 := by kernel_rfl
  m18 := by kernel_rfl
  m19 := by kernel_rfl
  c0 := by kernel_rfl
  c2 := by kernel_rfl
  c3 := by kernel_rfl
  c4 := by kernel_rfl
  c5 := by kernel_rfl
  c9 := by kernel_rfl
  c20 := by kernel_rfl
  c21 := by kernel_rfl
  c37 := by kernel_rfl
  c46 := by kernel_rfl
  c51 := by kernel_rfl
  c53 := by kernel_rfl
  c75 := by kernel_rfl
  c76 := by kernel_rfl
  c80 := by kernel_rfl
  c85 := by kernel_rfl
  c127 := by kernel_rfl
  c143 := by kernel_rfl
  c145 := by kernel_rfl
  c167 := by kernel_rfl
  c168 := by kernel_rfl
  c171 := by kernel_rfl
  c173 := by kernel_rfl
  c175 := by kernel_rfl
  c210 := by kernel_rfl
  c212 := by kernel_rfl
  c213 := by kernel_rfl
  c232 := by kernel_rfl
  c233 := by kernel_rfl }
open Go.RowKit in
/-- strconv.Atoi, AT EVERY STRING THAT SPELLS AN int ('Lib.atoiAll .. = .ok v'; of whatever length: leading zeros count): v, AND NO ERROR. The world: as it was, or with the one new row that '[]byte(..)' lays. (LAID: no walk: one application.) -/
theorem Tryd.strconv_Atoi_ok (s : ByteArray) (hmax : s.size ≤ 9223372036854775806) (v : Int) (h : Lib.atoiAll s.data.toList = .ok v) (w : World) :
    Calls Tryd.prog 34 #[.string s] w fun e w' => e = .returned (.tuple #[.int .i64 v, .nilIface]) ∧ (w' = w ∨ ∃ t, w' = Lib.bytesWorld w 5 t) := Any.strconv_Atoi_ok Tryd.laysC172 s hmax v h w
open Go.RowKit in
/-- strconv.Atoi, AT EVERY STRING THAT IS NO DECIMAL NUMERAL ('.syntax'): 0, AND AN ERROR THAT IS NOT nil: a *NumError in a new block N: {Func: "Atoi", Num: s's bytes, Err: what the variable ErrSyntax holds}. Of what was there nothing has turned. (LAID: no walk: one application.) -/
theorem Tryd.strconv_Atoi_syntax (s : ByteArray) (hlim : s.size ≤ 281474976710656) (h : Lib.atoiAll s.data.toList = .«syntax») (ev : Value) (w : World) (hv : w.cell? ⟨3, 0, none⟩ = some ev) (hev : ev = .nilIface ∨ ∃ te pe, ev = .iface te pe) :
    Calls Tryd.prog 34 #[.string s] w fun e w' => ∃ N, e = .returned (.tuple #[.int .i64 (0), .iface 87 (.pointer (some ⟨N, 0, none⟩))]) ∧ w.heap.size ≤ N ∧ w'.heap[N]? = some (.cells #[.string ⟨#[65, 116, 111, 105]⟩, .string s, ev] 97 (0, 0)) ∧ Below w.heap.size w w' := Any.strconv_Atoi_syntax Tryd.laysC172 s hlim h ev w hv hev
open Go.RowKit in
/-- strconv.Atoi, AT EVERY NUMERAL THAT NO int HOLDS ('.range'): THE GREATEST OR THE LEAST int, BY THE SIGN ('Lib.atoiSat'), AND AN ERROR THAT IS NOT nil: a *NumError in a new block N: {Func: "Atoi", Num: s's bytes, Err: what the variable ErrRange holds}. Of what was there nothing has turned. (LAID: no walk: one application.) -/
theorem Tryd.strconv_Atoi_range (s : ByteArray) (hlim : s.size ≤ 281474976710656) (h : Lib.atoiAll s.data.toList = .range) (ev : Value) (w : World) (hv : w.cell? ⟨4, 0, none⟩ = some ev) (hev : ev = .nilIface ∨ ∃ te pe, ev = .iface te pe) :
    Calls Tryd.prog 34 #[.string s] w fun e w' => ∃ N, e = .returned (.tuple #[.int .i64 (Lib.atoiSat s.data.toList), .iface 87 (.pointer (some ⟨N, 0, none⟩))]) ∧ w.heap.size ≤ N ∧ w'.heap[N]? = some (.cells #[.string ⟨#[65, 116, 111, 105]⟩, .string s, ev] 97 (0, 0)) ∧ Below w.heap.size w w' := Any.strconv_Atoi_range Tryd.laysC172 s hlim h ev w hv hev
def Tryd.lays217_ren : Go.Shelf.Ren := ⟨fun | 217 => 29 | 266 => 40 | n => n, fun | 9 => 9 | 5 => 5 | 3 => 3 | n => n, fun | n => n⟩
theorem Tryd.lays217 : Go.Proofs.Lays.n217 Tryd.prog Tryd.lays217_ren := {
  mixed := by kernel_rfl
  f217 := Tryd.func29.trans (congrArg some (by kernel_rfl))
  f266 := Tryd.func40.trans (congrArg some (by kernel_rfl))
  t3 := Tryd.underlying3
  a3 := Tryd.isAgg3
  z3 := Tryd.sizeOf3
  v3 := Tryd.zeroValue3
  t5 := Tryd.underlying5
  a5 := Tryd.isAgg5
  z5 := Tryd.sizeOf5
  v5 := Tryd.zeroValue5
  t9 := Tryd.underlying9
  a9 := Tryd.isAgg9
  z9 := Tryd.sizeOf9
  v9 := Tryd.zeroValue9 }
open Go.RowKit Go.Lib in
/-- internal/stringslite.IndexByte (what strings.IndexByte calls): IT RETURNS 'Lib.indexByte s c'; the world is as it was. (LAID: no walk: one application.) -/
theorem Tryd.stringslite_IndexByte (s : ByteArray) (c : Int) (w : World) :
    Calls Tryd.prog 29 #[.string s, .int .u8 c] w fun e w' => e = .returned (.int .i64 (Lib.indexByte s.data.toList c.toNat.toUInt8)) ∧ w' = w := Any.stringslite_IndexByte Tryd.lays217 s c w
def Tryd.lays224_ren : Go.Shelf.Ren := ⟨fun | 224 => 31 | n => n, fun | 3 => 3 | n => n, fun | n => n⟩
theorem Tryd.lays224 : Go.Proofs.Lays.n224 Tryd.prog Tryd.lays224_ren := {
  mixed := by kernel_rfl
  f224 := Tryd.func31.trans (congrArg some (by kernel_rfl))
  t3 := Tryd.underlying3
  a3 := Tryd.isAgg3
  z3 := Tryd.sizeOf3
  v3 := Tryd.zeroValue3 }
open Go.RowKit Go.Lib in
/-- internal/bytealg.Cutover: "Cutover reports the number of failures of IndexByte we should tolerate before switching over to Index. n is the number of bytes processed so far.": on amd64: (n + 16) / 8. (LAID: no walk: one application.) -/
theorem Tryd.bytealg_Cutover (n : Int) (h0 : 0 ≤ n) (h1 : n < 4611686018427387904) (w : World) :
    Calls Tryd.prog 31 #[.int .i64 n] w fun e w' => e = .returned (.int .i64 ((n + 16) / 8)) ∧ w' = w := Any.bytealg_Cutover Tryd.lays224 n h0 h1 w
def Tryd.lays314_ren : Go.Shelf.Ren := ⟨fun | 314 => 41 | n => n, fun | 9 => 9 | 51 => 68 | 3 => 3 | 4 => 4 | 5 => 5 | 46 => 60 | n => n, fun | n => n⟩
theorem Tryd.lays314 : Go.Proofs.Lays.n314 Tryd.prog Tryd.lays314_ren := {
  mixed := by kernel_rfl
  f314 := Tryd.func41.trans (congrArg some (by kernel_rfl))
  t3 := Tryd.underlying3
  a3 := Tryd.isAgg3
  z3 := Tryd.sizeOf3
  v3 := Tryd.zeroValue3
  t4 := Tryd.underlying4
  a4 := Tryd.isAgg4
  z4 := Tryd.sizeOf4
  v4 := Tryd.zeroValue4
  t5 := Tryd.underlying5
  a5 := Tryd.isAgg5
  z5 := Tryd.sizeOf5
  v5 := Tryd.zeroValue5
  t9 := Tryd.underlying9
  a9 := Tryd.isAgg9
  z9 := Tryd.sizeOf9
  v9 := Tryd.zeroValue9
  t46 := Tryd.underlying60
  a46 := Tryd.isAgg60
  z46 := Tryd.sizeOf60
  v46 := Tryd.zeroValue60
  t51 := Tryd.underlying68
  a51 := Tryd.isAgg68
  z51 := Tryd.sizeOf68
  v51 := Tryd.zeroValue68 }
open Go.RowKit Go.Lib in
/-- hashStr: "returns the hash and the appropriate multiplicative factor for use in Rabin-Karp algorithm": THE HASH OF ALL OF sep, AND 16777619 ^ len(sep), both in uint32. (LAID: no walk: one application.) -/
theorem Tryd.bytealg_hashStr (sep : ByteArray) (hs : sep.size < 4294967281) (w : World) :
    Calls Tryd.prog 41 #[.string sep] w fun e w' => e = .returned (.tuple #[.int .u32 (RK.H sep.data.toList % 4294967296), .int .u32 (16777619 ^ sep.size % 4294967296)]) ∧ w' = w := Any.bytealg_hashStr Tryd.lays314 sep hs w
def Tryd.lays267_ren : Go.Shelf.Ren := ⟨fun | 267 => 32 | 314 => 41 | n => n, fun | 9 => 9 | 3 => 3 | 146 => 69 | 51 => 68 | 4 => 4 | 5 => 5 | 46 => 60 | n => n, fun | n => n⟩
theorem Tryd.lays267 : Go.Proofs.Lays.n267 Tryd.prog Tryd.lays267_ren := {
  mixed := by kernel_rfl
  f267 := Tryd.func32.trans (congrArg some (by kernel_rfl))
  f314 := Tryd.func41.trans (congrArg some (by kernel_rfl))
  t3 := Tryd.underlying3
  a3 := Tryd.isAgg3
  z3 := Tryd.sizeOf3
  v3 := Tryd.zeroValue3
  t4 := Tryd.underlying4
  a4 := Tryd.isAgg4
  z4 := Tryd.sizeOf4
  v4 := Tryd.zeroValue4
  t5 := Tryd.underlying5
  a5 := Tryd.isAgg5
  z5 := Tryd.sizeOf5
  v5 := Tryd.zeroValue5
  t9 := Tryd.underlying9
  a9 := Tryd.isAgg9
  z9 := Tryd.sizeOf9
  v9 := Tryd.zeroValue9
  t46 := Tryd.underlying60
  a46 := Tryd.isAgg60
  z46 := Tryd.sizeOf60
  v46 := Tryd.zeroValue60
  t51 := Tryd.underlying68
  a51 := Tryd.isAgg68
  z51 := Tryd.sizeOf68
  v51 := Tryd.zeroValue68
  t146 := Tryd.underlying69
  a146 := Tryd.isAgg69
  z146 := Tryd.sizeOf69
  v146 := Tryd.zeroValue69 }
open Go.RowKit Go.Lib in
theorem Tryd.bytealg_IndexRabinKarp (s sep : ByteArray) (h1 : 1 ≤ sep.size) (h2 : sep.size ≤ s.size) (hs : s.size < 4294967281) (w : World) :
    Calls Tryd.prog 32 #[.string s, .string sep] w fun e w' => e = .returned (.int .i64 (Lib.index s.data.toList sep.data.toList)) ∧ w' = w := Any.bytealg_IndexRabinKarp Tryd.lays267 s sep h1 h2 hs w
def Tryd.lays219_ren : Go.Shelf.Ren := ⟨fun | 219 => 21 | 217 => 29 | 225 => 30 | 224 => 31 | 267 => 32 | 266 => 40 | 314 => 41 | n => n, fun | 9 => 9 | 3 => 3 | 4 => 4 | 5 => 5 | 46 => 60 | 146 => 69 | 51 => 68 | n => n, fun | 1 => 0 | n => n⟩
theorem Tryd.lays219 : Go.Proofs.Lays.n219 Tryd.prog Tryd.lays219_ren := {
  mixed := by kernel_rfl
  f217 := Tryd.func29.trans (congrArg some (by kernel_rfl))
  f219 := Tryd.func21.trans (congrArg some (by kernel_rfl))
  f224 := Tryd.func31.trans (congrArg some (by kernel_rfl))
  f225 := Tryd.func30.trans (congrArg some (by kernel_rfl))
  f266 := Tryd.func40.trans (congrArg some (by kernel_rfl))
  f267 := Tryd.func32.trans (congrArg some (by kernel_rfl))
  f314 := Tryd.func41.trans (congrArg some (by kernel_rfl))
  t3 := Tryd.underlying3
  a3 := Tryd.isAgg3
  z3 := Tryd.sizeOf3
  v3 := Tryd.zeroValue3
  t4 := Tryd.underlying4
  a4 := Tryd.isAgg4
  z4 := Tryd.sizeOf4
  v4 := Tryd.zeroValue4
  t5 := Tryd.underlying5
  a5 := Tryd.isAgg5
  z5 := Tryd.sizeOf5
  v5 := Tryd.zeroValue5
  t9 := Tryd.underlying9
  a9 := Tryd.isAgg9
  z9 := Tryd.sizeOf9
  v9 := Tryd.zeroValue9
  t46 := Tryd.underlying60
  a46 := Tryd.isAgg60
  z46 := Tryd.sizeOf60
  v46 := Tryd.zeroValue60
  t51 := Tryd.underlying68
  a51 := Tryd.isAgg68
  z51 := Tryd.sizeOf68
  v51 := Tryd.zeroValue68
  t146 := Tryd.underlying69
  a146 := Tryd.isAgg69
  z146 := Tryd.sizeOf69
  v146 := Tryd.zeroValue69
  g1 := by kernel_rfl }
open Go.RowKit Go.Lib in
/-- internal/stringslite.Index (what strings.Index calls) AT A substr OF ONE BYTE c: IT RETURNS 'Lib.indexByte s c'; the world is as it was. (LAID: no walk: one application.) -/
theorem Tryd.stringslite_Index_one (s : ByteArray) (c : UInt8) (w : World) :
    Calls Tryd.prog 21 #[.string s, .string ⟨#[c]⟩] w fun e w' => e = .returned (.int .i64 (Lib.indexByte s.data.toList c)) ∧ w' = w := Any.stringslite_Index_one Tryd.lays219 s c w
open Go.RowKit Go.Lib in
/-- internal/stringslite.Index (what strings.Index calls) AT A substr OF WHATEVER LENGTH: IT RETURNS 'Lib.index s substr'; the world is as it was. 'm': what internal/bytealg.MaxLen holds: whatever. (LAID: no walk: one application.) -/
theorem Tryd.stringslite_Index (s sub : ByteArray) (m : Int) (w : World) (hs : s.size < 4294967281) (hm : w.cell? ⟨0, 0, none⟩ = some (.int .i64 m)) :
    Calls Tryd.prog 21 #[.string s, .string sub] w fun e w' => e = .returned (.int .i64 (Lib.index s.data.toList sub.data.toList)) ∧ w' = w := Any.stringslite_Index Tryd.lays219 s sub m w hs hm
def Tryd.lays143_ren : Go.Shelf.Ren := ⟨fun | 143 => 14 | 219 => 21 | 217 => 29 | 225 => 30 | 224 => 31 | 267 => 32 | 266 => 40 | 314 => 41 | n => n, fun | 9 => 9 | 3 => 3 | 4 => 4 | 5 => 5 | 46 => 60 | 146 => 69 | 51 => 68 | n => n, fun | 1 => 0 | n => n⟩
theorem Tryd.lays143 : Go.Proofs.Lays.n143 Tryd.prog Tryd.lays143_ren := {
  mixed := by kernel_rfl
  f143 := Tryd.func14.trans (congrArg some (by kernel_rfl))
  f217 := Tryd.func29.trans (congrArg some (by kernel_rfl))
  f219 := Tryd.func21.trans (congrArg some (by kernel_rfl))
  f224 := Tryd.func31.trans (congrArg some (by kernel_rfl))
  f225 := Tryd.func30.trans (congrArg some (by kernel_rfl))
  f266 := Tryd.func40.trans (congrArg some (by kernel_rfl))
  f267 := Tryd.func32.trans (congrArg some (by kernel_rfl))
  f314 := Tryd.func41.trans (congrArg some (by kernel_rfl))
  t3 := Tryd.underlying3
  a3 := Tryd.isAgg3
  z3 := Tryd.sizeOf3
  v3 := Tryd.zeroValue3
  t4 := Tryd.underlying4
  a4 := Tryd.isAgg4
  z4 := Tryd.sizeOf4
  v4 := Tryd.zeroValue4
  t5 := Tryd.underlying5
  a5 := Tryd.isAgg5
  z5 := Tryd.sizeOf5
  v5 := Tryd.zeroValue5
  t9 := Tryd.underlying9
  a9 := Tryd.isAgg9
  z9 := Tryd.sizeOf9
  v9 := Tryd.zeroValue9
  t46 := Tryd.underlying60
  a46 := Tryd.isAgg60
  z46 := Tryd.sizeOf60
  v46 := Tryd.zeroValue60
  t51 := Tryd.underlying68
  a51 := Tryd.isAgg68
  z51 := Tryd.sizeOf68
  v51 := Tryd.zeroValue68
  t146 := Tryd.underlying69
  a146 := Tryd.isAgg69
  z146 := Tryd.sizeOf69
  v146 := Tryd.zeroValue69
  g1 := by kernel_rfl }
open Go.RowKit Go.Lib in
/-- strings.Index: "Index returns the index of the first instance of substr in s, or -1 if substr is not present in s.": AT A substr OF ONE BYTE c: IT RETURNS 'Lib.indexByte s c'; the world is as it was. (LAID: no walk: one application.) -/
theorem Tryd.strings_Index_one (s : ByteArray) (c : UInt8) (w : World) :
    Calls Tryd.prog 14 #[.string s, .string ⟨#[c]⟩] w fun e w' => e = .returned (.int .i64 (Lib.indexByte s.data.toList c)) ∧ w' = w := Any.strings_Index_one Tryd.lays143 s c w
open Go.RowKit Go.Lib in
/-- strings.Index: "Index returns the index of the first instance of substr in s, or -1 if substr is not present in s.": IT RETURNS 'Lib.index s substr'; the world is as it was. (LAID: no walk: one application.) -/
theorem Tryd.strings_Index (s sub : ByteArray) (m : Int) (w : World) (hs : s.size < 4294967281) (hm : w.cell? ⟨0, 0, none⟩ = some (.int .i64 m)) :
    Calls Tryd.prog 14 #[.string s, .string sub] w fun e w' => e = .returned (.int .i64 (Lib.index s.data.toList sub.data.toList)) ∧ w' = w := Any.strings_Index Tryd.lays143 s sub m w hs hm
def Tryd.lays138_ren : Go.Shelf.Ren := ⟨fun | 138 => 20 | 195 => 26 | 218 => 28 | 143 => 14 | 219 => 21 | 217 => 29 | 225 => 30 | 224 => 31 | 267 => 32 | 266 => 40 | 314 => 41 | n => n, fun | 9 => 9 | 3 => 3 | 4 => 4 | 5 => 5 | 0 => 0 | 46 => 60 | 146 => 69 | 51 => 68 | n => n, fun | 1 => 0 | n => n⟩
theorem Tryd.lays138 : Go.Proofs.Lays.n138 Tryd.prog Tryd.lays138_ren := {
  mixed := by kernel_rfl
  f138 := Tryd.func20.trans (congrArg some (by kernel_rfl))
  f143 := Tryd.func14.trans (congrArg some (by kernel_rfl))
  f195 := Tryd.func26.trans (congrArg some (by kernel_rfl))
  f217 := Tryd.func29.trans (congrArg some (by kernel_rfl))
  f218 := Tryd.func28.trans (congrArg some (by kernel_rfl))
  f219 := Tryd.func21.trans (congrArg some (by kernel_rfl))
  f224 := Tryd.func31.trans (congrArg some (by kernel_rfl))
  f225 := Tryd.func30.trans (congrArg some (by kernel_rfl))
  f266 := Tryd.func40.trans (congrArg some (by kernel_rfl))
  f267 := Tryd.func32.trans (congrArg some (by kernel_rfl))
  f314 := Tryd.func41.trans (congrArg some (by kernel_rfl))
  t0 := Tryd.underlying0
  a0 := Tryd.isAgg0
  z0 := Tryd.sizeOf0
  v0 := Tryd.zeroValue0
  t3 := Tryd.underlying3
  a3 := Tryd.isAgg3
  z3 := Tryd.sizeOf3
  v3 := Tryd.zeroValue3
  t4 := Tryd.underlying4
  a4 := Tryd.isAgg4
  z4 := Tryd.sizeOf4
  v4 := Tryd.zeroValue4
  t5 := Tryd.underlying5
  a5 := Tryd.isAgg5
  z5 := Tryd.sizeOf5
  v5 := Tryd.zeroValue5
  t9 := Tryd.underlying9
  a9 := Tryd.isAgg9
  z9 := Tryd.sizeOf9
  v9 := Tryd.zeroValue9
  t46 := Tryd.underlying60
  a46 := Tryd.isAgg60
  z46 := Tryd.sizeOf60
  v46 := Tryd.zeroValue60
  t51 := Tryd.underlying68
  a51 := Tryd.isAgg68
  z51 := Tryd.sizeOf68
  v51 := Tryd.zeroValue68
  t146 := Tryd.underlying69
  a146 := Tryd.isAgg69
  z146 := Tryd.sizeOf69
  v146 := Tryd.zeroValue69
  g1 := by kernel_rfl }
open Go.RowKit Go.Lib in
/-- strings.Count AT A substr OF ONE BYTE ('hp'): "Count counts the number of non-overlapping instances of substr in s.": IT RETURNS 'Lib.countByte s (that byte)'; the world is as it was. ✋ NO CONTRACT HERE YET at an empty substr (utf8.RuneCountInString) or at a longer one (a loop over strings.Index). (LAID: no walk: one application.) -/
theorem Tryd.strings_Count_one (s : ByteArray) (c : UInt8) (w : World) :
    Calls Tryd.prog 20 #[.string s, .string ⟨#[c]⟩] w fun e w' => e = .returned (.int .i64 (Lib.countByte s.data.toList c)) ∧ w' = w := Any.strings_Count_one Tryd.lays138 s c w
open Go.RowKit Go.Lib in
/-- strings.Count AT A substr OF TWO BYTES OR MORE: "Count counts the number of non-overlapping instances of substr in s.": IT RETURNS 'Lib.count s substr'; the world is as it was. (LAID: no walk: one application.) -/
theorem Tryd.strings_Count (s sub : ByteArray) (m : Int) (w : World) (hs : s.size < 4294967281) (hm : w.cell? ⟨0, 0, none⟩ = some (.int .i64 m)) (h2 : 2 ≤ sub.size) :
    Calls Tryd.prog 20 #[.string s, .string sub] w fun e w' => e = .returned (.int .i64 (Lib.countB s sub)) ∧ w' = w := Any.strings_Count Tryd.lays138 s sub m w hs hm h2
def Tryd.laysM219_ren : Go.Shelf.Ren := ⟨fun | 219 => 21 | 217 => 29 | 225 => 30 | 224 => 31 | 267 => 32 | 266 => 40 | 314 => 41 | n => n, fun | 9 => 9 | 3 => 3 | 4 => 4 | 5 => 5 | 46 => 60 | 146 => 69 | 51 => 68 | n => n, fun | 1 => 0 | n => n⟩
theorem Tryd.laysM219 : Go.Proofs.LaysM.n219 Tryd.prog Tryd.laysM219_ren := {
  mixed := by kernel_rfl
  f217 := Tryd.func29.trans (congrArg some (by kernel_rfl))
  f219 := Tryd.func21.trans (congrArg some (by kernel_rfl))
  f224 := Tryd.func31.trans (congrArg some (by kernel_rfl))
  f225 := Tryd.func30.trans (congrArg some (by kernel_rfl))
  f266 := Tryd.func40.trans (congrArg some (by kernel_rfl))
  f267 := Tryd.func32.trans (congrArg some (by kernel_rfl))
  f314 := Tryd.func41.trans (congrArg some (by kernel_rfl))
  t3 := Tryd.underlying3
  a3 := Tryd.isAgg3
  z3 := Tryd.sizeOf3
  v3 := Tryd.zeroValue3
  t4 := Tryd.underlying4
  a4 := Tryd.isAgg4
  z4 := Tryd.sizeOf4
  v4 := Tryd.zeroValue4
  t5 := Tryd.underlying5
  a5 := Tryd.isAgg5
  z5 := Tryd.sizeOf5
  v5 := Tryd.zeroValue5
  t9 := Tryd.underlying9
  a9 := Tryd.isAgg9
  z9 := Tryd.sizeOf9
  v9 := Tryd.zeroValue9
  t46 := Tryd.underlying60
  a46 := Tryd.isAgg60
  z46 := Tryd.sizeOf60
  v46 := Tryd.zeroValue60
  t51 := Tryd.underlying68
  a51 := Tryd.isAgg68
  z51 := Tryd.sizeOf68
  v51 := Tryd.zeroValue68
  t146 := Tryd.underlying69
  a146 := Tryd.isAgg69
  z146 := Tryd.sizeOf69
  v146 := Tryd.zeroValue69
  g1 := by kernel_rfl
  i3 := by kernel_rfl
  i4 := by kernel_rfl
  i5 := by kernel_rfl
  i9 := by kernel_rfl
  i46 := by kernel_rfl
  i51 := by kernel_rfl
  i146 := by kernel_rfl
  m1 := by kernel_rfl
  s1_3 := fun w h => Go.Proofs.cell_of_shapedOpen_int (zero := #[.int .i64 0]) (t := 3) h (of_decide_eq_true (by kernel_rfl)) (by kernel_rfl) rfl (by kernel_rfl) (by kernel_rfl) Tryd.underlying3 }
open Go.RowKit Go.Lib in
theorem Tryd.stringslite_Index_shaped (s sub : ByteArray) (w : World) (h : w.ShapedOpen Tryd.prog) (hs : s.size < 4294967281) :
    Calls Tryd.prog 21 #[.string s, .string sub] w fun e w' => e = .returned (.int .i64 (Lib.index s.data.toList sub.data.toList)) ∧ w' = w := Any.stringslite_Index_shaped Tryd.laysM219 s sub w h hs
def Tryd.laysM143_ren : Go.Shelf.Ren := ⟨fun | 143 => 14 | 219 => 21 | 217 => 29 | 225 => 30 | 224 => 31 | 267 => 32 | 266 => 40 | 314 => 41 | n => n, fun | 9 => 9 | 3 => 3 | 4 => 4 | 5 => 5 | 46 => 60 | 146 => 69 | 51 => 68 | n => n, fun | 1 => 0 | n => n⟩
theorem Tryd.laysM143 : Go.Proofs.LaysM.n143 Tryd.prog Tryd.laysM143_ren := {
  mixed := by kernel_rfl
  f143 := Tryd.func14.trans (congrArg some (by kernel_rfl))
  f217 := Tryd.func29.trans (congrArg some (by kernel_rfl))
  f219 := Tryd.func21.trans (congrArg some (by kernel_rfl))
  f224 := Tryd.func31.trans (congrArg some (by kernel_rfl))
  f225 := Tryd.func30.trans (congrArg some (by kernel_rfl))
  f266 := Tryd.func40.trans (congrArg some (by kernel_rfl))
  f267 := Tryd.func32.trans (congrArg some (by kernel_rfl))
  f314 := Tryd.func41.trans (congrArg some (by kernel_rfl))
  t3 := Tryd.underlying3
  a3 := Tryd.isAgg3
  z3 := Tryd.sizeOf3
  v3 := Tryd.zeroValue3
  t4 := Tryd.underlying4
  a4 := Tryd.isAgg4
  z4 := Tryd.sizeOf4
  v4 := Tryd.zeroValue4
  t5 := Tryd.underlying5
  a5 := Tryd.isAgg5
  z5 := Tryd.sizeOf5
  v5 := Tryd.zeroValue5
  t9 := Tryd.underlying9
  a9 := Tryd.isAgg9
  z9 := Tryd.sizeOf9
  v9 := Tryd.zeroValue9
  t46 := Tryd.underlying60
  a46 := Tryd.isAgg60
  z46 := Tryd.sizeOf60
  v46 := Tryd.zeroValue60
  t51 := Tryd.underlying68
  a51 := Tryd.isAgg68
  z51 := Tryd.sizeOf68
  v51 := Tryd.zeroValue68
  t146 := Tryd.underlying69
  a146 := Tryd.isAgg69
  z146 := Tryd.sizeOf69
  v146 := Tryd.zeroValue69
  g1 := by kernel_rfl
  i3 := by kernel_rfl
  i4 := by kernel_rfl
  i5 := by kernel_rfl
  i9 := by kernel_rfl
  i46 := by kernel_rfl
  i51 := by kernel_rfl
  i146 := by kernel_rfl
  m1 := by kernel_rfl
  s1_3 := fun w h => Go.Proofs.cell_of_shapedOpen_int (zero := #[.int .i64 0]) (t := 3) h (of_decide_eq_true (by kernel_rfl)) (by kernel_rfl) rfl (by kernel_rfl) (by kernel_rfl) Tryd.underlying3 }
open Go.RowKit Go.Lib in
theorem Tryd.strings_Index_shaped (s sub : ByteArray) (w : World) (h : w.ShapedOpen Tryd.prog) (hs : s.size < 4294967281) :
    Calls Tryd.prog 14 #[.string s, .string sub] w fun e w' => e = .returned (.int .i64 (Lib.index s.data.toList sub.data.toList)) ∧ w' = w := Any.strings_Index_shaped Tryd.laysM143 s sub w h hs
def Tryd.laysM138_ren : Go.Shelf.Ren := ⟨fun | 138 => 20 | 195 => 26 | 218 => 28 | 143 => 14 | 219 => 21 | 217 => 29 | 225 => 30 | 224 => 31 | 267 => 32 | 266 => 40 | 314 => 41 | n => n, fun | 9 => 9 | 3 => 3 | 4 => 4 | 5 => 5 | 0 => 0 | 46 => 60 | 146 => 69 | 51 => 68 | n => n, fun | 1 => 0 | n => n⟩
theorem Tryd.laysM138 : Go.Proofs.LaysM.n138 Tryd.prog Tryd.laysM138_ren := {
  mixed := by kernel_rfl
  f138 := Tryd.func20.trans (congrArg some (by kernel_rfl))
  f143 := Tryd.func14.trans (congrArg some (by kernel_rfl))
  f195 := Tryd.func26.trans (congrArg some (by kernel_rfl))
  f217 := Tryd.func29.trans (congrArg some (by kernel_rfl))
  f218 := Tryd.func28.trans (congrArg some (by kernel_rfl))
  f219 := Tryd.func21.trans (congrArg some (by kernel_rfl))
  f224 := Tryd.func31.trans (congrArg some (by kernel_rfl))
  f225 := Tryd.func30.trans (congrArg some (by kernel_rfl))
  f266 := Tryd.func40.trans (congrArg some (by kernel_rfl))
  f267 := Tryd.func32.trans (congrArg some (by kernel_rfl))
  f314 := Tryd.func41.trans (congrArg some (by kernel_rfl))
  t0 := Tryd.underlying0
  a0 := Tryd.isAgg0
  z0 := Tryd.sizeOf0
  v0 := Tryd.zeroValue0
  t3 := Tryd.underlying3
  a3 := Tryd.isAgg3
  z3 := Tryd.sizeOf3
  v3 := Tryd.zeroValue3
  t4 := Tryd.underlying4
  a4 := Tryd.isAgg4
  z4 := Tryd.sizeOf4
  v4 := Tryd.zeroValue4
  t5 := Tryd.underlying5
  a5 := Tryd.isAgg5
  z5 := Tryd.sizeOf5
  v5 := Tryd.zeroValue5
  t9 := Tryd.underlying9
  a9 := Tryd.isAgg9
  z9 := Tryd.sizeOf9
  v9 := Tryd.zeroValue9
  t46 := Tryd.underlying60
  a46 := Tryd.isAgg60
  z46 := Tryd.sizeOf60
  v46 := Tryd.zeroValue60
  t51 := Tryd.underlying68
  a51 := Tryd.isAgg68
  z51 := Tryd.sizeOf68
  v51 := Tryd.zeroValue68
  t146 := Tryd.underlying69
  a146 := Tryd.isAgg69
  z146 := Tryd.sizeOf69
  v146 := Tryd.zeroValue69
  g1 := by kernel_rfl
  i0 := by kernel_rfl
  i3 := by kernel_rfl
  i4 := by kernel_rfl
  i5 := by kernel_rfl
  i9 := by kernel_rfl
  i46 := by kernel_rfl
  i51 := by kernel_rfl
  i146 := by kernel_rfl
  m1 := by kernel_rfl
  s1_3 := fun w h => Go.Proofs.cell_of_shapedOpen_int (zero := #[.int .i64 0]) (t := 3) h (of_decide_eq_true (by kernel_rfl)) (by kernel_rfl) rfl (by kernel_rfl) (by kernel_rfl) Tryd.underlying3 }
open Go.RowKit Go.Lib in
theorem Tryd.strings_Count_shaped (s sub : ByteArray) (w : World) (h : w.ShapedOpen Tryd.prog) (hs : s.size < 4294967281) (h2 : 2 ≤ sub.size) :
    Calls Tryd.prog 20 #[.string s, .string sub] w fun e w' => e = .returned (.int .i64 (Lib.countB s sub)) ∧ w' = w := Any.strings_Count_shaped Tryd.laysM138 s sub w h hs h2
def Tryd.lays206_ren : Go.Shelf.Ren := ⟨fun | 206 => 58 | n => n, fun | 9 => 9 | 4 => 4 | 3 => 3 | n => n, fun | n => n⟩
theorem Tryd.lays206 : Go.Proofs.Lays.n206 Tryd.prog Tryd.lays206_ren := {
  mixed := by kernel_rfl
  f206 := Tryd.func58.trans (congrArg some (by kernel_rfl))
  t3 := Tryd.underlying3
  a3 := Tryd.isAgg3
  z3 := Tryd.sizeOf3
  v3 := Tryd.zeroValue3
  t4 := Tryd.underlying4
  a4 := Tryd.isAgg4
  z4 := Tryd.sizeOf4
  v4 := Tryd.zeroValue4
  t9 := Tryd.underlying9
  a9 := Tryd.isAgg9
  z9 := Tryd.sizeOf9
  v9 := Tryd.zeroValue9 }
open Go.RowKit Go.Lib in
/-- internal/stringslite.HasPrefix (what strings.HasPrefix calls). (LAID: no walk: one application.) -/
theorem Tryd.stringslite_HasPrefix (s p : ByteArray) (w : World) :
    Calls Tryd.prog 58 #[.string s, .string p] w fun e w' => e = .returned (.bool (Lib.hasPrefix s.data.toList p.data.toList)) ∧ w' = w := Any.stringslite_HasPrefix Tryd.lays206 s p w
def Tryd.lays99_ren : Go.Shelf.Ren := ⟨fun | 99 => 46 | 206 => 58 | n => n, fun | 9 => 9 | 4 => 4 | 3 => 3 | n => n, fun | n => n⟩
theorem Tryd.lays99 : Go.Proofs.Lays.n99 Tryd.prog Tryd.lays99_ren := {
  mixed := by kernel_rfl
  f99 := Tryd.func46.trans (congrArg some (by kernel_rfl))
  f206 := Tryd.func58.trans (congrArg some (by kernel_rfl))
  t3 := Tryd.underlying3
  a3 := Tryd.isAgg3
  z3 := Tryd.sizeOf3
  v3 := Tryd.zeroValue3
  t4 := Tryd.underlying4
  a4 := Tryd.isAgg4
  z4 := Tryd.sizeOf4
  v4 := Tryd.zeroValue4
  t9 := Tryd.underlying9
  a9 := Tryd.isAgg9
  z9 := Tryd.sizeOf9
  v9 := Tryd.zeroValue9 }
open Go.RowKit Go.Lib in
/-- strings.HasPrefix: "HasPrefix reports whether the string s begins with prefix.": IT RETURNS 'Lib.hasPrefix s prefix'; the world is as it was. (LAID: no walk: one application.) -/
theorem Tryd.strings_HasPrefix (s p : ByteArray) (w : World) :
    Calls Tryd.prog 46 #[.string s, .string p] w fun e w' => e = .returned (.bool (Lib.hasPrefix s.data.toList p.data.toList)) ∧ w' = w := Any.strings_HasPrefix Tryd.lays99 s p w
open Go.RowKit Go.Lib in
/-- strings.Count at whatever sep that is not empty: the two roads under one statement. (LAID: no walk: one application.) -/
theorem Tryd.strings_Count_any (s sep : ByteArray) (m : Int) (w : World) (hs : s.size < 4294967281) (hm : w.cell? ⟨0, 0, none⟩ = some (.int .i64 m)) (h1 : 1 ≤ sep.size) :
    Calls Tryd.prog 20 #[.string s, .string sep] w fun e w' => e = .returned (.int .i64 (Lib.countB s sep)) ∧ w' = w := Any.strings_Count_any Tryd.lays138 s sep m w hs hm h1
def Tryd.lays221_ren : Go.Shelf.Ren := ⟨fun | 221 => 13 | 268 => 19 | 138 => 20 | 143 => 14 | 195 => 26 | 197 => 27 | 218 => 28 | 219 => 21 | 260 => 39 | 217 => 29 | 225 => 30 | 224 => 31 | 267 => 32 | 266 => 40 | 314 => 41 | n => n, fun | 9 => 9 | 3 => 3 | 31 => 23 | 4 => 4 | 0 => 0 | 105 => 56 | 21 => 21 | 5 => 5 | 46 => 60 | 119 => 73 | 139 => 76 | 138 => 75 | 146 => 69 | 51 => 68 | n => n, fun | 1 => 0 | 3 => 1 | 4 => 2 | n => n⟩
theorem Tryd.lays221 : Go.Proofs.Lays.n221 Tryd.prog Tryd.lays221_ren := {
  mixed := by kernel_rfl
  f138 := Tryd.func20.trans (congrArg some (by kernel_rfl))
  f143 := Tryd.func14.trans (congrArg some (by kernel_rfl))
  f195 := Tryd.func26.trans (congrArg some (by kernel_rfl))
  f197 := Tryd.func27.trans (congrArg some (by kernel_rfl))
  f217 := Tryd.func29.trans (congrArg some (by kernel_rfl))
  f218 := Tryd.func28.trans (congrArg some (by kernel_rfl))
  f219 := Tryd.func21.trans (congrArg some (by kernel_rfl))
  f221 := Tryd.func13.trans (congrArg some (by kernel_rfl))
  f224 := Tryd.func31.trans (congrArg some (by kernel_rfl))
  f225 := Tryd.func30.trans (congrArg some (by kernel_rfl))
  f260 := Tryd.func39.trans (congrArg some (by kernel_rfl))
  f266 := Tryd.func40.trans (congrArg some (by kernel_rfl))
  f267 := Tryd.func32.trans (congrArg some (by kernel_rfl))
  f268 := Tryd.func19.trans (congrArg some (by kernel_rfl))
  f314 := Tryd.func41.trans (congrArg some (by kernel_rfl))
  t0 := Tryd.underlying0
  a0 := Tryd.isAgg0
  z0 := Tryd.sizeOf0
  v0 := Tryd.zeroValue0
  t3 := Tryd.underlying3
  a3 := Tryd.isAgg3
  z3 := Tryd.sizeOf3
  v3 := Tryd.zeroValue3
  t4 := Tryd.underlying4
  a4 := Tryd.isAgg4
  z4 := Tryd.sizeOf4
  v4 := Tryd.zeroValue4
  t5 := Tryd.underlying5
  a5 := Tryd.isAgg5
  z5 := Tryd.sizeOf5
  v5 := Tryd.zeroValue5
  t9 := Tryd.underlying9
  a9 := Tryd.isAgg9
  z9 := Tryd.sizeOf9
  v9 := Tryd.zeroValue9
  t21 := Tryd.underlying21
  a21 := Tryd.isAgg21
  z21 := Tryd.sizeOf21
  v21 := Tryd.zeroValue21
  t31 := Tryd.underlying23
  a31 := Tryd.isAgg23
  z31 := Tryd.sizeOf23
  v31 := Tryd.zeroValue23
  t46 := Tryd.underlying60
  a46 := Tryd.isAgg60
  z46 := Tryd.sizeOf60
  v46 := Tryd.zeroValue60
  t51 := Tryd.underlying68
  a51 := Tryd.isAgg68
  z51 := Tryd.sizeOf68
  v51 := Tryd.zeroValue68
  t105 := Tryd.underlying56
  a105 := Tryd.isAgg56
  z105 := Tryd.sizeOf56
  v105 := Tryd.zeroValue56
  t119 := Tryd.underlying73
  a119 := Tryd.isAgg73
  z119 := Tryd.sizeOf73
  t138 := Tryd.underlying75
  a138 := Tryd.isAgg75
  z138 := Tryd.sizeOf75
  v138 := Tryd.zeroValue75
  t139 := Tryd.underlying76
  a139 := Tryd.isAgg76
  z139 := Tryd.sizeOf76
  v139 := Tryd.zeroValue76
  t146 := Tryd.underlying69
  a146 := Tryd.isAgg69
  z146 := Tryd.sizeOf69
  v146 := Tryd.zeroValue69
  g1 := by kernel_rfl
  g3 := by kernel_rfl
  g4 := by kernel_rfl }
open Go.RowKit Go.Lib in
theorem Tryd.strings_genSplit (s sep : ByteArray) (sv : Nat) (n : Int) (N : Nat) (m : Int) (w : World) (hs : s.size < 4294967281) (hm : w.cell? ⟨0, 0, none⟩ = some (.int .i64 m)) (h1 : 1 ≤ sep.size) (hsv : sv ≤ sep.size) (hn0 : n ≠ 0) (hn63 : n ≤ 9223372036854775807) (hN : (N : Int) = min (if n < 0 then (Lib.countB s sep : Int) + 1 else n) ((s.size : Int) + 1)) :
    Calls Tryd.prog 13 #[.string s, .string sep, .int .i64 sv, .int .i64 n] w fun e w' =>
      e = .returned (.slice (some ⟨w.heap.size, 0, none⟩) (Lib.splitB sep sv (N - 1) s).length N) ∧ w' = w.alloc (.cells (Lib.cellsOf (Lib.splitB sep sv (N - 1) s) N) 9) := Any.strings_genSplit Tryd.lays221 (by kernel_rfl) s sep sv n N m w hs hm h1 hsv hn0 hn63 hN
def Tryd.lays146_ren : Go.Shelf.Ren := ⟨fun | 146 => 11 | 221 => 13 | 268 => 19 | 138 => 20 | 143 => 14 | 195 => 26 | 197 => 27 | 218 => 28 | 219 => 21 | 260 => 39 | 217 => 29 | 225 => 30 | 224 => 31 | 267 => 32 | 266 => 40 | 314 => 41 | n => n, fun | 9 => 9 | 31 => 23 | 3 => 3 | 4 => 4 | 0 => 0 | 105 => 56 | 21 => 21 | 5 => 5 | 46 => 60 | 119 => 73 | 139 => 76 | 138 => 75 | 146 => 69 | 51 => 68 | n => n, fun | 1 => 0 | 3 => 1 | 4 => 2 | n => n⟩
theorem Tryd.lays146 : Go.Proofs.Lays.n146 Tryd.prog Tryd.lays146_ren := {
  mixed := by kernel_rfl
  f138 := Tryd.func20.trans (congrArg some (by kernel_rfl))
  f143 := Tryd.func14.trans (congrArg some (by kernel_rfl))
  f146 := Tryd.func11.trans (congrArg some (by kernel_rfl))
  f195 := Tryd.func26.trans (congrArg some (by kernel_rfl))
  f197 := Tryd.func27.trans (congrArg some (by kernel_rfl))
  f217 := Tryd.func29.trans (congrArg some (by kernel_rfl))
  f218 := Tryd.func28.trans (congrArg some (by kernel_rfl))
  f219 := Tryd.func21.trans (congrArg some (by kernel_rfl))
  f221 := Tryd.func13.trans (congrArg some (by kernel_rfl))
  f224 := Tryd.func31.trans (congrArg some (by kernel_rfl))
  f225 := Tryd.func30.trans (congrArg some (by kernel_rfl))
  f260 := Tryd.func39.trans (congrArg some (by kernel_rfl))
  f266 := Tryd.func40.trans (congrArg some (by kernel_rfl))
  f267 := Tryd.func32.trans (congrArg some (by kernel_rfl))
  f268 := Tryd.func19.trans (congrArg some (by kernel_rfl))
  f314 := Tryd.func41.trans (congrArg some (by kernel_rfl))
  t0 := Tryd.underlying0
  a0 := Tryd.isAgg0
  z0 := Tryd.sizeOf0
  v0 := Tryd.zeroValue0
  t3 := Tryd.underlying3
  a3 := Tryd.isAgg3
  z3 := Tryd.sizeOf3
  v3 := Tryd.zeroValue3
  t4 := Tryd.underlying4
  a4 := Tryd.isAgg4
  z4 := Tryd.sizeOf4
  v4 := Tryd.zeroValue4
  t5 := Tryd.underlying5
  a5 := Tryd.isAgg5
  z5 := Tryd.sizeOf5
  v5 := Tryd.zeroValue5
  t9 := Tryd.underlying9
  a9 := Tryd.isAgg9
  z9 := Tryd.sizeOf9
  v9 := Tryd.zeroValue9
  t21 := Tryd.underlying21
  a21 := Tryd.isAgg21
  z21 := Tryd.sizeOf21
  v21 := Tryd.zeroValue21
  t31 := Tryd.underlying23
  a31 := Tryd.isAgg23
  z31 := Tryd.sizeOf23
  v31 := Tryd.zeroValue23
  t46 := Tryd.underlying60
  a46 := Tryd.isAgg60
  z46 := Tryd.sizeOf60
  v46 := Tryd.zeroValue60
  t51 := Tryd.underlying68
  a51 := Tryd.isAgg68
  z51 := Tryd.sizeOf68
  v51 := Tryd.zeroValue68
  t105 := Tryd.underlying56
  a105 := Tryd.isAgg56
  z105 := Tryd.sizeOf56
  v105 := Tryd.zeroValue56
  t119 := Tryd.underlying73
  a119 := Tryd.isAgg73
  z119 := Tryd.sizeOf73
  t138 := Tryd.underlying75
  a138 := Tryd.isAgg75
  z138 := Tryd.sizeOf75
  v138 := Tryd.zeroValue75
  t139 := Tryd.underlying76
  a139 := Tryd.isAgg76
  z139 := Tryd.sizeOf76
  v139 := Tryd.zeroValue76
  t146 := Tryd.underlying69
  a146 := Tryd.isAgg69
  z146 := Tryd.sizeOf69
  v146 := Tryd.zeroValue69
  g1 := by kernel_rfl
  g3 := by kernel_rfl
  g4 := by kernel_rfl }
open Go.RowKit Go.Lib in
/-- strings.Split. (LAID: no walk: one application.) -/
theorem Tryd.strings_Split (s sep : ByteArray) (m : Int) (w : World) (hs : s.size < 4294967281) (hm : w.cell? ⟨0, 0, none⟩ = some (.int .i64 m)) (h1 : 1 ≤ sep.size) :
    Calls Tryd.prog 11 #[.string s, .string sep] w fun e w' =>
      e = .returned (.slice (some ⟨w.heap.size, 0, none⟩) (Lib.countB s sep + 1) (Lib.countB s sep + 1)) ∧ w' = w.alloc (.cells ((Lib.splitB sep 0 (Lib.countB s sep) s).map Value.string).toArray 9) := Any.strings_Split Tryd.lays146 (by kernel_rfl) s sep m w hs hm h1
def Tryd.laysM146_ren : Go.Shelf.Ren := ⟨fun | 146 => 11 | 221 => 13 | 268 => 19 | 138 => 20 | 143 => 14 | 195 => 26 | 197 => 27 | 218 => 28 | 219 => 21 | 260 => 39 | 217 => 29 | 225 => 30 | 224 => 31 | 267 => 32 | 266 => 40 | 314 => 41 | n => n, fun | 9 => 9 | 31 => 23 | 3 => 3 | 4 => 4 | 0 => 0 | 105 => 56 | 21 => 21 | 5 => 5 | 46 => 60 | 119 => 73 | 139 => 76 | 138 => 75 | 146 => 69 | 51 => 68 | n => n, fun | 1 => 0 | 3 => 1 | 4 => 2 | n => n⟩
theorem Tryd.laysM146 : Go.Proofs.LaysM.n146 Tryd.prog Tryd.laysM146_ren := {
  mixed := by kernel_rfl
  f138 := Tryd.func20.trans (congrArg some (by kernel_rfl))
  f143 := Tryd.func14.trans (congrArg some (by kernel_rfl))
  f146 := Tryd.func11.trans (congrArg some (by kernel_rfl))
  f195 := Tryd.func26.trans (congrArg some (by kernel_rfl))
  f197 := Tryd.func27.trans (congrArg some (by kernel_rfl))
  f217 := Tryd.func29.trans (congrArg some (by kernel_rfl))
  f218 := Tryd.func28.trans (congrArg some (by kernel_rfl))
  f219 := Tryd.func21.trans (congrArg some (by kernel_rfl))
  f221 := Tryd.func13.trans (congrArg some (by kernel_rfl))
  f224 := Tryd.func31.trans (congrArg some (by kernel_rfl))
  f225 := Tryd.func30.trans (congrArg some (by kernel_rfl))
  f260 := Tryd.func39.trans (congrArg some (by kernel_rfl))
  f266 := Tryd.func40.trans (congrArg some (by kernel_rfl))
  f267 := Tryd.func32.trans (congrArg some (by kernel_rfl))
  f268 := Tryd.func19.trans (congrArg some (by kernel_rfl))
  f314 := Tryd.func41.trans (congrArg some (by kernel_rfl))
  t0 := Tryd.underlying0
  a0 := Tryd.isAgg0
  z0 := Tryd.sizeOf0
  v0 := Tryd.zeroValue0
  t3 := Tryd.underlying3
  a3 := Tryd.isAgg3
  z3 := Tryd.sizeOf3
  v3 := Tryd.zeroValue3
  t4 := Tryd.underlying4
  a4 := Tryd.isAgg4
  z4 := Tryd.sizeOf4
  v4 := Tryd.zeroValue4
  t5 := Tryd.underlying5
  a5 := Tryd.isAgg5
  z5 := Tryd.sizeOf5
  v5 := Tryd.zeroValue5
  t9 := Tryd.underlying9
  a9 := Tryd.isAgg9
  z9 := Tryd.sizeOf9
  v9 := Tryd.zeroValue9
  t21 := Tryd.underlying21
  a21 := Tryd.isAgg21
  z21 := Tryd.sizeOf21
  v21 := Tryd.zeroValue21
  t31 := Tryd.underlying23
  a31 := Tryd.isAgg23
  z31 := Tryd.sizeOf23
  v31 := Tryd.zeroValue23
  t46 := Tryd.underlying60
  a46 := Tryd.isAgg60
  z46 := Tryd.sizeOf60
  v46 := Tryd.zeroValue60
  t51 := Tryd.underlying68
  a51 := Tryd.isAgg68
  z51 := Tryd.sizeOf68
  v51 := Tryd.zeroValue68
  t105 := Tryd.underlying56
  a105 := Tryd.isAgg56
  z105 := Tryd.sizeOf56
  v105 := Tryd.zeroValue56
  t119 := Tryd.underlying73
  a119 := Tryd.isAgg73
  z119 := Tryd.sizeOf73
  t138 := Tryd.underlying75
  a138 := Tryd.isAgg75
  z138 := Tryd.sizeOf75
  v138 := Tryd.zeroValue75
  t139 := Tryd.underlying76
  a139 := Tryd.isAgg76
  z139 := Tryd.sizeOf76
  v139 := Tryd.zeroValue76
  t146 := Tryd.underlying69
  a146 := Tryd.isAgg69
  z146 := Tryd.sizeOf69
  v146 := Tryd.zeroValue69
  g1 := by kernel_rfl
  g3 := by kernel_rfl
  g4 := by kernel_rfl
  i0 := by kernel_rfl
  i3 := by kernel_rfl
  i4 := by kernel_rfl
  i5 := by kernel_rfl
  i9 := by kernel_rfl
  i21 := by kernel_rfl
  i31 := by kernel_rfl
  i46 := by kernel_rfl
  i51 := by kernel_rfl
  i105 := by kernel_rfl
  i138 := by kernel_rfl
  i139 := by kernel_rfl
  i146 := by kernel_rfl
  m1 := by kernel_rfl
  s1_3 := fun w h => Go.Proofs.cell_of_shapedOpen_int (zero := #[.int .i64 0]) (t := 3) h (of_decide_eq_true (by kernel_rfl)) (by kernel_rfl) rfl (by kernel_rfl) (by kernel_rfl) Tryd.underlying3
  m3 := by kernel_rfl
  m4 := by kernel_rfl }
open Go.RowKit Go.Lib in
/-- strings.Split, sep not empty. (LAID: no walk: one application.) -/
theorem Tryd.strings_Split_shaped (s sep : ByteArray) (w : World) (h : w.ShapedOpen Tryd.prog) (hs : s.size < 4294967281) (h1 : 1 ≤ sep.size) :
    Calls Tryd.prog 11 #[.string s, .string sep] w fun e w' =>
      e = .returned (.slice (some ⟨w.heap.size, 0, none⟩) (Lib.countB s sep + 1) (Lib.countB s sep + 1)) ∧ w' = w.alloc (.cells ((Lib.splitB sep 0 (Lib.countB s sep) s).map Value.string).toArray 9) := Any.strings_Split_shaped Tryd.laysM146 s sep w h hs h1
def Tryd.lays197_ren : Go.Shelf.Ren := ⟨fun | 197 => 27 | 260 => 39 | n => n, fun | 9 => 9 | 21 => 21 | 3 => 3 | 4 => 4 | 5 => 5 | 105 => 56 | 119 => 73 | 0 => 0 | 46 => 60 | 139 => 76 | 138 => 75 | n => n, fun | 3 => 1 | 4 => 2 | n => n⟩
theorem Tryd.lays197 : Go.Proofs.Lays.n197 Tryd.prog Tryd.lays197_ren := {
  mixed := by kernel_rfl
  f197 := Tryd.func27.trans (congrArg some (by kernel_rfl))
  f260 := Tryd.func39.trans (congrArg some (by kernel_rfl))
  t0 := Tryd.underlying0
  a0 := Tryd.isAgg0
  z0 := Tryd.sizeOf0
  v0 := Tryd.zeroValue0
  t3 := Tryd.underlying3
  a3 := Tryd.isAgg3
  z3 := Tryd.sizeOf3
  v3 := Tryd.zeroValue3
  t4 := Tryd.underlying4
  a4 := Tryd.isAgg4
  z4 := Tryd.sizeOf4
  v4 := Tryd.zeroValue4
  t5 := Tryd.underlying5
  a5 := Tryd.isAgg5
  z5 := Tryd.sizeOf5
  v5 := Tryd.zeroValue5
  t9 := Tryd.underlying9
  a9 := Tryd.isAgg9
  z9 := Tryd.sizeOf9
  v9 := Tryd.zeroValue9
  t21 := Tryd.underlying21
  a21 := Tryd.isAgg21
  z21 := Tryd.sizeOf21
  v21 := Tryd.zeroValue21
  t46 := Tryd.underlying60
  a46 := Tryd.isAgg60
  z46 := Tryd.sizeOf60
  v46 := Tryd.zeroValue60
  t105 := Tryd.underlying56
  a105 := Tryd.isAgg56
  z105 := Tryd.sizeOf56
  v105 := Tryd.zeroValue56
  t119 := Tryd.underlying73
  a119 := Tryd.isAgg73
  z119 := Tryd.sizeOf73
  t138 := Tryd.underlying75
  a138 := Tryd.isAgg75
  z138 := Tryd.sizeOf75
  v138 := Tryd.zeroValue75
  t139 := Tryd.underlying76
  a139 := Tryd.isAgg76
  z139 := Tryd.sizeOf76
  v139 := Tryd.zeroValue76
  g3 := by kernel_rfl
  g4 := by kernel_rfl }
open Go.RowKit Go.Lib in
/-- unicode/utf8.DecodeRuneInString: "DecodeRuneInString is like DecodeRune but its input is a string.": ("DecodeRune unpacks the first UTF-8 encoding in p and returns the rune and its width in bytes."): WHERE s BEGINS WITH AN ASCII BYTE x: (x, 1). (LAID: no walk: one application.) -/
theorem Tryd.utf8_DecodeRuneInString_ascii (s : ByteArray) (x : UInt8) (w : World) (h0 : s.data.toList[0]? = some x) (hx : x.toNat < 128) :
    Calls Tryd.prog 27 #[.string s] w fun e w' => e = .returned (.tuple #[.int .i32 x.toNat, .int .i64 1]) ∧ w' = w := Any.utf8_DecodeRuneInString_ascii Tryd.lays197 s x w h0 hx
def Tryd.lays152_ren : Go.Shelf.Ren := ⟨fun | 152 => 48 | 137 => 59 | 119 => 60 | 224 => 31 | 225 => 30 | 217 => 29 | 266 => 40 | n => n, fun | 9 => 9 | 21 => 21 | 3 => 3 | 4 => 4 | 5 => 5 | 0 => 0 | 46 => 60 | n => n, fun | n => n⟩
theorem Tryd.lays152 : Go.Proofs.Lays.n152 Tryd.prog Tryd.lays152_ren := {
  mixed := by kernel_rfl
  f119 := Tryd.func60.trans (congrArg some (by kernel_rfl))
  f137 := Tryd.func59.trans (congrArg some (by kernel_rfl))
  f152 := Tryd.func48.trans (congrArg some (by kernel_rfl))
  f217 := Tryd.func29.trans (congrArg some (by kernel_rfl))
  f224 := Tryd.func31.trans (congrArg some (by kernel_rfl))
  f225 := Tryd.func30.trans (congrArg some (by kernel_rfl))
  f266 := Tryd.func40.trans (congrArg some (by kernel_rfl))
  t0 := Tryd.underlying0
  a0 := Tryd.isAgg0
  z0 := Tryd.sizeOf0
  v0 := Tryd.zeroValue0
  t3 := Tryd.underlying3
  a3 := Tryd.isAgg3
  z3 := Tryd.sizeOf3
  v3 := Tryd.zeroValue3
  t4 := Tryd.underlying4
  a4 := Tryd.isAgg4
  z4 := Tryd.sizeOf4
  v4 := Tryd.zeroValue4
  t5 := Tryd.underlying5
  a5 := Tryd.isAgg5
  z5 := Tryd.sizeOf5
  v5 := Tryd.zeroValue5
  t9 := Tryd.underlying9
  a9 := Tryd.isAgg9
  z9 := Tryd.sizeOf9
  v9 := Tryd.zeroValue9
  t21 := Tryd.underlying21
  a21 := Tryd.isAgg21
  z21 := Tryd.sizeOf21
  v21 := Tryd.zeroValue21
  t46 := Tryd.underlying60
  a46 := Tryd.isAgg60
  z46 := Tryd.sizeOf60
  v46 := Tryd.zeroValue60 }
open Go.RowKit Go.Lib in
theorem Tryd.strings_IndexRune_ascii (s : ByteArray) (r : Int) (w : World) (h0 : 0 ≤ r) (h1 : r < 128) :
    Calls Tryd.prog 48 #[.string s, .int .i32 r] w fun e w' => e = .returned (.int .i64 (Lib.indexByte s.data.toList r.toNat.toUInt8)) ∧ w' = w := Any.strings_IndexRune_ascii Tryd.lays152 s r w h0 h1
def Tryd.lays195_ren : Go.Shelf.Ren := ⟨fun | 195 => 26 | n => n, fun | 9 => 9 | 3 => 3 | 0 => 0 | 4 => 4 | n => n, fun | n => n⟩
theorem Tryd.lays195 : Go.Proofs.Lays.n195 Tryd.prog Tryd.lays195_ren := {
  mixed := by kernel_rfl
  f195 := Tryd.func26.trans (congrArg some (by kernel_rfl))
  t0 := Tryd.underlying0
  a0 := Tryd.isAgg0
  z0 := Tryd.sizeOf0
  v0 := Tryd.zeroValue0
  t3 := Tryd.underlying3
  a3 := Tryd.isAgg3
  z3 := Tryd.sizeOf3
  v3 := Tryd.zeroValue3
  t4 := Tryd.underlying4
  a4 := Tryd.isAgg4
  z4 := Tryd.sizeOf4
  v4 := Tryd.zeroValue4
  t9 := Tryd.underlying9
  a9 := Tryd.isAgg9
  z9 := Tryd.sizeOf9
  v9 := Tryd.zeroValue9 }
open Go.RowKit Go.Lib in
theorem Tryd.utf8_RuneCountInString_ascii (s : ByteArray) (w : World) (hs : s.size < 4294967281) (hascii : ∀ (j : Nat) b, s.data.toList[j]? = some b → b.toNat < 128) :
    Calls Tryd.prog 26 #[.string s] w fun e w' => e = .returned (.int .i64 s.size) ∧ w' = w.iter s s.size := Any.utf8_RuneCountInString_ascii Tryd.lays195 s w hs hascii
def Tryd.lays226_ren : Go.Shelf.Ren := ⟨fun | 226 => 49 | n => n, fun | 3 => 3 | 4 => 4 | n => n, fun | n => n⟩
theorem Tryd.lays226 : Go.Proofs.Lays.n226 Tryd.prog Tryd.lays226_ren := {
  mixed := by kernel_rfl
  f226 := Tryd.func49.trans (congrArg some (by kernel_rfl))
  t3 := Tryd.underlying3
  a3 := Tryd.isAgg3
  z3 := Tryd.sizeOf3
  v3 := Tryd.zeroValue3
  t4 := Tryd.underlying4
  a4 := Tryd.isAgg4
  z4 := Tryd.sizeOf4
  v4 := Tryd.zeroValue4 }
open Go.RowKit Go.Lib in
theorem Tryd.strings_shouldUseASCIISet (n : Int) (w : World) :
    Calls Tryd.prog 49 #[.int .i64 n] w fun e w' => e = .returned (.bool (decide (8 < n))) ∧ w' = w := Any.strings_shouldUseASCIISet Tryd.lays226 n w
def Tryd.lays153_ren : Go.Shelf.Ren := ⟨fun | 153 => 42 | 152 => 48 | 226 => 49 | 227 => 50 | 228 => 51 | 137 => 59 | 119 => 60 | 224 => 31 | 225 => 30 | 217 => 29 | 266 => 40 | n => n, fun | 9 => 9 | 3 => 3 | 4 => 4 | 5 => 5 | 21 => 21 | 117 => 81 | 116 => 80 | 0 => 0 | 46 => 60 | 124 => 91 | n => n, fun | n => n⟩
theorem Tryd.lays153 : Go.Proofs.Lays.n153 Tryd.prog Tryd.lays153_ren := {
  mixed := by kernel_rfl
  f119 := Tryd.func60.trans (congrArg some (by kernel_rfl))
  f137 := Tryd.func59.trans (congrArg some (by kernel_rfl))
  f152 := Tryd.func48.trans (congrArg some (by kernel_rfl))
  f153 := Tryd.func42.trans (congrArg some (by kernel_rfl))
  f217 := Tryd.func29.trans (congrArg some (by kernel_rfl))
  f224 := Tryd.func31.trans (congrArg some (by kernel_rfl))
  f225 := Tryd.func30.trans (congrArg some (by kernel_rfl))
  f226 := Tryd.func49.trans (congrArg some (by kernel_rfl))
  f227 := Tryd.func50.trans (congrArg some (by kernel_rfl))
  f228 := Tryd.func51.trans (congrArg some (by kernel_rfl))
  f266 := Tryd.func40.trans (congrArg some (by kernel_rfl))
  t0 := Tryd.underlying0
  a0 := Tryd.isAgg0
  z0 := Tryd.sizeOf0
  v0 := Tryd.zeroValue0
  t3 := Tryd.underlying3
  a3 := Tryd.isAgg3
  z3 := Tryd.sizeOf3
  v3 := Tryd.zeroValue3
  t4 := Tryd.underlying4
  a4 := Tryd.isAgg4
  z4 := Tryd.sizeOf4
  v4 := Tryd.zeroValue4
  t5 := Tryd.underlying5
  a5 := Tryd.isAgg5
  z5 := Tryd.sizeOf5
  v5 := Tryd.zeroValue5
  t9 := Tryd.underlying9
  a9 := Tryd.isAgg9
  z9 := Tryd.sizeOf9
  v9 := Tryd.zeroValue9
  t21 := Tryd.underlying21
  a21 := Tryd.isAgg21
  z21 := Tryd.sizeOf21
  v21 := Tryd.zeroValue21
  t46 := Tryd.underlying60
  a46 := Tryd.isAgg60
  z46 := Tryd.sizeOf60
  v46 := Tryd.zeroValue60
  t116 := Tryd.underlying80
  a116 := Tryd.isAgg80
  z116 := Tryd.sizeOf80
  t117 := Tryd.underlying81
  a117 := Tryd.isAgg81
  z117 := Tryd.sizeOf81
  v117 := Tryd.zeroValue81
  t124 := Tryd.underlying91
  a124 := Tryd.isAgg91
  z124 := Tryd.sizeOf91
  v124 := Tryd.zeroValue91 }
open Go.RowKit Go.Lib in
/-- chars is empty. (LAID: no walk: one application.) -/
theorem Tryd.strings_IndexAny_none (s chars : ByteArray) (w : World) (h0 : chars.size = 0) :
    Calls Tryd.prog 42 #[.string s, .string chars] w fun e w' => e = .returned (.int .i64 (Lib.indexAny s.data.toList chars.data.toList)) ∧ w' = w := Any.strings_IndexAny_none Tryd.lays153 s chars w h0
open Go.RowKit Go.Lib in
/-- chars is one ASCII byte. (LAID: no walk: one application.) -/
theorem Tryd.strings_IndexAny_one (s chars : ByteArray) (w : World) (h1 : chars.size = 1) (hascii : ∀ (j : Nat) b, chars.data.toList[j]? = some b → b.toNat < 128) :
    Calls Tryd.prog 42 #[.string s, .string chars] w fun e w' => e = .returned (.int .i64 (Lib.indexAny s.data.toList chars.data.toList)) ∧ w' = w := Any.strings_IndexAny_one Tryd.lays153 s chars w h1 hascii
open Go.RowKit Go.Lib in
/-- s of at most 8 bytes; chars of two or more: 'for i, c := range s { if IndexRune(chars, c) >= 0 { return i } }'. One block more: the model's iterator over s. (LAID: no walk: one application.) -/
theorem Tryd.strings_IndexAny_short (s chars : ByteArray) (w : World) (h2 : 2 ≤ chars.size) (h8 : s.size ≤ 8) (hascii : ∀ (j : Nat) b, s.data.toList[j]? = some b → b.toNat < 128) :
    Calls Tryd.prog 42 #[.string s, .string chars] w fun e w' => e = .returned (.int .i64 (Lib.indexAny s.data.toList chars.data.toList)) ∧ ∃ pos, w' = w.iter s pos := Any.strings_IndexAny_short Tryd.lays153 s chars w h2 h8 hascii
def Tryd.lays227_ren : Go.Shelf.Ren := ⟨fun | 227 => 50 | n => n, fun | 9 => 9 | 116 => 80 | 4 => 4 | 0 => 0 | 3 => 3 | 5 => 5 | n => n, fun | n => n⟩
theorem Tryd.lays227 : Go.Proofs.Lays.n227 Tryd.prog Tryd.lays227_ren := {
  mixed := by kernel_rfl
  f227 := Tryd.func50.trans (congrArg some (by kernel_rfl))
  t0 := Tryd.underlying0
  a0 := Tryd.isAgg0
  z0 := Tryd.sizeOf0
  v0 := Tryd.zeroValue0
  t3 := Tryd.underlying3
  a3 := Tryd.isAgg3
  z3 := Tryd.sizeOf3
  v3 := Tryd.zeroValue3
  t4 := Tryd.underlying4
  a4 := Tryd.isAgg4
  z4 := Tryd.sizeOf4
  v4 := Tryd.zeroValue4
  t5 := Tryd.underlying5
  a5 := Tryd.isAgg5
  z5 := Tryd.sizeOf5
  v5 := Tryd.zeroValue5
  t9 := Tryd.underlying9
  a9 := Tryd.isAgg9
  z9 := Tryd.sizeOf9
  v9 := Tryd.zeroValue9
  t116 := Tryd.underlying80
  a116 := Tryd.isAgg80
  z116 := Tryd.sizeOf80 }
open Go.RowKit Go.Lib in
theorem Tryd.strings_makeASCIISet (hv116 : ∀ w, (zeroValue 80).run Tryd.prog w = .ok (.agg (Array.replicate 256 (.bool false))) w) (chars : ByteArray) (w : World) (hs : chars.size < 4294967281) (hascii : ∀ (j : Nat) b, chars.data.toList[j]? = some b → b.toNat < 128) :
    Calls Tryd.prog 50 #[.string chars] w fun e w' => e = .returned (.tuple #[.agg (Lib.setCells chars.data.toList), .bool true]) ∧ w' = w.alloc (.cells (Lib.setCells chars.data.toList) 80) := Any.strings_makeASCIISet Tryd.lays227 hv116 (by kernel_rfl) chars w hs hascii
def Tryd.lays228_ren : Go.Shelf.Ren := ⟨fun | 228 => 51 | n => n, fun | 124 => 91 | 5 => 5 | 4 => 4 | 0 => 0 | 116 => 80 | n => n, fun | n => n⟩
theorem Tryd.lays228 : Go.Proofs.Lays.n228 Tryd.prog Tryd.lays228_ren := {
  mixed := by kernel_rfl
  f228 := Tryd.func51.trans (congrArg some (by kernel_rfl))
  t0 := Tryd.underlying0
  a0 := Tryd.isAgg0
  z0 := Tryd.sizeOf0
  v0 := Tryd.zeroValue0
  t4 := Tryd.underlying4
  a4 := Tryd.isAgg4
  z4 := Tryd.sizeOf4
  v4 := Tryd.zeroValue4
  t5 := Tryd.underlying5
  a5 := Tryd.isAgg5
  z5 := Tryd.sizeOf5
  v5 := Tryd.zeroValue5
  t116 := Tryd.underlying80
  a116 := Tryd.isAgg80
  z116 := Tryd.sizeOf80
  t124 := Tryd.underlying91
  a124 := Tryd.isAgg91
  z124 := Tryd.sizeOf91
  v124 := Tryd.zeroValue91 }
open Go.RowKit Go.Lib in
/-- '(as *asciiSet) contains(c)': 'as[c]': the set lies at block b, whole. (LAID: no walk: one application.) -/
theorem Tryd.asciiSet_contains (b : Nat) (x : UInt8) (v : Bool) (w : World) (hc : w.cell? ⟨b, x.toNat, none⟩ = some (.bool v)) :
    Calls Tryd.prog 51 #[.pointer (some ⟨b, 0, none⟩), .int .u8 x.toNat] w fun e w' => e = .returned (.bool v) ∧ w' = w := Any.asciiSet_contains Tryd.lays228 b x v w hc
open Go.RowKit Go.Lib in
theorem Tryd.strings_IndexAny_long (hv116 : ∀ w, (zeroValue 80).run Tryd.prog w = .ok (.agg (Array.replicate 256 (.bool false))) w) (s chars : ByteArray) (w : World) (h2 : 2 ≤ chars.size) (h8 : 8 < s.size) (hs : s.size < 4294967281) (hcs : chars.size < 4294967281) (hascii : ∀ (j : Nat) b, chars.data.toList[j]? = some b → b.toNat < 128) :
    Calls Tryd.prog 42 #[.string s, .string chars] w fun e w' => e = .returned (.int .i64 (Lib.indexAny s.data.toList chars.data.toList)) ∧ w' = ((w.alloc (.cells (Lib.setCells chars.data.toList) 80)).alloc (.cells (Lib.setCells chars.data.toList) 80)) := Any.strings_IndexAny_long Tryd.lays153 hv116 (by kernel_rfl) s chars w h2 h8 hs hcs hascii
open Go.RowKit Go.Lib in
/-- strings.IndexAny ON ASCII BYTES: the four roads under one statement. (LAID: no walk: one application.) -/
theorem Tryd.strings_IndexAny (hv116 : ∀ w, (zeroValue 80).run Tryd.prog w = .ok (.agg (Array.replicate 256 (.bool false))) w) (s chars : ByteArray) (w : World) (hs : s.size < 4294967281) (hcs : chars.size < 4294967281) (has : ∀ (j : Nat) b, s.data.toList[j]? = some b → b.toNat < 128) (hac : ∀ (j : Nat) b, chars.data.toList[j]? = some b → b.toNat < 128) :
    Calls Tryd.prog 42 #[.string s, .string chars] w fun e w' => e = .returned (.int .i64 (Lib.indexAny s.data.toList chars.data.toList)) ∧ Below w.heap.size w w' := Any.strings_IndexAny Tryd.lays153 hv116 (by kernel_rfl) s chars w hs hcs has hac
def Tryd.lays150_ren : Go.Shelf.Ren := ⟨fun | 150 => 33 | 153 => 42 | 152 => 48 | 226 => 49 | 227 => 50 | 228 => 51 | 137 => 59 | 119 => 60 | 224 => 31 | 225 => 30 | 217 => 29 | 266 => 40 | n => n, fun | 9 => 9 | 4 => 4 | 3 => 3 | 5 => 5 | 21 => 21 | 117 => 81 | 116 => 80 | 0 => 0 | 46 => 60 | 124 => 91 | n => n, fun | n => n⟩
theorem Tryd.lays150 : Go.Proofs.Lays.n150 Tryd.prog Tryd.lays150_ren := {
  mixed := by kernel_rfl
  f119 := Tryd.func60.trans (congrArg some (by kernel_rfl))
  f137 := Tryd.func59.trans (congrArg some (by kernel_rfl))
  f150 := Tryd.func33.trans (congrArg some (by kernel_rfl))
  f152 := Tryd.func48.trans (congrArg some (by kernel_rfl))
  f153 := Tryd.func42.trans (congrArg some (by kernel_rfl))
  f217 := Tryd.func29.trans (congrArg some (by kernel_rfl))
  f224 := Tryd.func31.trans (congrArg some (by kernel_rfl))
  f225 := Tryd.func30.trans (congrArg some (by kernel_rfl))
  f226 := Tryd.func49.trans (congrArg some (by kernel_rfl))
  f227 := Tryd.func50.trans (congrArg some (by kernel_rfl))
  f228 := Tryd.func51.trans (congrArg some (by kernel_rfl))
  f266 := Tryd.func40.trans (congrArg some (by kernel_rfl))
  t0 := Tryd.underlying0
  a0 := Tryd.isAgg0
  z0 := Tryd.sizeOf0
  v0 := Tryd.zeroValue0
  t3 := Tryd.underlying3
  a3 := Tryd.isAgg3
  z3 := Tryd.sizeOf3
  v3 := Tryd.zeroValue3
  t4 := Tryd.underlying4
  a4 := Tryd.isAgg4
  z4 := Tryd.sizeOf4
  v4 := Tryd.zeroValue4
  t5 := Tryd.underlying5
  a5 := Tryd.isAgg5
  z5 := Tryd.sizeOf5
  v5 := Tryd.zeroValue5
  t9 := Tryd.underlying9
  a9 := Tryd.isAgg9
  z9 := Tryd.sizeOf9
  v9 := Tryd.zeroValue9
  t21 := Tryd.underlying21
  a21 := Tryd.isAgg21
  z21 := Tryd.sizeOf21
  v21 := Tryd.zeroValue21
  t46 := Tryd.underlying60
  a46 := Tryd.isAgg60
  z46 := Tryd.sizeOf60
  v46 := Tryd.zeroValue60
  t116 := Tryd.underlying80
  a116 := Tryd.isAgg80
  z116 := Tryd.sizeOf80
  t117 := Tryd.underlying81
  a117 := Tryd.isAgg81
  z117 := Tryd.sizeOf81
  v117 := Tryd.zeroValue81
  t124 := Tryd.underlying91
  a124 := Tryd.isAgg91
  z124 := Tryd.sizeOf91
  v124 := Tryd.zeroValue91 }
open Go.RowKit Go.Lib in
/-- strings.ContainsAny ON ASCII BYTES. (LAID: no walk: one application.) -/
theorem Tryd.strings_ContainsAny (hv116 : ∀ w, (zeroValue 80).run Tryd.prog w = .ok (.agg (Array.replicate 256 (.bool false))) w) (s chars : ByteArray) (w : World) (hs : s.size < 4294967281) (hcs : chars.size < 4294967281) (has : ∀ (j : Nat) b, s.data.toList[j]? = some b → b.toNat < 128) (hac : ∀ (j : Nat) b, chars.data.toList[j]? = some b → b.toNat < 128) :
    Calls Tryd.prog 33 #[.string s, .string chars] w fun e w' => e = .returned (.bool (Lib.containsAny s.data.toList chars.data.toList)) ∧ Below w.heap.size w w' := Any.strings_ContainsAny Tryd.lays150 hv116 (by kernel_rfl) s chars w hs hcs has hac
open Go.RowKit Go.Lib in
theorem Tryd.strings_IndexAny_laid (s chars : ByteArray) (w : World) (hs : s.size < 4294967281) (hcs : chars.size < 4294967281) (has : ∀ (j : Nat) b, s.data.toList[j]? = some b → b.toNat < 128) (hac : ∀ (j : Nat) b, chars.data.toList[j]? = some b → b.toNat < 128) :
    Calls Tryd.prog 42 #[.string s, .string chars] w fun e w' => e = .returned (.int .i64 (Lib.indexAny s.data.toList chars.data.toList)) ∧ Below w.heap.size w w' := Any.strings_IndexAny_laid Tryd.lays153 (by kernel_rfl) s chars w hs hcs has hac
open Go.RowKit Go.Lib in
theorem Tryd.strings_ContainsAny_laid (s chars : ByteArray) (w : World) (hs : s.size < 4294967281) (hcs : chars.size < 4294967281) (has : ∀ (j : Nat) b, s.data.toList[j]? = some b → b.toNat < 128) (hac : ∀ (j : Nat) b, chars.data.toList[j]? = some b → b.toNat < 128) :
    Calls Tryd.prog 33 #[.string s, .string chars] w fun e w' => e = .returned (.bool (Lib.containsAny s.data.toList chars.data.toList)) ∧ Below w.heap.size w w' := Any.strings_ContainsAny_laid Tryd.lays150 (by kernel_rfl) s chars w hs hcs has hac
def Tryd.lays268_ren : Go.Shelf.Ren := ⟨fun | 268 => 19 | 195 => 26 | 197 => 27 | 260 => 39 | n => n, fun | 9 => 9 | 3 => 3 | 31 => 23 | 4 => 4 | 105 => 56 | 21 => 21 | 0 => 0 | 5 => 5 | 119 => 73 | 46 => 60 | 139 => 76 | 138 => 75 | n => n, fun | 3 => 1 | 4 => 2 | n => n⟩
theorem Tryd.lays268 : Go.Proofs.Lays.n268 Tryd.prog Tryd.lays268_ren := {
  mixed := by kernel_rfl
  f195 := Tryd.func26.trans (congrArg some (by kernel_rfl))
  f197 := Tryd.func27.trans (congrArg some (by kernel_rfl))
  f260 := Tryd.func39.trans (congrArg some (by kernel_rfl))
  f268 := Tryd.func19.trans (congrArg some (by kernel_rfl))
  t0 := Tryd.underlying0
  a0 := Tryd.isAgg0
  z0 := Tryd.sizeOf0
  v0 := Tryd.zeroValue0
  t3 := Tryd.underlying3
  a3 := Tryd.isAgg3
  z3 := Tryd.sizeOf3
  v3 := Tryd.zeroValue3
  t4 := Tryd.underlying4
  a4 := Tryd.isAgg4
  z4 := Tryd.sizeOf4
  v4 := Tryd.zeroValue4
  t5 := Tryd.underlying5
  a5 := Tryd.isAgg5
  z5 := Tryd.sizeOf5
  v5 := Tryd.zeroValue5
  t9 := Tryd.underlying9
  a9 := Tryd.isAgg9
  z9 := Tryd.sizeOf9
  v9 := Tryd.zeroValue9
  t21 := Tryd.underlying21
  a21 := Tryd.isAgg21
  z21 := Tryd.sizeOf21
  v21 := Tryd.zeroValue21
  t31 := Tryd.underlying23
  a31 := Tryd.isAgg23
  z31 := Tryd.sizeOf23
  v31 := Tryd.zeroValue23
  t46 := Tryd.underlying60
  a46 := Tryd.isAgg60
  z46 := Tryd.sizeOf60
  v46 := Tryd.zeroValue60
  t105 := Tryd.underlying56
  a105 := Tryd.isAgg56
  z105 := Tryd.sizeOf56
  v105 := Tryd.zeroValue56
  t119 := Tryd.underlying73
  a119 := Tryd.isAgg73
  z119 := Tryd.sizeOf73
  t138 := Tryd.underlying75
  a138 := Tryd.isAgg75
  z138 := Tryd.sizeOf75
  v138 := Tryd.zeroValue75
  t139 := Tryd.underlying76
  a139 := Tryd.isAgg76
  z139 := Tryd.sizeOf76
  v139 := Tryd.zeroValue76
  g3 := by kernel_rfl
  g4 := by kernel_rfl }
open Go.RowKit Go.Lib in
theorem Tryd.strings_explode_all (s : ByteArray) (n : Int) (w : World) (hn : n < 0) (hs : s.size < 4294967281) (hascii : ∀ (j : Nat) b, s.data.toList[j]? = some b → b.toNat < 128) :
    Calls Tryd.prog 19 #[.string s, .int .i64 n] w fun e w' =>
      e = .returned (.slice (some ⟨(w.iter s s.size).heap.size, 0, none⟩) s.size s.size) ∧ w' = (w.iter s s.size).alloc (.cells ((Lib.charsB s).map Value.string).toArray 9) := Any.strings_explode_all Tryd.lays268 (by kernel_rfl) s n w hn hs hascii
open Go.RowKit Go.Lib in
/-- strings.genSplit at sep == "", n < 0: 'return explode(s, n)'. (LAID: no walk: one application.) -/
theorem Tryd.strings_genSplit_chars (s sep : ByteArray) (sv n : Int) (w : World) (h0 : sep.size = 0) (hn : n < 0) (hs : s.size < 4294967281) (hascii : ∀ (j : Nat) b, s.data.toList[j]? = some b → b.toNat < 128) :
    Calls Tryd.prog 13 #[.string s, .string sep, .int .i64 sv, .int .i64 n] w fun e w' =>
      e = .returned (.slice (some ⟨(w.iter s s.size).heap.size, 0, none⟩) s.size s.size) ∧ w' = (w.iter s s.size).alloc (.cells ((Lib.charsB s).map Value.string).toArray 9) := Any.strings_genSplit_chars Tryd.lays221 (by kernel_rfl) s sep sv n w h0 hn hs hascii
open Go.RowKit Go.Lib in
/-- strings.Split(s, ""), s ASCII: a piece a byte. (LAID: no walk: one application.) -/
theorem Tryd.strings_Split_chars (s sep : ByteArray) (w : World) (h0 : sep.size = 0) (hs : s.size < 4294967281) (hascii : ∀ (j : Nat) b, s.data.toList[j]? = some b → b.toNat < 128) :
    Calls Tryd.prog 11 #[.string s, .string sep] w fun e w' =>
      e = .returned (.slice (some ⟨(w.iter s s.size).heap.size, 0, none⟩) s.size s.size) ∧ w' = (w.iter s s.size).alloc (.cells ((Lib.charsB s).map Value.string).toArray 9) := Any.strings_Split_chars Tryd.lays146 (by kernel_rfl) s sep w h0 hs hascii
def Tryd.lays260_ren : Go.Shelf.Ren := ⟨fun | 260 => 39 | n => n, fun | 9 => 9 | 21 => 21 | 3 => 3 | 4 => 4 | 5 => 5 | 119 => 73 | 0 => 0 | 46 => 60 | 139 => 76 | 138 => 75 | n => n, fun | 3 => 1 | 4 => 2 | n => n⟩
theorem Tryd.lays260 : Go.Proofs.Lays.n260 Tryd.prog Tryd.lays260_ren := {
  mixed := by kernel_rfl
  f260 := Tryd.func39.trans (congrArg some (by kernel_rfl))
  t0 := Tryd.underlying0
  a0 := Tryd.isAgg0
  z0 := Tryd.sizeOf0
  v0 := Tryd.zeroValue0
  t3 := Tryd.underlying3
  a3 := Tryd.isAgg3
  z3 := Tryd.sizeOf3
  v3 := Tryd.zeroValue3
  t4 := Tryd.underlying4
  a4 := Tryd.isAgg4
  z4 := Tryd.sizeOf4
  v4 := Tryd.zeroValue4
  t5 := Tryd.underlying5
  a5 := Tryd.isAgg5
  z5 := Tryd.sizeOf5
  v5 := Tryd.zeroValue5
  t9 := Tryd.underlying9
  a9 := Tryd.isAgg9
  z9 := Tryd.sizeOf9
  v9 := Tryd.zeroValue9
  t21 := Tryd.underlying21
  a21 := Tryd.isAgg21
  z21 := Tryd.sizeOf21
  v21 := Tryd.zeroValue21
  t46 := Tryd.underlying60
  a46 := Tryd.isAgg60
  z46 := Tryd.sizeOf60
  v46 := Tryd.zeroValue60
  t119 := Tryd.underlying73
  a119 := Tryd.isAgg73
  z119 := Tryd.sizeOf73
  t138 := Tryd.underlying75
  a138 := Tryd.isAgg75
  z138 := Tryd.sizeOf75
  v138 := Tryd.zeroValue75
  t139 := Tryd.underlying76
  a139 := Tryd.isAgg76
  z139 := Tryd.sizeOf76
  v139 := Tryd.zeroValue76
  g3 := by kernel_rfl
  g4 := by kernel_rfl }
open Go.RowKit Go.Lib in
theorem Tryd.utf8_decodeRuneInStringSlow (s : ByteArray) (w : World) (hT : Lib.Utf8Tabs 1 2 w) :
    Calls Tryd.prog 39 #[.string s] w fun e w' => e = .returned (.tuple #[.int .i32 (Lib.decodeGo s).1, .int .i64 (Lib.decodeGo s).2]) ∧ Below w.heap.size w w' := Any.utf8_decodeRuneInStringSlow Tryd.lays260 s w hT
open Go.RowKit Go.Lib in
/-- **unicode/utf8.DecodeRuneInString AT EVERY STRING.** (LAID: no walk: one application.) -/
theorem Tryd.utf8_DecodeRuneInString (s : ByteArray) (w : World) (hT : Lib.Utf8Tabs 1 2 w) :
    Calls Tryd.prog 27 #[.string s] w fun e w' => e = .returned (.tuple #[.int .i32 (Lib.decodeGo s).1, .int .i64 (Lib.decodeGo s).2]) ∧ Below w.heap.size w w' := Any.utf8_DecodeRuneInString Tryd.lays197 s w hT
def Tryd.lays229_ren : Go.Shelf.Ren := ⟨fun | 229 => 15 | n => n, fun | 9 => 9 | 40 => 44 | 31 => 23 | 152 => 48 | 3 => 3 | 0 => 0 | 4 => 4 | 21 => 21 | 154 => 50 | n => n, fun | n => n⟩
theorem Tryd.lays229 : Go.Proofs.Lays.n229 Tryd.prog Tryd.lays229_ren := {
  mixed := by kernel_rfl
  f229 := Tryd.func15.trans (congrArg some (by kernel_rfl))
  t0 := Tryd.underlying0
  a0 := Tryd.isAgg0
  z0 := Tryd.sizeOf0
  v0 := Tryd.zeroValue0
  t3 := Tryd.underlying3
  a3 := Tryd.isAgg3
  z3 := Tryd.sizeOf3
  v3 := Tryd.zeroValue3
  t4 := Tryd.underlying4
  a4 := Tryd.isAgg4
  z4 := Tryd.sizeOf4
  v4 := Tryd.zeroValue4
  t9 := Tryd.underlying9
  a9 := Tryd.isAgg9
  z9 := Tryd.sizeOf9
  v9 := Tryd.zeroValue9
  t21 := Tryd.underlying21
  a21 := Tryd.isAgg21
  z21 := Tryd.sizeOf21
  v21 := Tryd.zeroValue21
  t31 := Tryd.underlying23
  a31 := Tryd.isAgg23
  z31 := Tryd.sizeOf23
  v31 := Tryd.zeroValue23
  t40 := Tryd.underlying44
  a40 := Tryd.isAgg44
  z40 := Tryd.sizeOf44
  v40 := Tryd.zeroValue44
  t152 := Tryd.underlying48
  a152 := Tryd.isAgg48
  z152 := Tryd.sizeOf48
  v152 := Tryd.zeroValue48
  t154 := Tryd.underlying50
  a154 := Tryd.isAgg50
  z154 := Tryd.sizeOf50
  v154 := Tryd.zeroValue50 }
open Go.RowKit Go.Lib in
theorem Tryd.strings_FieldsFunc_runes (g : Nat) (lb : Array Value) (eg : ∀ args w, (callFunc g args).run Tryd.prog w = .ok (.enter g args) w) (p : Nat → Bool) (s : ByteArray) (w : World) (hs : s.size ≤ 4294967296) (hp : PredAtRunes Tryd.prog g lb p w) :
    Calls Tryd.prog 15 #[.string s, .func (.func g) #[] lb] w fun e w' => ∃ A, e = .returned (.slice (some ⟨A, 0, none⟩) (Lib.goFieldsP p s).length (Lib.goFieldsP p s).length) ∧ w.heap.size ≤ A ∧
      w'.ownsRow w.heap.size 9 1 (.slice (some ⟨A, 0, none⟩) (Lib.goFieldsP p s).length (Lib.goFieldsP p s).length) (Lib.goFieldsP p s).length ((Lib.goFieldsP p s).map Value.string) ∧ Below w.heap.size w w' := Any.strings_FieldsFunc_runes Tryd.lays229 g lb eg p s w hs hp (by kernel_rfl) (by kernel_rfl)
open Go.RowKit Go.Lib in
/-- .. over a hand of the authors' house's premise as it stands. (LAID: no walk: one application.) -/
theorem Tryd.strings_FieldsFunc (g : Nat) (lb : Array Value) (eg : ∀ args w, (callFunc g args).run Tryd.prog w = .ok (.enter g args) w) (p : Nat → Bool) (s : ByteArray) (w : World) (hs : s.size ≤ 4294967296) (hp : PredAt Tryd.prog g lb encR p w) :
    Calls Tryd.prog 15 #[.string s, .func (.func g) #[] lb] w fun e w' => ∃ A, e = .returned (.slice (some ⟨A, 0, none⟩) (Lib.goFieldsP p s).length (Lib.goFieldsP p s).length) ∧ w.heap.size ≤ A ∧
      w'.ownsRow w.heap.size 9 1 (.slice (some ⟨A, 0, none⟩) (Lib.goFieldsP p s).length (Lib.goFieldsP p s).length) (Lib.goFieldsP p s).length ((Lib.goFieldsP p s).map Value.string) ∧ Below w.heap.size w w' := Any.strings_FieldsFunc Tryd.lays229 g lb eg p s w hs hp (by kernel_rfl) (by kernel_rfl)
open Go.RowKit Go.Lib in
theorem Tryd.strings_FieldsFunc_grows (g : Nat) (lb : Array Value) (eg : ∀ args w, (callFunc g args).run Tryd.prog w = .ok (.enter g args) w) (p : Nat → Bool) (s : ByteArray) (w : World) (hs : s.size ≤ 4294967296) (hp : PredGrows Tryd.prog g lb p w) :
    Calls Tryd.prog 15 #[.string s, .func (.func g) #[] lb] w fun e w' => ∃ A, e = .returned (.slice (some ⟨A, 0, none⟩) (Lib.goFieldsP p s).length (Lib.goFieldsP p s).length) ∧ w.heap.size ≤ A ∧
      w'.ownsRow w.heap.size 9 1 (.slice (some ⟨A, 0, none⟩) (Lib.goFieldsP p s).length (Lib.goFieldsP p s).length) (Lib.goFieldsP p s).length ((Lib.goFieldsP p s).map Value.string) ∧ Below w.heap.size w w' := Any.strings_FieldsFunc_grows Tryd.lays229 g lb eg p s w hs hp (by kernel_rfl) (by kernel_rfl)
end Go.Proofs
/-
  Ext: functions of the library on texts, out of the kit's contracts. Own work of this seat.
-/
namespace Go.Proofs.YtanocopjancaiaaDoor
open Go.Abs Go.RowKit

theorem callable_of {P : Program} {f : FuncId} {fn : Func} (hf : P.funcs[f]? = some fn) (h : (fn.name == "runtime.NumGoroutine") = false) (hb : fn.body.isNone = false) : Callable P f := ⟨fn, hf, by simpa using h, hb⟩
theorem rep_str {W : World} {G φ} {s : Bytes} {x : Value} (h : Rep W G φ (.str s) x) : ∃ t : ByteArray, x = .string t ∧ t.data.toList = s := by
  cases h with
  | str l t h => exact ⟨t, rfl, h⟩
theorem repL2 {W : World} {G φ} {u v : V} {xs : Array Value} (h : RepL W G φ [u, v] xs) : ∃ x y, xs = #[x, y] ∧ Rep W G φ u x ∧ Rep W G φ v y := by
  obtain ⟨hl, h⟩ := h
  obtain ⟨l⟩ := xs
  match l, hl with
  | [x, y], _ => exact ⟨x, y, rfl, h 0 u x rfl rfl, h 1 v y rfl rfl⟩
theorem HasMax.at {w : World} (h : HasMax w) {W : World} {G : Nat → Nat} (hW : OKW (cxD w) W G) : ∃ m, W.cell? ⟨0, 0, none⟩ = some (.int .i64 m) := by
  obtain ⟨m, hm⟩ := h
  refine ⟨m, ?_⟩
  rw [hW.below.cell (p := ⟨0, 0, none⟩) ?_]
  · exact hm
  · rcases Nat.lt_or_ge 0 (cxD w).w0.heap.size with h0 | h0
    · exact h0
    · exfalso
      have : w.heap[(0 : Nat)]? = none := Array.getElem?_eq_none h0
      simp only [World.cell?, this] at hm
      cases hm
theorem two_str {args : List V} {a b : Bytes} (h : nfL args = [V.str a, V.str b]) : args = [.str a, .str b] := by
  obtain ⟨u, v, rfl, h1, h2⟩ := nfL_cons h
  obtain ⟨u', v', rfl, h3, h4⟩ := nfL_cons h2
  obtain rfl := nfL_nil h4
  rw [nf_str h1, nf_str h3]
theorem nfL_strs (l : List Bytes) : nfL (l.map .str) = l.map .str := by rw [nfL_map, List.map_map]; rfl

/-! ### strings.Split at one byte -/
def splitOn (c : UInt8) : Bytes → List Bytes
  | [] => [[]]
  | b :: r => if b = c then [] :: splitOn c r else match splitOn c r with
    | [] => [[b]]
    | x :: xs => (b :: x) :: xs
theorem splitK_one (c : UInt8) : ∀ s : Bytes, Lib.splitK [c] 0 (s.count c) s = splitOn c s
  | [] => rfl
  | b :: r => by
    have ih := splitK_one c r
    simp only [splitOn]
    by_cases h : b = c
    · subst h
      rw [List.count_cons_self, if_pos rfl]
      simp only [Lib.splitK, Lib.index]
      simp [ih]
    · rw [if_neg h, List.count_cons_of_ne h]
      cases hk : r.count c with
      | zero => rw [hk] at ih; simp only [Lib.splitK] at ih ⊢; rw [← ih]
      | succ k =>
        rw [hk] at ih
        simp only [Lib.splitK, Lib.index] at ih ⊢
        have hp : List.isPrefixOf [c] (b :: r) = false := by simp [List.isPrefixOf, Ne.symm h]
        simp only [hp, Bool.false_eq_true, if_false]
        by_cases hi : Lib.index r [c] = -1
        · simp only [hi, beq_self_eq_true, if_true] at ih ⊢
          rw [← ih]
        · have hge := Lib.index_ge r [c]
          have e1 : (Lib.index r [c] == -1) = false := by simpa using hi
          have e2 : (Lib.index r [c] + 1 == -1) = false := by simp; omega
          simp only [e1, e2, Bool.false_eq_true, if_false] at ih ⊢
          rw [← ih]
          have e3 : (Lib.index r [c] + 1).toNat = (Lib.index r [c]).toNat + 1 := by omega
          simp [e3]

def g.strings_Split (s c : Bytes) : Option (List Bytes) := if s.length < 4294967281 ∧ c.length = 1 then some (splitOn (c.headD 0) s) else none
def K.strings_Split : FC := fc 11 (fun _ => true) true (fun (a : Bytes × Bytes) => [V.str a.1, V.str a.2]) (fun (y : List Bytes) => .sl false 1 (y.map .str)) (fun a => g.strings_Split a.1 a.2)
  (fun _ => rfl) (fun y => cleanL_map (fun _ => rfl) y) (fun ⟨a, b⟩ ⟨c, d⟩ h => by simp at h; simp [h])
theorem H.strings_Split (w : World) (hw : EnvOK w) : K.strings_Split.Holds (cxD w) := by
  rintro args y ⟨⟨s, c⟩, r, ha, hg, rfl⟩
  obtain rfl := two_str ha
  simp only [g.strings_Split] at hg
  split at hg
  · rename_i hc
    cases hg
    refine ⟨.sl false 1 ((splitOn (c.headD 0) s).map .str), true, ?_, by show V.sl false 1 (nfL _) = _; rw [nfL_strs], fun _ => .inl rfl⟩
    refine PC.texts (callable_of Tryd.func11 (by kernel_rfl) (by kernel_rfl)) fun W G φ xs hW hxs => ?_
    obtain ⟨x, y, rfl, hx, hy⟩ := repL2 hxs
    obtain ⟨t, rfl, rfl⟩ := rep_str hx
    obtain ⟨u, rfl, hu⟩ := rep_str hy
    obtain ⟨m, hm⟩ := hw.max.at hW
    have hu1 : u.size = 1 := by rw [Lib.size_eq, hu]; exact hc.2
    have hsz : t.size < 4294967281 := by rw [Lib.size_eq]; exact hc.1
    refine (Tryd.strings_Split t u m W hsz hm (by omega)).mono fun e W' ⟨he, hW'⟩ => ?_
    have hlen := Lib.splitB_all u (by omega) 0 _ t rfl
    refine ⟨Lib.splitB u 0 (Lib.countB t u) t, _, ?_, by rw [he, hlen], hW'⟩
    have hu2 : u.data.toList = [c.headD 0] := by
      rw [hu]
      match c, hc.2 with
      | [b], _ => rfl
    rw [Lib.splitB_data, hu2]
    have : Lib.countB t u = t.data.toList.count (c.headD 0) := by
      unfold Lib.countB
      rw [hu2, Lib.count_one]
    rw [this, splitK_one]
  · cases hg

end Go.Proofs.YtanocopjancaiaaDoor
/-
  B1: words about functions of the library and the documents that several laws use: prefixes, is a text among others. Own work of this seat.
-/
namespace Go.Proofs.YtanocopjancaiaaDoor
open Go.Abs
set_option maxRecDepth 10000
theorem splitOn_ne (c : UInt8) (s : Bytes) : splitOn c s ≠ [] := by
  cases s with
  | nil => simp [splitOn]
  | cons b r => simp only [splitOn]; split <;> (try split) <;> simp
def addH (cur : Bytes) : List Bytes → List Bytes
  | [] => [cur]
  | x :: xs => (cur ++ x) :: xs
theorem addH_nil {l : List Bytes} (h : l ≠ []) : addH [] l = l := by
  cases l with
  | nil => exact absurd rfl h
  | cons x xs => rfl
theorem splitOn_eq_c (c : UInt8) (r cur : Bytes) : addH cur (splitOn c (c :: r)) = cur :: splitOn c r := by simp [splitOn, addH]
theorem splitOn_ne_c {c b : UInt8} (h : b ≠ c) (r cur : Bytes) : addH cur (splitOn c (b :: r)) = addH (cur ++ [b]) (splitOn c r) := by
  simp only [splitOn, if_neg h]
  cases h' : splitOn c r with
  | nil => exact absurd h' (splitOn_ne _ _)
  | cons x xs => simp [addH]
theorem take_one {α : Type} {l : List α} {i f : Nat} (h : i < l.length) (hf : f ≤ i) : (l.take (i + 1)).drop f = (l.take i).drop f ++ [l[i]] := by
  rw [List.take_add_one, List.getElem?_eq_getElem h, Option.toList_some, List.drop_append_of_le_length (by simp; omega)]
theorem splitOn_mid (c : UInt8) (b : Bytes) : ∀ a : Bytes, splitOn c (a ++ c :: b) = splitOn c a ++ splitOn c b
  | [] => by simp [splitOn]
  | x :: a => by
    have ih := splitOn_mid c b a
    simp only [List.cons_append, splitOn]
    split
    · rw [ih]; rfl
    · rw [ih]
      cases h : splitOn c a with
      | nil => exact absurd h (splitOn_ne _ _)
      | cons y ys => rfl
variable {e : Nat → List V → Option V}
/-! ## prefixes -/
theorem v.hasPrefix0 (s p : Bytes) : vl e 58 0 [.str s, .str p] = some (.bool (decide (s.take p.length = p))) := by
  rw [w.internal_stringslite_HasPrefix]; unfold y.internal_stringslite_HasPrefix
  by_cases h : p.length ≤ s.length
  · simp only [yy, if_pos (show (p.length : Int) ≤ (s.length : Int) by omega), v_sls0 h]
  · simp only [yy, if_neg (show ¬ ((p.length : Int) ≤ (s.length : Int)) by omega)]
    exact some_f fun h1 => by have := congrArg List.length h1; simp at this; omega
theorem v.hasPrefix (s p : Bytes) : vl e 46 0 [.str s, .str p] = some (.bool (decide (s.take p.length = p))) := by
  rw [w.strings_HasPrefix]; unfold y.strings_HasPrefix
  simp only [yy, v.hasPrefix0]
theorem take_le {s p : Bytes} (h : s.take p.length = p) : p.length ≤ s.length := by have := congrArg List.length h; simp at this; omega
/-! ## is a text among others? -/
def inB (on : List Bytes) (t : Bytes) : Bool := decide (t ∈ on)
theorem inB_cons (x t : Bytes) (on : List Bytes) : inB (x :: on) t = (decide (t = x) || inB on t) := by simp [inB]
theorem v.Contains (on : List Bytes) (t : Bytes) (hl : on.length ≤ 1000000000) : vl e 18 0 [strs on, .str t] = some (.bool (inB on t)) := by
  have key : ∀ (n i : Nat), i + n = on.length → ∃ r : Int, vl e 25 8 [strs on, .str t, I on.length, I i] = some (I r) ∧ (0 ≤ r ↔ inB (on.drop i) t = true) := by
    intro n
    induction n with
    | zero =>
      intro i hi
      refine ⟨-1, ?_, ?_⟩
      · rw [w.slices_Index_Lstring_string_8]; unfold y.slices_Index_Lstring_string_8
        simp only [yy, if_neg (show ¬ ((i : Int) < (on.length : Int)) by omega)]
      · rw [List.drop_eq_nil_of_le (by omega)]; simp [inB]
    | succ n ih =>
      intro i hi
      have hlt : i < on.length := by omega
      obtain ⟨r, h1, h2⟩ := ih (i + 1) (by omega)
      by_cases h : t = on[i]
      · refine ⟨i, ?_, ?_⟩
        · rw [w.slices_Index_Lstring_string_8]; unfold y.slices_Index_Lstring_string_8
          simp only [yy, if_pos (show (i : Int) < (on.length : Int) by omega), v_get hlt, v_lds, if_pos h]
        · rw [List.drop_eq_getElem_cons hlt, inB_cons, decide_eq_true h]; simp
      · refine ⟨r, ?_, ?_⟩
        · rw [w.slices_Index_Lstring_string_8]; unfold y.slices_Index_Lstring_string_8
          simp only [yy, if_pos (show (i : Int) < (on.length : Int) by omega), v_get hlt, v_lds, if_neg h, next64 hlt (by omega), h1]
        · rw [List.drop_eq_getElem_cons hlt, inB_cons, decide_eq_false h, Bool.false_or]; exact h2
  obtain ⟨r, h1, h2⟩ := key on.length 0 (by omega)
  rw [w.slices_Contains_Lstring_string]; unfold y.slices_Contains_Lstring_string
  have hI : vl e 25 0 [strs on, .str t] = some (I r) := by
    rw [w.slices_Index_Lstring_string]; unfold y.slices_Index_Lstring_string
    simp only [yy]; exact h1
  simp only [yy, hI]
  rw [List.drop_zero] at h2
  cases h : inB on t
  · rw [h] at h2; rw [decide_eq_false (fun h' => absurd (h2.1 h') (by decide))]
  · rw [h] at h2; rw [decide_eq_true (h2.2 rfl)]
theorem v.Cut (p : Bytes) (c : UInt8) (hp : p.length ≤ 1000000000) : vl e 7 0 [.str p, byteV c] = some (strs (splitOn c p)) := by
  have hLim : Lim = 4294967296 := rfl
  have key : ∀ (n i f : Nat) (acc : List Bytes), p.length + 1 = n + i → f ≤ i → acc.length ≤ i →
      (i ≤ p.length → vl e 7 12 [.str p, byteV c, strs acc, I f, I i] = some (strs (acc ++ addH ((p.take i).drop f) (splitOn c (p.drop i))))) ∧ (i = p.length + 1 → vl e 7 12 [.str p, byteV c, strs acc, I f, I i] = some (strs acc)) := by
    intro n
    induction n with
    | zero =>
      intro i f acc hn hf ha
      refine ⟨fun h => by omega, fun h => ?_⟩
      rw [w.seicheref14_Cut_12]; unfold y.seicheref14_Cut_12
      simp only [yy, if_neg (show ¬ ((i : Int) ≤ (p.length : Int)) by omega)]
    | succ n ih =>
      intro i f acc hn hf ha
      refine ⟨fun hil => ?_, fun h => by omega⟩
      have e1 : IntKind.i64.wrap ((i : Int) + 1) = ((i + 1 : Nat) : Int) := w64 _ (by omega)
      rw [w.seicheref14_Cut_12]; unfold y.seicheref14_Cut_12
      by_cases he : i = p.length
      · have hih := (ih (i + 1) (i + 1) (acc ++ [(p.take i).drop f]) (by omega) (Nat.le_refl _) (by simp; omega)).2 (by omega)
        simp only [yy, if_pos (show (i : Int) ≤ (p.length : Int) by omega), if_pos (show (i : Int) = (p.length : Int) by omega), v_sls2 hf hil, v_bsl1, v_push (show acc.length + 1 ≤ Lim by omega), e1, hih]
        rw [List.drop_eq_nil_of_le (show p.length ≤ i by omega)]
        simp [splitOn, addH]
      · have hlt : i < p.length := by omega
        by_cases hc : p[i] = c
        · have hih := (ih (i + 1) (i + 1) (acc ++ [(p.take i).drop f]) (by omega) (Nat.le_refl _) (by simp; omega)).1 (by omega)
          simp only [yy, if_pos (show (i : Int) ≤ (p.length : Int) by omega), if_neg (show ¬ ((i : Int) = (p.length : Int)) by omega), v_idx (List.getElem?_eq_getElem hlt), hc, byteV, if_true, v_sls2 hf hil, v_bsl1, v_push (show acc.length + 1 ≤ Lim by omega), e1]
          refine hih.trans ?_
          rw [List.drop_eq_getElem_cons hlt, hc, splitOn_eq_c, List.append_assoc]
          congr 2
          rw [show (p.take (i + 1)).drop (i + 1) = [] from List.drop_eq_nil_of_le (by simp; omega), addH_nil (splitOn_ne _ _)]; rfl
        · have hih := (ih (i + 1) f acc (by omega) (by omega) (by omega)).1 (by omega)
          have hne : ¬ ((p[i].toNat : Int) = (c.toNat : Int)) := fun h => hc (UInt8.toNat_inj.1 (by omega))
          simp only [yy, if_pos (show (i : Int) ≤ (p.length : Int) by omega), if_neg (show ¬ ((i : Int) = (p.length : Int)) by omega), v_idx (List.getElem?_eq_getElem hlt), byteV, if_neg hne, e1]
          refine hih.trans ?_
          rw [List.drop_eq_getElem_cons hlt, splitOn_ne_c hc, take_one hlt hf]
  rw [w.seicheref14_Cut]; unfold y.seicheref14_Cut
  refine ((key (p.length + 1) 0 0 [] (by omega) (Nat.le_refl _) (Nat.le_refl _)).1 (Nat.zero_le _)).trans ?_
  simp [addH_nil (splitOn_ne _ _)]
end Go.Proofs.YtanocopjancaiaaDoor
/-
  Ext: rows of texts. Own work of this seat.
-/
namespace Go.Proofs.YtanocopjancaiaaDoor
open Go.Abs Go.RowKit Go.Shelf Go.Sort

theorem rep_texts {W : World} {G φ} {nl : Bool} {l : List Bytes} {x : Value} (h : Rep W G φ (.sl nl 1 (l.map .str)) x) :
    (x = .slice none 0 0 ∧ l = []) ∨ (∃ a, x = .slice (some a) 0 0 ∧ l = []) ∨ ∃ (b off cap : Nat) (zs : List ByteArray), x = .slice (some ⟨b, off, none⟩) zs.length cap ∧ zs.map (·.data.toList) = l ∧ zs.length ≤ cap ∧
      ∀ j, j < zs.length → W.cell? ⟨b, off + j, none⟩ = some (.string (zs.getD j ByteArray.empty)) := by
  generalize hv : l.map V.str = ys at h
  cases h with
  | slnil => exact .inl ⟨rfl, List.map_eq_nil_iff.1 hv⟩
  | sl0 _ a => exact .inr (.inl ⟨a, rfl, List.map_eq_nil_iff.1 hv⟩)
  | sl _ _ b off cap rd hcap hG hx hrd h =>
    subst hv
    right; right
    have hs : ∀ i s, l[i]? = some s → ∃ t : ByteArray, rd i = .string t ∧ t.data.toList = s := by
      intro i s hi
      have := h i (.str s) 0 (.str s) (by simp [hi]) rfl
      simp only [Nat.mul_one, Nat.add_zero] at this
      obtain ⟨t, h1, h2⟩ := rep_str this
      exact ⟨t, h1, h2⟩
    refine ⟨b, off, cap, (List.range l.length).map fun i => match rd i with | .string t => t | _ => ByteArray.empty, by simp, ?_, by simpa using hcap, fun j hj => ?_⟩
    · apply List.ext_getElem?
      intro i
      rcases Nat.lt_or_ge i l.length with hi | hi
      · obtain ⟨t, h1, h2⟩ := hs i _ (List.getElem?_eq_getElem hi)
        simp [hi, h1, h2]
      · simp [Nat.not_lt.2 hi, hi]
    · have hj' : j < l.length := by simpa using hj
      obtain ⟨t, h1, h2⟩ := hs j _ (List.getElem?_eq_getElem hj')
      rw [hrd j (by simpa using hj'), h1]
      simp [List.getD, hj', h1]

theorem nf_strs : ∀ {xs : List V} {l : List Bytes}, nfL xs = l.map V.str → xs = l.map V.str
  | [], [], _ => rfl
  | [], _ :: _, h => by simp [nfL] at h
  | _ :: _, [], h => by simp [nfL] at h
  | x :: xs, y :: l, h => by
    obtain ⟨h1, h2⟩ := List.cons.inj (show x.nf :: nfL xs = V.str y :: l.map V.str from h)
    rw [nf_str h1, nf_strs h2]; rfl
end Go.Proofs.YtanocopjancaiaaDoor
/-
  Ext: strconv.Atoi, strconv.Itoa, out of the kit's contracts; what they ask of the world. Own work of this seat.
-/
namespace Go.Proofs.YtanocopjancaiaaDoor
open Go.Abs Go.RowKit Go.Shelf Go.Sort

def IsErr (w : World) (g : Nat) : Prop := ∃ ev, w.cell? ⟨g, 0, none⟩ = some ev ∧ (ev = .nilIface ∨ ∃ te pe, ev = .iface te pe)
structure EnvE (w : World) : Prop where
  max : HasMax w
  syn : IsErr w 3
  rng : IsErr w 4
  tab : Lib.TabIs Tryd.prog w "internal/strconv.uint64pow10" .u64 Lib.pow10Tab
theorem EnvE.toOK {w : World} (h : EnvE w) : EnvOK w := ⟨h.max⟩
theorem IsErr.at {w W : World} {g : Nat} {G : Nat → Nat} (h : IsErr w g) (hW : OKW (cxD w) W G) : IsErr W g := by
  obtain ⟨ev, hc, he⟩ := h
  refine ⟨ev, ?_, he⟩
  rw [hW.below.cell (p := ⟨g, 0, none⟩) (show g < w.heap.size from Lib.lt_of_cell hc)]
  exact hc
theorem tab_at {w W : World} {G : Nat → Nat} (h : Lib.TabIs Tryd.prog w "internal/strconv.uint64pow10" .u64 Lib.pow10Tab) (hW : OKW (cxD w) W G) : Lib.TabIs Tryd.prog W "internal/strconv.uint64pow10" .u64 Lib.pow10Tab :=
  Go.Joins.tab_stays (g := 5) (by kernel_rfl) h hW.below (Nat.le_refl _)

/-! ### strconv.Atoi -/
def atoiV (s : Bytes) : Int × Bool := match Lib.atoiAll s with
  | .ok v => (v, true)
  | .«syntax» => (0, false)
  | .range => (Lib.atoiSat s, false)
def errV : V := .iface 87 (.el [] 0)
def atoiE (y : Int × Bool) : V := .tup [.int .i64 y.1, if y.2 then .nilif else errV]
def g.strconv_Atoi (s : Bytes) : Option (Int × Bool) := if s.length ≤ 281474976710656 then some (atoiV s) else none
theorem atoi_clean (y : Int × Bool) : (atoiE y).clean = true := by
  obtain ⟨n, b⟩ := y
  cases b <;> rfl
theorem atoi_nf (y : Int × Bool) : (atoiE y).nf = atoiE y := by
  obtain ⟨n, b⟩ := y
  cases b <;> rfl
def K.strconv_Atoi : FC := fc 34 (fun _ => true) false (fun (a : Bytes) => [V.str a]) atoiE g.strconv_Atoi
  (fun _ => rfl) atoi_clean (fun _ _ h => V.str.inj (List.cons.inj h).1)
theorem repL1 {W : World} {G φ} {u : V} {xs : Array Value} (h : RepL W G φ [u] xs) : ∃ x, xs = #[x] ∧ Rep W G φ u x := by
  obtain ⟨hl, h⟩ := h
  obtain ⟨l⟩ := xs
  match l, hl with
  | [x], _ => exact ⟨x, rfl, h 0 u x rfl rfl⟩
theorem rep_pair {W : World} {G φ} {u v : V} {x y : Value} (h : Rep W G φ u x) (k : Rep W G φ v y) : Rep W G φ (.tup [u, v]) (.tuple #[x, y]) :=
  .tup _ _ rfl fun i c z hc hz => by
    match i with
    | 0 => simp at hc hz; subst hc; subst hz; exact h
    | 1 => simp at hc hz; subst hc; subst hz; exact k
    | i + 2 => simp at hc
theorem rep_err (W : World) (G φ) (N : Nat) : Rep W G φ errV (.iface 87 (.pointer (some ⟨N, 0, none⟩))) := by
  refine .iface _ _ _ ?_
  exact .el [] 0 N 0 (fun _ => undef) (Nat.zero_le _) (fun c hc => by cases hc) (fun k hk => by simp at hk) (fun k c hc => by simp at hc)
theorem H.strconv_Atoi (w : World) (hw : EnvE w) : K.strconv_Atoi.Holds (cxD w) := by
  rintro args y ⟨s, r, ha, hg, rfl⟩
  obtain ⟨u, v, rfl, h1, h2⟩ := nfL_cons ha
  obtain rfl := nfL_nil h2
  obtain rfl := nf_str h1
  simp only [g.strconv_Atoi] at hg
  split at hg
  · rename_i hc
    cases hg
    refine ⟨atoiE (atoiV s), false, ?_, atoi_nf _, fun h => nomatch h⟩
    refine PC.pure (callable_of Tryd.func34 (by kernel_rfl) (by kernel_rfl)) fun W G φ xs hW hxs => ?_
    obtain ⟨x, rfl, hx⟩ := repL1 hxs
    obtain ⟨t, rfl, rfl⟩ := rep_str hx
    have hsz : t.size ≤ 281474976710656 := by rw [Lib.size_eq]; exact hc
    cases hA : Lib.atoiAll t.data.toList with
    | ok v =>
      refine (Tryd.strconv_Atoi_ok t (by omega) v hA W).mono fun e W' ⟨he, hW'⟩ => ⟨_, he, ?_, fun W'' G' => ?_⟩
      · rcases hW' with rfl | ⟨q, rfl⟩
        · exact .refl _ _
        · exact Lib.bytesWorld_below _ _ _
      · have e : atoiE (atoiV t.data.toList) = .tup [.int .i64 v, .nilif] := by unfold atoiE atoiV; rw [hA]; rfl
        rw [e]; exact rep_pair (.int _ _) .nilif
    | «syntax» =>
      obtain ⟨ev, hcell, hev⟩ := hw.syn.at hW
      refine (Tryd.strconv_Atoi_syntax t hsz hA ev W hcell hev).mono fun e W' ⟨N, he, _, _, hB⟩ => ⟨_, he, hB, fun W'' G' => ?_⟩
      have e : atoiE (atoiV t.data.toList) = .tup [.int .i64 0, errV] := by unfold atoiE atoiV; rw [hA]; rfl
      rw [e]; exact rep_pair (.int _ _) (rep_err _ _ _ _)
    | range =>
      obtain ⟨ev, hcell, hev⟩ := hw.rng.at hW
      refine (Tryd.strconv_Atoi_range t hsz hA ev W hcell hev).mono fun e W' ⟨N, he, _, _, hB⟩ => ⟨_, he, hB, fun W'' G' => ?_⟩
      have e : atoiE (atoiV t.data.toList) = .tup [.int .i64 (Lib.atoiSat t.data.toList), errV] := by unfold atoiE atoiV; rw [hA]; rfl
      rw [e]; exact rep_pair (.int _ _) (rep_err _ _ _ _)
  · cases hg

/-! ### strconv.Itoa -/
def g.strconv_Itoa (n : Int) : Option Bytes := if -9223372036854775808 ≤ n ∧ n ≤ 9223372036854775807 then some (Lib.itoa n) else none
def K.strconv_Itoa : FC := fc 35 (fun _ => true) false (fun (n : Int) => [V.int .i64 n]) (fun (y : Bytes) => .str y) g.strconv_Itoa
  (fun _ => rfl) (fun _ => rfl) (fun _ _ h => (V.int.inj (List.cons.inj h).1).2)
theorem H.strconv_Itoa (w : World) (hw : EnvE w) : K.strconv_Itoa.Holds (cxD w) := by
  rintro args y ⟨n, r, ha, hg, rfl⟩
  obtain ⟨u, v, rfl, h1, h2⟩ := nfL_cons ha
  obtain rfl := nfL_nil h2
  obtain rfl := nf_int h1
  simp only [g.strconv_Itoa] at hg
  split at hg
  · rename_i hc
    cases hg
    refine ⟨.str _, false, ?_, rfl, fun h => nomatch h⟩
    refine PC.pure (callable_of Tryd.func35 (by kernel_rfl) (by kernel_rfl)) fun W G φ xs hW hxs => ?_
    obtain ⟨x, rfl, hx⟩ := repL1 hxs
    cases hx
    refine (Tryd.strconv_Itoa n hc.1 hc.2 W (tab_at hw.tab hW)).mono fun e W' ⟨he, k, os, hW'⟩ => ⟨_, he, ?_, fun W'' G' => .str _ _ rfl⟩
    rw [hW']
    exact ⟨rfl, rfl, rfl, by show W.heap.size ≤ (W.heap ++ os).size; rw [Array.size_append]; omega, fun j hj => by show (W.heap ++ os)[j]? = W.heap[j]?; exact Array.getElem?_append_left hj⟩
  · cases hg

/-! ### the world of a row that lists the errors and the table -/
theorem laid_on {P : Program} {x : String × DataW Unit} {r : List (String × DataW Unit)} {W : World} (h : laidMet P (x :: r) W) : laidMet P r W := by
  obtain ⟨ps, hv, hnd, hrows⟩ := h
  obtain ⟨g, t, cs, fuel, p, q, _, _, _, _, hq, rfl⟩ := hv
  exact ⟨q, hq, List.Nodup.sublist (List.sublist_append_right _ _) hnd, fun b off hm => hrows b off (List.mem_append_right _ hm)⟩
theorem isErr_of {P : Program} {n : String} {g : Nat} {W : World} {tp : TypeId} {a : Addr} (hg : P.globalNamed n = some g) (h : W.var? P n = some #[.iface tp (.pointer (some a))]) : IsErr W g :=
  ⟨_, by have h0 := World.var?_cell hg h 0; simpa using h0, .inr ⟨_, _, rfl⟩⟩
end Go.Proofs.YtanocopjancaiaaDoor
/-
  Ext: strings.FieldsFunc at blanks and tabs, strings.Join, out of the kit's contracts. Own work of this seat.
-/
namespace Go.Proofs.YtanocopjancaiaaDoor
open Go.Abs Go.RowKit Go.Shelf Go.Sort

/-! ### words: by bytes -/
def fldB (q : UInt8 → Bool) : Bytes → Bytes → List Bytes
  | [], cur => if cur = [] then [] else [cur]
  | b :: r, cur => if q b then (if cur = [] then fldB q r [] else cur :: fldB q r []) else fldB q r (cur ++ [b])
theorem fld_run {q : UInt8 → Bool} {r : Bytes} : ∀ {xs cur : Bytes}, (∀ x ∈ xs, q x = false) → fldB q (xs ++ r) cur = fldB q r (cur ++ xs)
  | [], cur, _ => by simp
  | x :: xs, cur, h => by
    rw [List.cons_append, fldB, h x (by simp), if_neg (by simp), fld_run fun y hy => h y (by simp [hy])]; simp
theorem dec_facts {n b0 b1 b2 b3 : Nat} (hn : 1 ≤ n) (h0 : 128 ≤ b0) : 128 ≤ (Lib.decodeN n b0 b1 b2 b3).1 ∧ 1 ≤ (Lib.decodeN n b0 b1 b2 b3).2 ∧ (Lib.decodeN n b0 b1 b2 b3).2 ≤ n ∧ (Lib.decodeN n b0 b1 b2 b3).2 ≤ 4 ∧
    (2 ≤ (Lib.decodeN n b0 b1 b2 b3).2 → 128 ≤ b1) ∧ (3 ≤ (Lib.decodeN n b0 b1 b2 b3).2 → 128 ≤ b2) ∧ (4 ≤ (Lib.decodeN n b0 b1 b2 b3).2 → 128 ≤ b3) := by
  unfold Lib.decodeN
  repeat' split
  all_goals (simp only; omega)
theorem dec_low {n b0 b1 b2 b3 : Nat} (h0 : b0 < 128) : Lib.decodeN n b0 b1 b2 b3 = (b0, 1) := by unfold Lib.decodeN; rw [if_pos h0]
def spanB (s : Bytes) (x : Nat × Nat) : Bytes := (s.take x.2).drop x.1
theorem spans_fld {p : Nat → Bool} {q : UInt8 → Bool} (hq : ∀ b : UInt8, q b = (decide (b.toNat < 128) && p b.toNat)) (hp : ∀ r, 128 ≤ r → p r = false) (s : ByteArray) (L : Bytes) (hL : s.data.toList = L) (hsz : s.size = L.length) :
    ∀ (f pos : Nat) (st : Option Nat) (acc : List (Nat × Nat)), pos ≤ s.size → s.size ≤ f + pos → (∀ a, st = some a → a < pos) →
      (Lib.closeSpans s (Lib.spansFromP p s f pos st acc)).map (spanB L) = acc.map (spanB L) ++ fldB q (L.drop pos) (match st with | some a => (L.take pos).drop a | none => [])
  | 0, pos, st, acc, h1, h2, h3 => by
    have e : pos = s.size := by omega
    subst e
    rw [hsz, List.drop_length, List.take_length]
    simp only [Lib.spansFromP, Lib.closeSpans]
    cases st with
    | none => simp [fldB]
    | some a =>
      have ha := h3 a rfl
      rw [hsz] at ha
      have : L.drop a ≠ [] := fun e => by have := congrArg List.length e; rw [List.length_drop, List.length_nil] at this; omega
      simp only [List.map_append, List.map_cons, List.map_nil, spanB, fldB, if_neg this, hsz, List.take_length]
  | f + 1, pos, st, acc, h1, h2, h3 => by
    unfold Lib.spansFromP
    have e1 : (L.take pos).drop pos = [] := List.drop_eq_nil_of_le (by simp; omega)
    by_cases hlt : pos < s.size
    · rw [if_pos hlt]
      have hltl : pos < L.length := by rw [← hsz]; exact hlt
      have hg : ∀ k (hk : pos + k < L.length), L.getD (pos + k) 0 = L[pos + k] := fun k hk => by simp [List.getD, hk]
      have hd := Lib.decode_N s pos
      rw [hL] at hd
      by_cases hb : L[pos].toNat < 128
      · have hdec : Utf8.decode s pos = (L[pos].toNat, 1) := by
          have h0 : L.getD pos 0 = L[pos] := hg 0 hltl
          rw [hd, h0]; exact dec_low hb
        have hqb : q L[pos] = p L[pos].toNat := by rw [hq, decide_eq_true hb, Bool.true_and]
        rw [hdec, List.drop_eq_getElem_cons hltl, fldB, hqb]
        simp only
        cases hpb : p L[pos].toNat
        · simp only [Bool.false_eq_true, if_false]
          cases st with
          | none =>
            rw [spans_fld hq hp s L hL hsz f (pos + 1) (some pos) acc (by omega) (by omega) (fun a h => by cases h; omega)]
            simp only [List.nil_append]
            rw [List.take_add_one, List.getElem?_eq_getElem hltl, List.drop_append_of_le_length (by simp; omega), e1]; rfl
          | some a =>
            have ha := h3 a rfl
            rw [spans_fld hq hp s L hL hsz f (pos + 1) (some a) acc (by omega) (by omega) (fun a' h => by cases h; omega)]
            simp only
            rw [List.take_add_one, List.getElem?_eq_getElem hltl, List.drop_append_of_le_length (by simp; omega)]; rfl
        · simp only [if_true]
          cases st with
          | none => rw [spans_fld hq hp s L hL hsz f (pos + 1) none acc (by omega) (by omega) (fun a h => by cases h)]; simp
          | some a =>
            have ha := h3 a rfl
            have hne : (L.take pos).drop a ≠ [] := fun e => by have := congrArg List.length e; rw [List.length_drop, List.length_take, List.length_nil] at this; omega
            rw [spans_fld hq hp s L hL hsz f (pos + 1) none _ (by omega) (by omega) (fun a h => by cases h), if_neg hne]
            simp [spanB]
      · have hb' : 128 ≤ L[pos].toNat := by omega
        obtain ⟨k1, k2, k3, k4, k5, k6, k7⟩ := dec_facts (n := L.length - pos) (b0 := (L.getD pos 0).toNat) (b1 := (L.getD (pos + 1) 0).toNat) (b2 := (L.getD (pos + 2) 0).toNat) (b3 := (L.getD (pos + 3) 0).toNat) (by omega) (by have h0 : L.getD pos 0 = L[pos] := hg 0 hltl; rw [h0]; exact hb')
        rw [← hd] at k1 k2 k3 k4 k5 k6 k7
        generalize hw : (Utf8.decode s pos).2 = w at k2 k3 k4 k5 k6 k7 ⊢
        generalize hr : (Utf8.decode s pos).1 = r at k1 ⊢
        rw [hp r k1, if_neg (by simp)]
        have hall : ∀ x ∈ (L.drop pos).take w, q x = false := by
          intro x hx
          obtain ⟨j, hj, rfl⟩ := List.getElem_of_mem hx
          simp only [List.length_take, List.length_drop] at hj
          simp only [List.getElem_take, List.getElem_drop]
          have h128 : 128 ≤ L[pos + j].toNat := by
            match j, hj with
            | 0, _ => exact hb'
            | 1, hj => have := k5 (by omega); rw [hg 1 (by omega)] at this; exact this
            | 2, hj => have := k6 (by omega); rw [hg 2 (by omega)] at this; exact this
            | 3, hj => have := k7 (by omega); rw [hg 3 (by omega)] at this; exact this
            | j + 4, hj => omega
          rw [hq, decide_eq_false (by omega)]; rfl
        have hsp : L.drop pos = (L.drop pos).take w ++ L.drop (pos + w) := by
          rw [← List.drop_drop, List.take_append_drop]
        have htk : L.take (pos + w) = L.take pos ++ (L.drop pos).take w := List.take_add
        cases st with
        | none =>
          simp only
          rw [spans_fld hq hp s L hL hsz f (pos + w) (some pos) acc (by omega) (by omega) (fun a h => by cases h; omega)]
          rw [hsp, fld_run hall]
          simp only
          rw [htk, List.drop_append_of_le_length (by simp; omega), e1]
        | some a =>
          have ha := h3 a rfl
          simp only
          rw [spans_fld hq hp s L hL hsz f (pos + w) (some a) acc (by omega) (by omega) (fun a' h => by cases h; omega)]
          rw [hsp, fld_run hall]
          simp only
          rw [htk, List.drop_append_of_le_length (by simp; omega)]
    · rw [if_neg hlt]
      have e : pos = s.size := by omega
      have := spans_fld hq hp s L hL hsz 0 pos st acc h1 (by omega) h3
      simp only [Lib.spansFromP] at this
      exact this
theorem fields_data {p : Nat → Bool} {q : UInt8 → Bool} (hq : ∀ b : UInt8, q b = (decide (b.toNat < 128) && p b.toNat)) (hp : ∀ r, 128 ≤ r → p r = false) (s : ByteArray) :
    (Lib.goFieldsP p s).map (·.data.toList) = fldB q s.data.toList [] := by
  have := spans_fld hq hp s _ rfl (Lib.size_eq s) s.size 0 none [] (Nat.zero_le _) (by omega) (fun a h => by cases h)
  simp only [List.map_nil, List.nil_append, List.drop_zero] at this
  rw [← this]
  unfold Lib.goFieldsP Lib.spansOfP
  rw [List.map_map]
  apply List.map_congr_left
  intro x _
  simp only [Function.comp, spanB, Lib.extract_data, List.drop_take]

/-- .. a contract that gives a row of texts of its own, just as long as it is -/
theorem texts_own {cx : Cx} {f : FuncId} {args : List V} {l : List Bytes} (hc : Callable cx.P f)
    (h : ∀ W G φ xs, OKW cx W G → RepL W G φ args xs → Calls cx.P f xs W fun e W' => ∃ (ss : List ByteArray) (A : Nat), ss.map (·.data.toList) = l ∧ e = .returned (.slice (some ⟨A, 0, none⟩) ss.length ss.length) ∧ W.heap.size ≤ A ∧
      W'.ownsRow W.heap.size 9 1 (.slice (some ⟨A, 0, none⟩) ss.length ss.length) ss.length (ss.map .string) ∧ Below W.heap.size W W') :
    PC cx f args (.sl false 1 (l.map .str), true) := by
  refine .of hc fun W G φ xs hW hxs => (h W G φ xs hW hxs).mono fun e W' => ?_
  rintro ⟨ss, A, rfl, rfl, hA, hown, hB⟩
  obtain ⟨g, cap, he, hb, hlt, hn, hm, hlen, hH⟩ := Lib.holds_of_ownsRow (enc := Value.string) (zs := ss) hown (by simp)
  cases he
  refine ⟨fun b => if b = A then ss.length else G b, _, rfl, hB, fun b hb => if_neg (by omega), fun b hb => ?_, ?_, fun _ ow q how sz ys b off len cap sp hv hx => ?_⟩
  · dsimp only; rw [if_neg (by omega)]; exact hW.Gz b (Nat.le_trans hB.size hb)
  · have := Rep.sl (W := W') (G := fun b => if b = A then ss.length else G b) (φ := φ) 1 ((ss.map (·.data.toList)).map V.str) A 0 ss.length (fun k => .string (ss.getD k default)) (by simp) (by simp) (fun x hx => ?_) (fun k hk => ?_) (fun i x j c hi hj => ?_)
    · simpa using this
    · obtain ⟨s, _, rfl⟩ := List.mem_map.1 hx; simp
    · simp at hk
      rw [(hH k (by simpa using hk)).1]
      simp [List.getD, hk, getElem!_pos]
    · simp only [List.map_map, List.getElem?_map, Option.map_eq_some_iff] at hi
      obtain ⟨s, hs, rfl⟩ := hi
      cases j with
      | zero => simp at hj; subst hj; simp [List.getD, hs]; exact .str _ _ rfl
      | succ j => simp at hj
  · cases hx; exact .inl rfl

theorem fnv_eq {v : V} {f : Nat} (h : v.nf = .fn f []) : v = .fn f [] := by
  obtain ⟨cs, rfl, hc⟩ := nf_fn h
  rw [nfL_nil hc]
end Go.Proofs.YtanocopjancaiaaDoor
/-
  Ext: strings.Index, strings.FieldsFunc at blanks, tabs and carriage returns, strings.ContainsAny, out of the kit's contracts. Own work of this seat.
-/
namespace Go.Proofs.YtanocopjancaiaaDoor
open Go.Abs Go.RowKit Go.Shelf Go.Sort

/-! ### strings.Index -/
def g.strings_Index (s c : Bytes) : Option Int := if s.length < 4294967281 then some (Lib.index s c) else none
def K.strings_Index : FC := fc 14 (fun _ => true) false (fun (a : Bytes × Bytes) => [V.str a.1, V.str a.2]) (fun (y : Int) => .int .i64 y) (fun a => g.strings_Index a.1 a.2)
  (fun _ => rfl) (fun _ => rfl) (fun ⟨a, b⟩ ⟨c, d⟩ h => by simp at h; simp [h])
theorem H.strings_Index (w : World) (hw : EnvOK w) : K.strings_Index.Holds (cxD w) := by
  rintro args y ⟨⟨s, c⟩, r, ha, hg, rfl⟩
  obtain rfl := two_str ha
  simp only [g.strings_Index] at hg
  split at hg
  · rename_i hc
    cases hg
    refine ⟨.int .i64 _, false, ?_, rfl, fun h => nomatch h⟩
    refine PC.pure (callable_of Tryd.func14 (by kernel_rfl) (by kernel_rfl)) fun W G φ xs hW hxs => ?_
    obtain ⟨x, y, rfl, hx, hy⟩ := repL2 hxs
    obtain ⟨t, rfl, rfl⟩ := rep_str hx
    obtain ⟨u, rfl, rfl⟩ := rep_str hy
    obtain ⟨m, hm⟩ := hw.max.at hW
    refine (Tryd.strings_Index t u m W (by rw [Lib.size_eq]; exact hc) hm).mono fun e W' ⟨he, hW'⟩ => ?_
    subst hW'
    exact ⟨_, he, .refl _ _, fun _ _ => .int _ _⟩
  · cases hg

/-! ### strings.FieldsFunc at blanks, tabs and carriage returns -/
def blankR3 (r : Nat) : Bool := decide (r = 32) || (decide (r = 9) || decide (r = 13))
def blankB3 (b : UInt8) : Bool := decide (b = 32) || (decide (b = 9) || decide (b = 13))
theorem blank3_gives (x : Nat) (hx : x ≤ 1114111) (W : World) : Go.Proofs.FnGives Tryd.prog 16 #[] #[Go.Proofs.encR x] (.bool (blankR3 x)) W := by
  show Calls Tryd.prog 16 #[.int .i32 (x : Int)] W _
  by_cases h1 : x = 32
  · subst h1
    go_enter Tryd.func16, Tryd.ntmps16
    go_wp2
    go_ret
    exact ⟨rfl, 0, rfl⟩
  · by_cases h2 : x = 9
    · subst h2
      go_enter Tryd.func16, Tryd.ntmps16
      go_wp2
      go_ret
      exact ⟨rfl, 0, rfl⟩
    · have e1 : ((x : Int) == 32) = false := by simp; omega
      have e2 : ((x : Int) == 9) = false := by simp; omega
      go_enter Tryd.func16, Tryd.ntmps16
      go_wp2
      go_ret
      refine ⟨?_, 0, rfl⟩
      have e : ((x : Int) == 13) = blankR3 x := by
        unfold blankR3
        rw [Bool.eq_iff_iff]; simp; omega
      rw [← e]; rfl
theorem blank3_enters (args : Array Value) (w : World) : (callFunc 16 args).run Tryd.prog w = .ok (.enter 16 args) w := Go.Proofs.enters_of Tryd.func16 (by kernel_rfl) rfl args w
theorem blank3_hq (b : UInt8) : blankB3 b = (decide (b.toNat < 128) && blankR3 b.toNat) := by
  unfold blankB3 blankR3
  rw [Bool.eq_iff_iff]
  simp only [Bool.or_eq_true, decide_eq_true_eq, Bool.and_eq_true]
  constructor
  · rintro (h | h | h) <;> rw [h] <;> decide
  · rintro ⟨_, h | h | h⟩
    · left; exact UInt8.toNat_inj.1 (by rw [h]; rfl)
    · right; left; exact UInt8.toNat_inj.1 (by rw [h]; rfl)
    · right; right; exact UInt8.toNat_inj.1 (by rw [h]; rfl)
theorem blank3_hp (r : Nat) (h : 128 ≤ r) : blankR3 r = false := by
  unfold blankR3
  rw [decide_eq_false (by omega), decide_eq_false (by omega), decide_eq_false (by omega)]; rfl
def g.strings_FieldsFunc_3 (s : Bytes) : Option (List Bytes) := if s.length ≤ 4294967296 then some (fldB blankB3 s []) else none
def K.strings_FieldsFunc_3 : FC := fc 15 (fun avs => isFn 16 avs[1]?) true (fun (a : Bytes) => [V.str a, V.fn 16 []]) (fun (y : List Bytes) => .sl false 1 (y.map .str)) (fun a => g.strings_FieldsFunc_3 a)
  (fun _ => rfl) (fun y => cleanL_map (fun _ => rfl) y) (fun _ _ h => V.str.inj (List.cons.inj h).1)
theorem H.strings_FieldsFunc_3 (w : World) (_hw : EnvOK w) : K.strings_FieldsFunc_3.Holds (cxD w) := by
  rintro args y ⟨s, r, ha, hg, rfl⟩
  obtain ⟨u, v, rfl, h1, h2⟩ := nfL_cons ha
  obtain ⟨u', v', rfl, h3, h4⟩ := nfL_cons h2
  obtain rfl := nfL_nil h4
  obtain rfl := nf_str h1
  obtain rfl := fnv_eq h3
  simp only [g.strings_FieldsFunc_3] at hg
  split at hg
  · rename_i hc
    cases hg
    refine ⟨.sl false 1 ((fldB blankB3 s []).map .str), true, ?_, by show V.sl false 1 (nfL _) = _; rw [nfL_strs], fun _ => .inl rfl⟩
    refine texts_own (callable_of Tryd.func15 (by kernel_rfl) (by kernel_rfl)) fun W G φ xs hW hxs => ?_
    obtain ⟨x, y, rfl, hx, hy⟩ := repL2 hxs
    obtain ⟨t, rfl, rfl⟩ := rep_str hx
    have hy' : y = .func (.func 16) #[] #[] := by
      cases hy with
      | fn f cs zs hl h =>
        have : zs = #[] := by simpa using hl.symm
        rw [this]
    subst hy'
    refine (Tryd.strings_FieldsFunc_runes 16 #[] blank3_enters blankR3 t W (by rw [Lib.size_eq]; exact hc) (fun W' x hx _ => blank3_gives x hx W')).mono fun e W' => ?_
    rintro ⟨A, he, hA, hown, hB⟩
    exact ⟨_, A, fields_data blank3_hq blank3_hp t, he, hA, hown, hB⟩
  · cases hg
end Go.Proofs.YtanocopjancaiaaDoor
/-
  Ext: strings.ContainsAny of ASCII texts, out of the kit's contracts. Own work of this seat.
-/
namespace Go.Proofs.YtanocopjancaiaaDoor
open Go.Abs Go.RowKit Go.Shelf Go.Sort

def ascB (s : Bytes) : Bool := s.all fun b => decide (b.toNat < 128)
theorem ascB_at {s : Bytes} (h : ascB s = true) (j : Nat) (b : UInt8) (hb : s[j]? = some b) : b.toNat < 128 := by
  have := List.all_eq_true.1 h b (List.mem_of_getElem? hb)
  simpa using this
theorem containsAny_any (c : Bytes) : ∀ s : Bytes, Lib.containsAny s c = s.any fun b => c.contains b
  | [] => rfl
  | b :: r => by
    have ih := containsAny_any c r
    unfold Lib.containsAny at ih ⊢
    rw [List.any_cons, ← ih]
    have e0 : Lib.indexAny (b :: r) c = if c.contains b then 0 else if Lib.indexAny r c == -1 then -1 else Lib.indexAny r c + 1 := by rw [Lib.indexAny]
    rw [e0]
    have hge := Lib.indexAny_ge c r
    cases hb : c.contains b with
    | true => simp
    | false =>
      by_cases hi : Lib.indexAny r c = -1
      · simp [hi]
      · have e1 : (Lib.indexAny r c == -1) = false := by simpa using hi
        simp only [Bool.false_eq_true, if_false, e1, Bool.false_or]
        rw [decide_eq_decide]; omega
end Go.Proofs.YtanocopjancaiaaDoor
/-
  Ext: strings.ContainsAny of any text, at ASCII signs: the library's own text is walked where the text is short. Own work of this seat.
-/
namespace Go.Proofs.YtanocopjancaiaaDoor
open Go.Abs Go.RowKit Go.Shelf Go.Sort Go.Lib

def encC (c : Nat) : ByteArray :=
  if c < 128 then ⟨#[UInt8.ofNat c]⟩ else if c < 2048 then ⟨#[UInt8.ofNat (192 + c / 64), UInt8.ofNat (128 + c % 64)]⟩
  else if c < 65536 then ⟨#[UInt8.ofNat (224 + c / 4096), UInt8.ofNat (128 + c / 64 % 64), UInt8.ofNat (128 + c % 64)]⟩
  else ⟨#[UInt8.ofNat (240 + c / 262144), UInt8.ofNat (128 + c / 4096 % 64), UInt8.ofNat (128 + c / 64 % 64), UInt8.ofNat (128 + c % 64)]⟩
theorem encC_high {c : Nat} (hc : 128 ≤ c) : ∃ n b, (encC c).size = n + 1 ∧ n ≤ 3 ∧ (encC c).data[n]? = some b ∧ 128 ≤ b.toNat := by
  have hb : ∀ k, 128 ≤ (UInt8.ofNat (128 + k % 64)).toNat := fun k => by
    rw [UInt8.toNat_ofNat_of_lt' (by have := Nat.mod_lt k (show 0 < 64 by decide); show 128 + k % 64 < 256; omega)]; omega
  unfold encC
  rw [if_neg (by omega)]
  split
  · exact ⟨1, _, rfl, by omega, rfl, hb _⟩
  · split
    · exact ⟨2, _, rfl, by omega, rfl, hb _⟩
    · exact ⟨3, _, rfl, by omega, rfl, hb _⟩
theorem enc_high (r : Int) (h : 128 ≤ r) : ∃ n b, (Utf8.encode r).size = n + 1 ∧ n ≤ 3 ∧ (Utf8.encode r).data[n]? = some b ∧ 128 ≤ b.toNat := by
  have hc : 128 ≤ (if Utf8.valid r then r.toNat else Utf8.runeError) := by
    split
    · omega
    · decide
  exact encC_high hc
theorem indexByte_high {l : List UInt8} {b : UInt8} (hl : ∀ x ∈ l, x.toNat < 128) (hb : 128 ≤ b.toNat) : ¬ (0 : Int) ≤ Lib.indexByte l b := by
  have h := Lib.contains_iff_indexByte l b
  intro h0
  rw [decide_eq_true h0] at h
  have := List.contains_iff_mem.1 h
  have := hl b this
  omega
set_option maxHeartbeats 8000000 in
set_option maxRecDepth 1000000 in
theorem indexRune_high (s : ByteArray) (r : Int) (w : World) (h0 : 128 ≤ r) (hs4 : 4 ≤ s.size) (hascii : ∀ (j : Nat) b, s.data.toList[j]? = some b → b.toNat < 128) :
    Calls Tryd.prog 48 #[.string s, .int .i32 r] w fun e w' => e = .returned (.int .i64 (-1)) ∧ Below w.heap.size w w' := by
  have HA : Aside (∀ (j : Nat) b, s.data.toList[j]? = some b → b.toNat < 128) := hascii
  clear hascii
  by_cases hr : r = 65533
  · subst hr
    go_enter Tryd.func48, Tryd.ntmps48
    go_wp2
    go_loopg [5, 6] s.size (fun g _ _ wx => ∃ i : Nat, i + g = s.size ∧ wx = w.iter s i)
    case atStart => exact ⟨0, by omega, rfl⟩
    case round =>
      obtain ⟨i, hig, rfl⟩ := hrel
      cases gk with
      | zero =>
        obtain rfl : i = s.size := by omega
        have hnx := run_next_end (P := Tryd.prog) w s s.size
        go_wp2
        go_ret
        exact ⟨rfl, (Below.refl _ _).alloc (Nat.le_refl _) _⟩
      | succ g =>
        have hi : i < s.size := by omega
        obtain ⟨x, hx⟩ : ∃ x : UInt8, s[i]'hi = x := ⟨_, rfl⟩
        have hxl : s.data.toList[i]? = some x := by rw [← hx]; exact Lib.data_getElem? s i hi
        have hx128 : x.toNat < 128 := HA.out i x hxl
        have hnx := fun ty => run_next_ascii (P := Tryd.prog) w s i ty hi (by rw [hx]; exact hx128)
        rw [hx] at hnx
        have hne : ((x.toNat : Int) == 65533) = false := beq_eq_false_iff_ne.2 (by omega)
        go_wp2
        go_roundg g
        case measure => omega
        case rel => exact ⟨i + 1, by omega, rfl⟩
  · have hne : (r == 65533) = false := beq_eq_false_iff_ne.2 hr
    have hlo : decide (r < 128) = false := decide_eq_false (by omega)
    have hlo0 : decide (0 ≤ r) = true := decide_eq_true (by omega)
    have mixed := mixed
    obtain ⟨n, b, hq, hn3, hqb, hb⟩ := enc_high r h0
    have hcv : ∀ w, (convert 21 9 (.int .i32 r)).run Tryd.prog w = .ok (.string (Utf8.encode r)) w := fun w => run_convert_int_string w 21 9 .i32 r (by rw [Tryd.underlying21]; rfl) Tryd.underlying9
    generalize Utf8.encode r = q at hq hqb hcv
    go_enter Tryd.func48, Tryd.ntmps48
    go_wp2_with (go_at_call 60; refine (Tryd.utf8_ValidRune _ _).mono ?_; rintro e w' ⟨rfl, hw⟩; rw [hw])
    · go_ret
      exact ⟨rfl, Below.refl _ _⟩
    · go_step3
      go_wp2
      go_loopg [9, 10] 1 (fun _ v9 v10 wx => v9 = Value.int .i64 n ∧ v10 = Value.int .i64 0 ∧ wx = w')
      case atStart => exact ⟨rfl, rfl, hw.symm⟩
      case round =>
        obtain ⟨rfl, rfl, rfl⟩ := hrel
        subst hw
        have hi : n < s.size := by omega
        obtain ⟨x, hx⟩ : ∃ x : UInt8, s[n]'hi = x := ⟨_, rfl⟩
        have hxl : s.data.toList[n]? = some x := by rw [← hx]; exact Lib.data_getElem? s n hi
        have hx128 : x.toNat < 128 := HA.out n x hxl
        have hqi : n < q.size := by omega
        have hqx : q[n]'hqi = b := by
          have := Array.getElem?_eq_some_iff.1 hqb
          exact this.2
        have hnb : ((x.toNat : Int) == (b.toNat : Int)) = false := beq_eq_false_iff_ne.2 (by omega)
        have hlt : decide ((n : Int) < (s.size : Int)) = true := decide_eq_true (by omega)
        go_wp2
        go_step3
        go_wp2
        go_region
        all_goals go_wp2
        have hw1 : IntKind.i64.wrap ((n : Int) + 1) = (n : Int) + 1 := by
          rw [show ((n : Int) + 1) = (((n + 1 : Nat)) : Int) by omega]; exact w64 _ (by omega)
        have hA0 : (0 : Int) ≤ (n : Int) + 1 := by omega
        have hA1 : (n : Int) + 1 ≤ (s.size : Int) := by omega
        have hneg : ¬ (0 : Int) ≤ Lib.indexByte (s.extract (n + 1) s.size).data.toList b := indexByte_high (fun x hx => by
          rw [Lib.extract_data] at hx
          obtain ⟨j, hj⟩ := List.mem_iff_getElem?.1 (List.mem_of_mem_drop (List.mem_of_mem_take hx))
          exact HA.out j x hj) hb
        go_region_with (go_at_call 59; refine (Tryd.strings_IndexByte _ _ _).mono ?_; rintro e w' ⟨rfl, hw⟩; rw [hw])
        subst hw
        rw [Lib.extract_data] at hneg
        go_wp2
        all_goals first | (exfalso; omega) | skip
        all_goals (simp only [Exit.then, Exit.inBlock, Exit.noGoto_ret])
        go_ret
        exact ⟨rfl, (Below.refl _ _).drew.drew⟩

/-! ### strings.IndexAny of a short text -/
theorem dec_here (s : ByteArray) (i : Nat) (hi : i < s.size) (x : UInt8) (hx : s.data.toList[i]? = some x) (h128 : 128 ≤ x.toNat) :
    128 ≤ (Utf8.decode s i).1 ∧ 1 ≤ (Utf8.decode s i).2 ∧ i + (Utf8.decode s i).2 ≤ s.size ∧ ∀ j b, i ≤ j → j < i + (Utf8.decode s i).2 → s.data.toList[j]? = some b → 128 ≤ b.toNat := by
  have hsz := Lib.size_eq s
  have hd := Lib.decode_N s i
  have hg : ∀ k b, s.data.toList[i + k]? = some b → s.data.toList.getD (i + k) 0 = b := fun k b h => by rw [List.getD, h]; rfl
  have h0 : s.data.toList.getD i 0 = x := by have := hg 0 x hx; exact this
  obtain ⟨k1, k2, k3, k4, k5, k6, k7⟩ := dec_facts (n := s.size - i) (b0 := (s.data.toList.getD i 0).toNat) (b1 := (s.data.toList.getD (i + 1) 0).toNat) (b2 := (s.data.toList.getD (i + 2) 0).toNat) (b3 := (s.data.toList.getD (i + 3) 0).toNat) (by omega) (by rw [h0]; exact h128)
  rw [hsz] at k1 k2 k3 k4 k5 k6 k7
  rw [← hd] at k1 k2 k3 k4 k5 k6 k7
  refine ⟨k1, k2, by omega, fun j b h1 h2 hb => ?_⟩
  obtain ⟨m, rfl⟩ : ∃ m, j = i + m := ⟨j - i, by omega⟩
  match m, h2 with
  | 0, _ => rw [show i + 0 = i from rfl, hx] at hb; cases hb; exact h128
  | 1, h2 => have := k5 (by omega); rw [hg 1 b hb] at this; exact this
  | 2, h2 => have := k6 (by omega); rw [hg 2 b hb] at this; exact this
  | 3, h2 => have := k7 (by omega); rw [hg 3 b hb] at this; exact this
  | m + 4, h2 => omega
set_option maxHeartbeats 8000000 in
set_option maxRecDepth 1000000 in
theorem indexAny_short (s chars : ByteArray) (w : World) (h4 : 4 ≤ chars.size) (h8 : s.size ≤ 8) (hac : ∀ (j : Nat) b, chars.data.toList[j]? = some b → b.toNat < 128) :
    Calls Tryd.prog 42 #[.string s, .string chars] w fun e w' => e = .returned (.int .i64 (Lib.indexAny s.data.toList chars.data.toList)) ∧ Below w.heap.size w w' := by
  have HA : Aside (∀ (j : Nat) b, chars.data.toList[j]? = some b → b.toNat < 128) := hac
  clear hac
  have hemp : chars.toList.isEmpty = false := by
    rw [Lib.toList_data]
    cases h : chars.data.toList with
    | nil => have := Lib.size_eq chars; rw [h, List.length_nil] at this; omega
    | cons _ _ => rfl
  have hn1 : ((chars.size : Int) == 1) = false := beq_eq_false_iff_ne.2 (by omega)
  have h8z : decide ((8 : Int) < (s.size : Int)) = false := decide_eq_false (by omega)
  have mixed := mixed
  go_enter Tryd.func42, Tryd.ntmps42
  go_wp2_with (go_at_call 49; refine (Tryd.strings_shouldUseASCIISet _ _).mono ?_; rintro e w' ⟨rfl, hw⟩; rw [hw, h8z])
  go_loopg [9, 10] s.size (fun g _ _ wx => ∃ i : Nat, s.size ≤ i + g ∧ i ≤ s.size ∧ wx.heap[w.heap.size]? = some (.stringIter s i) ∧ Below w.heap.size w wx ∧ Lib.NoAny s.data.toList chars.data.toList i)
  case atStart => exact ⟨0, by omega, by omega, World.iter_heap _ _ _, (Below.refl _ _).alloc (Nat.le_refl _) _, Lib.NoAny.zero _ _⟩
  case round =>
    obtain ⟨i, hig, hle, hit, hB, hno⟩ := hrel
    have HN : Aside (Lib.NoAny s.data.toList chars.data.toList i) := hno
    have HB : Aside (Below w.heap.size w wr) := hB
    have HI : Aside (wr.heap[w.heap.size]? = some (.stringIter s i)) := hit
    clear hno hB
    by_cases hi : i < s.size
    · obtain ⟨g, rfl⟩ : ∃ g, gk = g + 1 := ⟨gk - 1, by omega⟩
      obtain ⟨x, hx⟩ : ∃ x : UInt8, s[i]'hi = x := ⟨_, rfl⟩
      have hxl : s.data.toList[i]? = some x := by rw [← hx]; exact Lib.data_getElem? s i hi
      have Hx : Aside (s.data.toList[i]? = some x) := hxl
      by_cases hx128 : x.toNat < 128
      · have hnx := fun ty => Lib.run_next_ascii_at (P := Tryd.prog) wr w.heap.size s i ty hit hi (by rw [hx]; exact hx128)
        rw [hx] at hnx
        clear hxl hx hit
        have hcon := Lib.contains_iff_indexByte chars.data.toList x
        have hback : ((x.toNat : Int)).toNat.toUInt8 = x := by simp
        cases hin : chars.data.toList.contains x
        · rw [hin] at hcon
          have hlt : ¬ ((0 : Int) ≤ Lib.indexByte chars.data.toList x) := of_decide_eq_false hcon.symm
          clear hcon
          go_wp2_with (go_at_call 48; refine (Tryd.strings_IndexRune_ascii _ _ _ (by omega) (by omega)).mono ?_; rintro e w' ⟨rfl, hw⟩; rw [hw, hback])
          go_roundg g
          case measure => omega
          case rel => exact ⟨i + 1, by omega, by omega, Lib.iterAt_heap _ _ _ _ _ HI.out, Lib.below_iterAt HB.out (Nat.le_refl _) _ _, HN.out.succ Hx.out hin⟩
        · rw [hin] at hcon
          have hge : (0 : Int) ≤ Lib.indexByte chars.data.toList x := of_decide_eq_true hcon.symm
          clear hcon
          go_wp2_with (go_at_call 48; refine (Tryd.strings_IndexRune_ascii _ _ _ (by omega) (by omega)).mono ?_; rintro e w' ⟨rfl, hw⟩; rw [hw, hback])
          go_ret
          exact ⟨by rw [Lib.indexAny_hit HN.out Hx.out hin]; rfl, Lib.below_iterAt HB.out (Nat.le_refl _) _ _⟩
      · obtain ⟨d1, d2, d3, d4⟩ := dec_here s i hi x hxl (by omega)
        have hnx := fun ty => Lib.run_next_any_at (P := Tryd.prog) wr w.heap.size s i ty hit hi
        generalize hR : (Utf8.decode s i).1 = R at hnx d1
        generalize hL : (Utf8.decode s i).2 = L at hnx d2 d3 d4
        have D4 : Aside (∀ j b, i ≤ j → j < i + L → s.data.toList[j]? = some b → 128 ≤ b.toNat) := d4
        clear hxl hx hit hR hL d4
        have hneg : ¬ ((0 : Int) ≤ -1) := by decide
        go_wp2_with (go_at_call 48; refine (indexRune_high chars (R : Int) _ (by omega) h4 HA.out).mono ?_; rintro e w' ⟨rfl, hw⟩)
        have hB1 := Lib.below_iterAt HB.out (Nat.le_refl _) s (i + L)
        have hI1 := Lib.iterAt_heap wr w.heap.size s i (i + L) HI.out
        go_roundg g
        case measure => omega
        case rel =>
          refine ⟨i + L, by omega, d3, (hw.block _ (Array.getElem?_eq_some_iff.1 hI1).1).trans hI1, hB1.trans (hw.mono hB1.size), fun j b hj hb => ?_⟩
          by_cases hji : j < i
          · exact HN.out j b hji hb
          · have h128 := D4.out j b (by omega) hj hb
            cases hc : chars.data.toList.contains b with
            | false => rfl
            | true =>
              obtain ⟨m, hm⟩ := List.mem_iff_getElem?.1 (List.contains_iff_mem.1 hc)
              have := HA.out m b hm
              omega
    · obtain rfl : i = s.size := by omega
      have hnx := fun ty => Lib.run_next_end_at (P := Tryd.prog) wr w.heap.size s s.size ty hit (by omega)
      clear hit
      go_wp2
      go_ret
      exact ⟨by rw [Lib.indexAny_none (by rw [← Lib.size_eq]; exact HN.out)]; rfl, HB.out⟩
theorem indexAny_full (s chars : ByteArray) (w : World) (h4 : 4 ≤ chars.size) (hs : s.size < 4294967281) (hcs : chars.size < 4294967281) (hac : ∀ (j : Nat) b, chars.data.toList[j]? = some b → b.toNat < 128) :
    Calls Tryd.prog 42 #[.string s, .string chars] w fun e w' => e = .returned (.int .i64 (Lib.indexAny s.data.toList chars.data.toList)) ∧ Below w.heap.size w w' := by
  by_cases h8 : s.size ≤ 8
  · exact indexAny_short s chars w h4 h8 hac
  · refine (Tryd.strings_IndexAny_long (zero_of_info (n := 256) (by kernel_rfl)).1 s chars w (by omega) (by omega) hs hcs hac).mono fun e w' ⟨h1, h2⟩ => ⟨h1, ?_⟩
    rw [h2]
    exact ((Below.refl _ _).alloc (Nat.le_refl _) _).alloc (by simp) _
set_option maxHeartbeats 1000000 in
theorem containsAny_full (s chars : ByteArray) (w : World) (h4 : 4 ≤ chars.size) (hs : s.size < 4294967281) (hcs : chars.size < 4294967281) (hac : ∀ (j : Nat) b, chars.data.toList[j]? = some b → b.toNat < 128) :
    Calls Tryd.prog 33 #[.string s, .string chars] w fun e w' => e = .returned (.bool (Lib.containsAny s.data.toList chars.data.toList)) ∧ Below w.heap.size w w' := by
  have c := indexAny_full s chars w h4 hs hcs hac
  have mixed := mixed
  go_enter Tryd.func33, Tryd.ntmps33
  go_wp2_with (go_at_call 42; refine c.mono ?_; rintro e w' ⟨rfl, hw⟩)
  go_ret
  exact ⟨rfl, hw⟩

/-! ### strings.ContainsAny at ASCII signs -/
def g.strings_ContainsAny (s c : Bytes) : Option Bool := if s.length < 4294967281 ∧ c.length < 4294967281 ∧ 4 ≤ c.length ∧ ascB c = true then some (s.any fun b => c.contains b) else none
def K.strings_ContainsAny : FC := fc 33 (fun _ => true) false (fun (a : Bytes × Bytes) => [V.str a.1, V.str a.2]) (fun (y : Bool) => .bool y) (fun a => g.strings_ContainsAny a.1 a.2)
  (fun _ => rfl) (fun _ => rfl) (fun ⟨a, b⟩ ⟨c, d⟩ h => by simp at h; simp [h])
theorem H.strings_ContainsAny (w : World) (_hw : EnvOK w) : K.strings_ContainsAny.Holds (cxD w) := by
  rintro args y ⟨⟨s, c⟩, r, ha, hg, rfl⟩
  obtain rfl := two_str ha
  simp only [g.strings_ContainsAny] at hg
  split at hg
  · rename_i hc
    cases hg
    refine ⟨.bool _, false, ?_, rfl, fun h => nomatch h⟩
    refine PC.pure (callable_of Tryd.func33 (by kernel_rfl) (by kernel_rfl)) fun W G φ xs hW hxs => ?_
    obtain ⟨x, y, rfl, hx, hy⟩ := repL2 hxs
    obtain ⟨t, rfl, rfl⟩ := rep_str hx
    obtain ⟨u, rfl, rfl⟩ := rep_str hy
    refine (containsAny_full t u W (by rw [Lib.size_eq]; exact hc.2.2.1) (by rw [Lib.size_eq]; exact hc.1) (by rw [Lib.size_eq]; exact hc.2.1) (ascB_at hc.2.2.2)).mono fun e W' ⟨he, hW'⟩ => ?_
    refine ⟨_, he, hW', fun _ _ => ?_⟩
    rw [containsAny_any]; exact .bool _
  · cases hg
end Go.Proofs.YtanocopjancaiaaDoor
