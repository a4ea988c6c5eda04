/-
  Parts of the proof, one behind the other. Own work of this seat; some printed by its programs.
-/
import Derived.Test.YtanocopjancaiaaGreatDoorM3
import Derived.Test.YtanocopjancaiaaGreatDoorProg
import Derived.Test.YtanocopjancaiaaGreatDoorM1
import Derived.Shelf.Strings.Builder1
import Derived.Shelf.Strings.Builder2
import Derived.Shelf.Strings.OnBuilder
import Derived.Shelf.Small.Wraps
import Derived.Shelf.Strings.BuilderF
import Derived.Shelf.Strings.BuilderK
import Derived.Shelf.Strconv.Atoi
import Derived.Shelf.Strconv.Itoa0
import Derived.Shelf.Strconv.Itoa1
import Derived.Shelf.LaysM
import Derived.Shelf.Strconv.Itoa2
import Derived.Shelf.Strconv.Itoa3
import Derived.Shelf.Strconv.AtoiErrFast
import Derived.Shelf.Strconv.ParseIntEmpty
import Derived.Shelf.Strconv.AtoiFail
import Derived.Shelf.Strconv.Clone
import Derived.Shelf.Strconv.SyntaxError
import Derived.Shelf.LaysC
import Derived.Shelf.Strconv.ToError
import Derived.Shelf.Strconv.Lower
import Derived.Shelf.Strconv.ParseUint10
import Derived.Shelf.Strconv.ParseUint10Empty
import Derived.Shelf.Strconv.ParseUint10Any
import Derived.Shelf.Strconv.ParseInt10
import Derived.Shelf.Strconv.AtoiLong
import Derived.Shelf.Strconv.AtoiInnerAll
import Derived.Shelf.Strconv.RangeError
import Derived.Shelf.Strconv.ToErrorRange
import Derived.Shelf.Strconv.AtoiAll
import Derived.Shelf.Strings.Search1
import Derived.Shelf.Strings.Search2
import Derived.Shelf.Strings.Search3
import Derived.Shelf.Strings.Count
import Derived.Shelf.Strings.Shaped
import Derived.Shelf.Strings.Prefix
import Derived.Shelf.Strings.Split
import Derived.Shelf.Strings.SplitShaped
import Derived.Shelf.Unicode.Decode
import Derived.Shelf.Strings.RuneCount
import Derived.Shelf.Strings.Explode
import Derived.Shelf.Unicode.DecodeSlow
import Derived.Shelf.Unicode.DecodeAny
import Derived.Shelf.Strings.FieldsFuncAny
import Derived.Shelf.Strings.FieldsFuncGrows
import Derived.Ground.Names2Prog
import Derived.Shelf.Slices.Clone
import Derived.Ground.SlgfProg
import Derived.Shelf.SlicesE.IndexFunc
import Derived.Shelf.SlicesE.DeleteFunc
/-
  The functions of the program that are read: how many values they take, how objects look that they are given, and what their labels look like. Printed by programs of this seat (wip/y/tool.lean, asm.py).
-/
namespace Go.Proofs.YtanocopjancaiaaGreatDoor
open Go.Abs

def tabs0 : List FE := [
  ⟨8, 8, false, 4, ⟨0, [], [], 0⟩, none, [(32, ⟨5, [(4, .at (.ptr 0 0)), (11, .at (.n 0 false false)), (12, .at (.n 1 false false)), (13, .at (.n 2 false true)), (14, .at (.n 3 false true))], [some [.many none (.n 4 false false)]], 0⟩)]⟩,
  ⟨20, 20, false, 1, ⟨0, [], [], 0⟩, none, []⟩,
  ⟨28, 28, true, 1, ⟨0, [], [], 0⟩, none, []⟩,
  ⟨32, 32, false, 1, ⟨0, [], [], 0⟩, none, [(9, ⟨6, [(2, .at (.ptr 0 0)), (3, .at (.n 0 false false)), (22, .at (.n 1 false false))], [some [.one (.n 2 false true), .one (.n 3 false true), .one (.n 4 false true), .one (.n 5 false true)]], 0⟩), (26, ⟨11, [(2, .at (.ptr 0 0)), (5, .at (.ptr 1 0)), (6, .at (.n 0 false true)), (7, .at (.n 1 false true)), (37, .at (.n 2 false false))], [some [.one (.n 3 false true), .one (.n 4 false true), .one (.n 5 false true), .one (.n 6 false true)], some [.one (.n 7 false true), .one (.n 8 false true), .one (.n 9 false true), .one (.n 10 false true)]], 0⟩)]⟩,
  ⟨44, 44, false, 2, ⟨0, [], [], 0⟩, none, []⟩,
  ⟨48, 48, false, 1, ⟨0, [], [], 0⟩, none, []⟩,
  ⟨52, 52, true, 2, ⟨0, [], [], 0⟩, none, [(12, ⟨5, [(0, .at (.n 0 false false)), (1, .at (.n 1 false false)), (5, .at (.n 2 true true)), (6, .at (.n 3 false true)), (7, .at (.n 4 false true))], [], 0⟩)]⟩,
  ⟨56, 56, false, 1, ⟨0, [], [], 0⟩, none, []⟩,
  ⟨72, 72, false, 2, ⟨0, [], [], 0⟩, none, []⟩,
  ⟨96, 96, false, 1, ⟨0, [], [], 0⟩, none, []⟩,
  ⟨9, 9, false, 0, ⟨0, [], [], 0⟩, none, []⟩,
  ⟨13, 13, false, 2, ⟨0, [], [], 0⟩, none, []⟩,
  ⟨17, 17, false, 2, ⟨0, [], [], 0⟩, none, [(8, ⟨4, [(1, .at (.n 0 false false)), (7, .at (.n 1 false false)), (8, .at (.n 2 false true)), (9, .at (.n 3 false true))], [], 0⟩)]⟩,
  ⟨21, 21, false, 1, ⟨0, [], [], 0⟩, none, []⟩,
  ⟨25, 25, false, 1, ⟨0, [], [], 0⟩, none, [(18, ⟨4, [(4, .at (.n 0 true true)), (17, .at (.n 1 true false)), (18, .at (.n 2 false true)), (19, .at (.n 3 false true))], [], 0⟩)]⟩,
  ⟨33, 33, false, 2, ⟨0, [], [], 0⟩, none, []⟩,
  ⟨45, 45, false, 1, ⟨0, [], [], 0⟩, none, []⟩,
  ⟨49, 49, false, 1, ⟨0, [], [], 0⟩, none, []⟩,
  ⟨57, 57, false, 1, ⟨0, [], [], 0⟩, none, []⟩,
  ⟨61, 61, false, 2, ⟨0, [], [], 0⟩, none, []⟩,
  ⟨65, 65, false, 2, ⟨0, [], [], 0⟩, none, []⟩,
  ⟨69, 69, false, 2, ⟨0, [], [], 0⟩, none, []⟩,
  ⟨73, 73, false, 1, ⟨0, [], [], 0⟩, none, []⟩,
  ⟨81, 81, false, 2, ⟨0, [], [], 0⟩, none, []⟩,
  ⟨97, 97, false, 2, ⟨0, [], [], 0⟩, none, [(8, ⟨4, [(0, .at (.n 0 false false)), (1, .at (.n 1 false false)), (7, .at (.n 2 false true)), (8, .at (.n 3 false true))], [], 0⟩)]⟩,
  ⟨117, 117, false, 1, ⟨0, [], [], 0⟩, none, []⟩,
  ⟨6, 6, false, 4, ⟨0, [], [], 0⟩, none, [(15, ⟨5, [(1, .at (.n 0 false false)), (2, .at (.n 1 false false)), (3, .at (.n 2 false false)), (4, .at (.ptr 0 0)), (26, .at (.n 3 false true))], [some [.many none (.n 4 false false)]], 0⟩), (46, ⟨4, [(3, .at (.n 0 false false)), (4, .at (.ptr 0 0)), (10, .at (.n 1 false true)), (11, .at (.n 2 false false))], [some [.many none (.n 3 false false)]], 0⟩)]⟩,
  ⟨10, 10, false, 1, ⟨0, [], [], 0⟩, none, [(10, ⟨5, [(1, .at (.ptr 0 0)), (3, .at (.n 0 false true)), (14, .at (.n 1 false false)), (15, .at (.n 2 false true)), (16, .at (.n 3 false true))], [some [.many none (.n 4 false false)]], 0⟩)]⟩,
  ⟨18, 18, true, 0, ⟨0, [], [], 0⟩, none, []⟩,
  ⟨22, 22, false, 2, ⟨0, [], [], 0⟩, none, []⟩,
  ⟨26, 26, false, 2, ⟨0, [], [], 0⟩, none, [(10, ⟨6, [(1, .at (.n 0 false false)), (6, .at (.osx 0 1 1)), (10, .at (.n 2 false false)), (11, .at (.n 3 false true)), (12, .at (.n 4 false true))], [some [.many none (.n 5 false false)]], 0⟩), (26, ⟨9, [(1, .at (.n 0 false false)), (6, .at (.osx 0 1 1)), (8, .at (.n 2 false false)), (9, .at (.n 3 false true)), (10, .at (.n 4 false false)), (11, .at (.n 5 false true)), (12, .at (.n 6 false true)), (18, .at (.n 7 false true))], [some [.many none (.n 8 false false)]], 0⟩)]⟩,
  ⟨34, 34, false, 1, ⟨0, [], [], 0⟩, none, []⟩,
  ⟨38, 38, true, 1, ⟨0, [], [], 0⟩, none, [(10, ⟨4, [(3, .at (.n 0 true true)), (9, .at (.n 1 true false)), (10, .at (.n 2 false true)), (11, .at (.n 3 false true))], [], 0⟩), (24, ⟨7, [(3, .at (.n 0 true true)), (9, .at (.n 1 true false)), (10, .at (.n 2 false true)), (11, .at (.n 3 false true)), (16, .at (.n 4 true false)), (17, .at (.n 5 false true)), (18, .at (.n 6 false true))], [], 0⟩)]⟩,
  ⟨42, 42, false, 2, ⟨0, [], [], 0⟩, none, [(8, ⟨4, [(0, .at (.n 0 false false)), (1, .at (.n 1 false false)), (7, .at (.n 2 false true)), (8, .at (.n 3 false true))], [], 0⟩)]⟩,
  ⟨58, 58, false, 2, ⟨0, [], [], 0⟩, none, [(8, ⟨4, [(0, .at (.n 0 false false)), (1, .at (.n 1 false false)), (7, .at (.n 2 false true)), (8, .at (.n 3 false true))], [], 0⟩)]⟩,
  ⟨70, 70, false, 3, ⟨0, [], [], 0⟩, none, [(10, ⟨6, [(1, .at (.n 0 false false)), (2, .at (.n 1 false false)), (8, .at (.n 2 true true)), (13, .at (.n 3 false false)), (14, .at (.n 4 false true)), (15, .at (.n 5 false true))], [], 0⟩)]⟩,
  ⟨74, 74, false, 1, ⟨0, [], [], 0⟩, none, []⟩,
  ⟨11, 11, false, 2, ⟨0, [], [], 0⟩, none, [(9, ⟨3, [(1, .at (.n 0 false false)), (2, .at (.ptr 0 0)), (18, .at (.n 1 false true))], [some [.many none (.n 2 false false)]], 0⟩), (34, ⟨4, [(1, .at (.n 0 false false)), (2, .at (.ptr 0 0)), (19, .at (.n 1 false false)), (22, .at (.n 2 false true))], [some [.many none (.n 3 false false)]], 0⟩)]⟩,
  ⟨15, 15, false, 3, ⟨0, [], [], 0⟩, none, [(9, ⟨4, [(3, .at (.ptr 0 0)), (5, .at (.ptr 1 0)), (8, .at (.ptr 2 0)), (40, .at (.n 0 false true))], [some [.many none (.n 1 false false)], some [.many none (.n 2 false false)], some [.many (some 4) (.n 3 false false)]], 0⟩)]⟩,
  ⟨19, 19, true, 0, ⟨0, [], [], 0⟩, none, []⟩]
def tabs1 : List FE := [
  ⟨35, 35, false, 2, ⟨0, [], [], 0⟩, none, []⟩,
  ⟨39, 39, false, 2, ⟨0, [], [], 0⟩, none, []⟩,
  ⟨47, 47, false, 2, ⟨0, [], [], 0⟩, none, []⟩,
  ⟨55, 55, false, 2, ⟨0, [], [], 0⟩, none, []⟩,
  ⟨59, 59, false, 2, ⟨0, [], [], 0⟩, none, []⟩,
  ⟨71, 71, false, 1, ⟨0, [], [], 0⟩, none, []⟩,
  ⟨95, 95, false, 1, ⟨0, [], [], 0⟩, none, []⟩,
  ⟨10432, 27, false, 2, ⟨2, [(0, .at (.n 0 false false)), (1, .at (.fp false 29 [(0, 0)]))], [some [.many none (.n 1 false false)]], 1⟩, some [⟨2, [.n 0 false false], [some [.many none (.n 1 false false)]]⟩], [(18, ⟨4, [(0, .at (.n 0 false false)), (1, .at (.fp false 29 [(0, 0)])), (5, .at (.n 1 false true)), (6, .at (.n 2 false true))], [some [.many none (.n 3 false false)]], 1⟩)]⟩,
  ⟨11056, 66, false, 1, ⟨4, [(0, .at (.ptr 0 0))], [some [.one (.n 0 false false), .one (.n 1 false true), .one (.n 2 true true), .one (.n 3 false true)]], 1⟩, some [⟨5, [.n 0 false true], [some [.one (.n 1 false false), .one (.n 2 false true), .one (.n 3 true true), .one (.n 4 false true)]]⟩], []⟩,
  ⟨10800, 50, false, 2, ⟨2, [(0, .at (.n 0 false false)), (1, .at (.fp false 29 [(0, 0)]))], [some [.many none (.n 1 false false)]], 1⟩, some [⟨2, [.n 0 false true], [some [.many none (.n 1 false false)]]⟩], [(8, ⟨4, [(0, .at (.n 0 false false)), (1, .at (.fp false 29 [(0, 0)])), (7, .at (.n 1 false true)), (8, .at (.n 2 false true))], [some [.many none (.n 3 false false)]], 1⟩)]⟩,
  ⟨11408, 88, false, 3, ⟨5, [(0, .at (.ptr 0 0)), (1, .at (.n 0 false true)), (2, .at (.fp true 89 [(0, 0)]))], [some [.one (.n 1 false false), .one (.n 2 false true), .one (.n 3 true true), .one (.n 4 false true)]], 1⟩, some [⟨5, [.n 0 false true], [some [.one (.n 1 false false), .one (.n 2 false true), .one (.n 3 true true), .one (.n 4 false true)]]⟩], [(16, ⟨5, [(0, .at (.ptr 0 0)), (1, .at (.n 0 false true)), (2, .at (.fp true 89 [(0, 0)]))], [some [.one (.n 1 false false), .one (.n 2 false true), .one (.n 3 true true), .one (.n 4 false true)]], 1⟩)]⟩,
  ⟨10464, 29, false, 2, ⟨2, [(0, .at (.n 0 false false)), (1, .at (.ptr 0 0))], [some [.many none (.n 1 false false)]], 1⟩, some [⟨2, [.n 0 false true], [some [.many none (.n 1 false false)]]⟩], []⟩,
  ⟨11424, 89, false, 1, ⟨4, [(0, .at (.ptr 0 0))], [some [.one (.n 0 false false), .one (.n 1 false true), .one (.n 2 true true), .one (.n 3 false true)]], 1⟩, some [⟨5, [.n 0 false true], [some [.one (.n 1 false false), .one (.n 2 false true), .one (.n 3 true true), .one (.n 4 false true)]]⟩], []⟩,
  ⟨11409, 88, false, 3, ⟨5, [(0, .at (.ptr 0 0)), (1, .at (.n 0 false true)), (2, .at (.fp true 109 [(0, 0)]))], [some [.one (.n 1 false false), .one (.n 2 false true), .one (.n 3 true true), .one (.n 4 false true)]], 1⟩, some [⟨5, [.n 0 false true], [some [.one (.n 1 false false), .one (.n 2 false true), .one (.n 3 true true), .one (.n 4 false true)]]⟩], [(16, ⟨5, [(0, .at (.ptr 0 0)), (1, .at (.n 0 false true)), (2, .at (.fp true 109 [(0, 0)]))], [some [.one (.n 1 false false), .one (.n 2 false true), .one (.n 3 true true), .one (.n 4 false true)]], 1⟩)]⟩,
  ⟨11744, 109, false, 1, ⟨4, [(0, .at (.ptr 0 0))], [some [.one (.n 0 false false), .one (.n 1 false true), .one (.n 2 true true), .one (.n 3 false true)]], 1⟩, some [⟨5, [.n 0 false true], [some [.one (.n 1 false false), .one (.n 2 false true), .one (.n 3 true true), .one (.n 4 false true)]]⟩], []⟩,
  ⟨11728, 108, false, 2, ⟨5, [(0, .at (.ptr 0 0)), (1, .at (.n 0 false true))], [some [.one (.n 1 false false), .one (.n 2 false true), .one (.n 3 true true), .one (.n 4 false true)]], 1⟩, some [⟨5, [.n 0 false true], [some [.one (.n 1 false false), .one (.n 2 false true), .one (.n 3 true true), .one (.n 4 false true)]]⟩], []⟩,
  ⟨11072, 67, false, 1, ⟨4, [(0, .at (.ptr 0 0))], [some [.one (.n 0 false false), .one (.n 1 false true), .one (.n 2 true true), .one (.n 3 false true)]], 1⟩, some [⟨4, [], [some [.one (.n 0 false false), .one (.n 1 false true), .one (.n 2 true true), .one (.n 3 false true)]]⟩], [(3, ⟨4, [(0, .at (.ptr 0 0))], [some [.one (.n 0 false false), .one (.n 1 false true), .one (.n 2 true true), .one (.n 3 false true)]], 1⟩)]⟩,
  ⟨12016, 126, false, 1, ⟨4, [(0, .at (.ptr 0 0))], [some [.one (.n 0 false false), .one (.n 1 false true), .one (.n 2 true true), .one (.n 3 false true)]], 1⟩, some [⟨5, [.n 0 false true], [some [.one (.n 1 false false), .one (.n 2 false true), .one (.n 3 true true), .one (.n 4 false true)]]⟩], [(48, ⟨5, [(0, .at (.ptr 0 0)), (4, .at (.n 0 false true))], [some [.one (.n 1 false false), .one (.n 2 false true), .one (.n 3 true true), .one (.n 4 false true)]], 1⟩)]⟩]
def tabs : List FE := tabs0 ++ tabs1
def extO : Nat → Bool := fun f => [46, 94].any (Nat.beq f)
def tb1 : List V := [.sl false 1 [.str [97, 105, 120], .str [97, 110, 100, 114, 111, 105, 100], .str [100, 97, 114, 119, 105, 110], .str [100, 114, 97, 103, 111, 110, 102, 108, 121], .str [102, 114, 101, 101, 98, 115, 100], .str [105, 108, 108, 117, 109, 111, 115], .str [105, 111, 115], .str [106, 115], .str [108, 105, 110, 117, 120], .str [110, 101, 116, 98, 115, 100], .str [111, 112, 101, 110, 98, 115, 100], .str [112, 108, 97, 110, 57], .str [115, 111, 108, 97, 114, 105, 115], .str [119, 97, 115, 105, 112, 49], .str [119, 105, 110, 100, 111, 119, 115]]]
def tb2 : List V := [.sl false 1 [.str [51, 56, 54], .str [97, 109, 100, 54, 52], .str [97, 114, 109], .str [97, 114, 109, 54, 52], .str [108, 111, 111, 110, 103, 54, 52], .str [109, 105, 112, 115], .str [109, 105, 112, 115, 54, 52], .str [109, 105, 112, 115, 54, 52, 108, 101], .str [109, 105, 112, 115, 108, 101], .str [112, 112, 99, 54, 52], .str [112, 112, 99, 54, 52, 108, 101], .str [114, 105, 115, 99, 118, 54, 52], .str [115, 51, 57, 48, 120], .str [119, 97, 115, 109]]]
def tb0 : List V := [.sl false 1 [.str [97, 105, 120], .str [97, 110, 100, 114, 111, 105, 100], .str [100, 97, 114, 119, 105, 110], .str [100, 114, 97, 103, 111, 110, 102, 108, 121], .str [102, 114, 101, 101, 98, 115, 100], .str [105, 108, 108, 117, 109, 111, 115], .str [105, 111, 115], .str [108, 105, 110, 117, 120], .str [110, 101, 116, 98, 115, 100], .str [111, 112, 101, 110, 98, 115, 100], .str [115, 111, 108, 97, 114, 105, 115]]]
def gls : Nat → Option (List V) := fun g => match Nat.beq g 1 with | true => some tb1 | false => match Nat.beq g 2 with | true => some tb2 | false => match Nat.beq g 0 with | true => some tb0 | false => none
def cfg : Cfg := cfgOf tabs extO gls
theorem keys : keysOK tabs = true := by kernel_rfl
noncomputable abbrev vl (e : Nat → List V → Option V) : Gam := val Tryz.prog tabs e cfg
end Go.Proofs.YtanocopjancaiaaGreatDoor
/-
  What functions of the program come to, over values alone. Printed by programs of this seat (wip/y/tool.lean, asm.py).
-/
namespace Go.Proofs.YtanocopjancaiaaGreatDoor
open Go.Abs

noncomputable def y.seichelaw16_CondNames (Γ : Gam) (v0 v1 v2 v3 : V) : Option V :=
  pr .scs [v0] fun v4 =>
  ca Γ 9 [] fun v5 =>
  pr (.un (.not)) [v5] fun v6 =>
  vif v6 (
    some (.bool false)) (
    pr (.ld (some 5) 0) [v4] fun v7 =>
    ca Γ 10 [v7] fun v8 =>
    vif v8 (
      some (.bool true)) (
      ca Γ 18 [] fun v9 =>
      ca Γ 19 [] fun v10 =>
      pr (.i2i (.u64)) [v1] fun v11 =>
      pr (.len false) [v9] fun v12 =>
      pr (.i2i (.u64)) [v12] fun v13 =>
      pr (.bin (.rem) (.no)) [v11, v13] fun v14 =>
      pr (.i2i (.i64)) [v14] fun v15 =>
      pr (.elem 1) [v9, v15] fun v16 =>
      pr (.ld none 0) [v16] fun v17 =>
      pr (.i2i (.u64)) [v2] fun v18 =>
      pr (.len false) [v10] fun v19 =>
      pr (.i2i (.u64)) [v19] fun v20 =>
      pr (.bin (.rem) (.no)) [v18, v20] fun v21 =>
      pr (.i2i (.i64)) [v21] fun v22 =>
      pr (.elem 1) [v10, v22] fun v23 =>
      pr (.ld none 0) [v23] fun v24 =>
      vif v3 (
        Γ 8 32 [v17, v24, (.str [95, 116, 101, 115, 116, 46, 103, 111]), (.int .i64 2), v4]) (
        Γ 8 32 [v17, v24, (.str [46, 103, 111]), (.int .i64 1), v4])))
theorem s.seichelaw16_CondNames (e : Nat → List V → Option V) (Γ : Gam) (v0 v1 v2 v3 : V) : Go.Abs.step Tryz.prog tabs e cfg Γ 8 0 [v0, v1, v2, v3] = y.seichelaw16_CondNames Γ v0 v1 v2 v3 := by kernel_rfl
theorem w.seichelaw16_CondNames (e : Nat → List V → Option V) (v0 v1 v2 v3 : V) : vl e 8 0 [v0, v1, v2, v3] = y.seichelaw16_CondNames (vl e) v0 v1 v2 v3 := val_of (s.seichelaw16_CondNames e _ v0 v1 v2 v3)
noncomputable def y.seichelaw16_CondNames_32 (Γ : Gam) (v0 v1 v2 v3 v4 : V) : Option V :=
  pr (.cat [none]) [(.str [112])] fun v5 =>
  pr (.cat [none, none, none, none, none, none]) [(.str [112]), (.sl false 3 []), (.str []), (.sl false 1 []), (.int .i64 0), (.int .i64 0)] fun v6 =>
  pr (.ld (some 5) 0) [v4] fun v7 =>
  pr (.bin (.add) (.no)) [(.str [120]), v2] fun v8 =>
  pr (.cat [none, none, none, none, none, none]) [(.str [112]), (.sl false 3 []), (.str []), (.sl false 1 []), (.int .i64 0), (.int .i64 0)] fun v9 =>
  ca Γ 15 [v7, v8, v9] fun v10 =>
  pr (.ext 0) [v10] fun v11 =>
  pr (.ext 1) [v10] fun v12 =>
  pr (.ld (some 5) 0) [v4] fun v13 =>
  pr (.bin (.add) (.no)) [(.str [120, 95]), v0] fun v14 =>
  pr (.bin (.add) (.no)) [v14, v2] fun v15 =>
  pr (.cat [none, none, none, none, none, none]) [(.str [112]), (.sl false 3 []), (.str []), (.sl false 1 []), (.int .i64 0), (.int .i64 0)] fun v16 =>
  ca Γ 15 [v13, v15, v16] fun v17 =>
  pr (.ext 0) [v17] fun v18 =>
  pr (.ext 1) [v17] fun v19 =>
  pr (.ld (some 5) 0) [v4] fun v20 =>
  pr (.bin (.add) (.no)) [(.str [120, 95]), v1] fun v21 =>
  pr (.bin (.add) (.no)) [v21, v2] fun v22 =>
  pr (.cat [none, none, none, none, none, none]) [(.str [112]), (.sl false 3 []), (.str []), (.sl false 1 []), (.int .i64 0), (.int .i64 0)] fun v23 =>
  ca Γ 15 [v20, v22, v23] fun v24 =>
  pr (.ext 0) [v24] fun v25 =>
  pr (.ext 1) [v24] fun v26 =>
  pr (.ld (some 5) 0) [v4] fun v27 =>
  pr (.bin (.add) (.no)) [(.str [120, 95]), v0] fun v28 =>
  pr (.bin (.add) (.no)) [v28, (.str [95])] fun v29 =>
  pr (.bin (.add) (.no)) [v29, v1] fun v30 =>
  pr (.bin (.add) (.no)) [v30, v2] fun v31 =>
  pr (.cat [none, none, none, none, none, none]) [(.str [112]), (.sl false 3 []), (.str []), (.sl false 1 []), (.int .i64 0), (.int .i64 0)] fun v32 =>
  ca Γ 15 [v27, v31, v32] fun v33 =>
  pr (.ext 0) [v33] fun v34 =>
  pr (.ext 1) [v33] fun v35 =>
  pr (.ld (some 5) 0) [v4] fun v36 =>
  ca Γ 11 [v36, v0] fun v37 =>
  pr (.ld (some 5) 0) [v4] fun v38 =>
  ca Γ 11 [v38, v1] fun v39 =>
  pr (.bin (.eql) (.no)) [v11, v3] fun v40 =>
  vif v40 (
    pr (.bin (.eql) (.no)) [v18, v3] fun v41 =>
    pr (.bin (.eql) (.bool)) [v41, v37] fun v42 =>
    vif v42 (
      pr (.bin (.eql) (.no)) [v25, v3] fun v43 =>
      pr (.bin (.eql) (.bool)) [v43, v39] fun v44 =>
      vif v44 (
        pr (.bin (.eql) (.no)) [v34, v3] fun v45 =>
        vif v37 (
          pr (.bin (.eql) (.bool)) [v45, v39] fun v46 =>
          vif v46 (
            vif v39 (
              some (.bool true)) (
              pr (.bin (.eql) (.no)) [v25, (.int .i64 0)] fun v47 =>
              some v47)) (
            some (.bool false))) (
          pr (.bin (.eql) (.bool)) [v45, (.bool false)] fun v46 =>
          vif v46 (
            pr (.bin (.eql) (.no)) [v18, (.int .i64 0)] fun v47 =>
            vif v47 (
              vif v39 (
                some (.bool true)) (
                pr (.bin (.eql) (.no)) [v25, (.int .i64 0)] fun v48 =>
                some v48)) (
              some (.bool false))) (
            some (.bool false)))) (
        some (.bool false))) (
      some (.bool false))) (
    some (.bool false))
theorem s.seichelaw16_CondNames_32 (e : Nat → List V → Option V) (Γ : Gam) (v0 v1 v2 v3 v4 : V) : Go.Abs.step Tryz.prog tabs e cfg Γ 8 32 [v0, v1, v2, v3, v4] = y.seichelaw16_CondNames_32 Γ v0 v1 v2 v3 v4 := by kernel_rfl
theorem w.seichelaw16_CondNames_32 (e : Nat → List V → Option V) (v0 v1 v2 v3 v4 : V) : vl e 8 32 [v0, v1, v2, v3, v4] = y.seichelaw16_CondNames_32 (vl e) v0 v1 v2 v3 v4 := val_of (s.seichelaw16_CondNames_32 e _ v0 v1 v2 v3 v4)
noncomputable def y.cond_level (Γ : Gam) (v0 : V) : Option V :=
  ca Γ 39 [v0, (.str [103, 111, 49, 46])] fun v1 =>
  pr (.ext 0) [v1] fun v2 =>
  pr (.ext 1) [v1] fun v3 =>
  pr (.un (.not)) [v3] fun v4 =>
  vif v4 (
    some (.tup [(.int .i64 0), (.bool false)])) (
    pr (.bin (.eql) (.no)) [v2, (.str [])] fun v5 =>
    vif v5 (
      some (.tup [(.int .i64 0), (.bool false)])) (
      pr (.len true) [v2] fun v6 =>
      pr (.bin (.gtr) (.no)) [v6, (.int .i64 4)] fun v7 =>
      vif v7 (
        some (.tup [(.int .i64 0), (.bool false)])) (
        pr .idx [v2, (.int .i64 0)] fun v8 =>
        pr (.bin (.eql) (.no)) [v8, (.int .u8 48)] fun v9 =>
        vif v9 (
          some (.tup [(.int .i64 0), (.bool false)])) (
          ca Γ 40 [v2] fun v10 =>
          pr (.ext 0) [v10] fun v11 =>
          pr (.ext 1) [v10] fun v12 =>
          pr (.bin (.eql) (.iface)) [v12, .nilif] fun v13 =>
          vif v13 (
            ca Γ 41 [v11] fun v14 =>
            pr (.bin (.eql) (.no)) [v14, v2] fun v15 =>
            some (.tup [v11, v15])) (
            some (.tup [v11, (.bool false)]))))))
theorem s.cond_level (e : Nat → List V → Option V) (Γ : Gam) (v0 : V) : Go.Abs.step Tryz.prog tabs e cfg Γ 20 0 [v0] = y.cond_level Γ v0 := by kernel_rfl
theorem w.cond_level (e : Nat → List V → Option V) (v0 : V) : vl e 20 0 [v0] = y.cond_level (vl e) v0 := val_of (s.cond_level e _ v0)
noncomputable def y.slices_Clone_Lstring_string (Γ : Gam) (v0 : V) : Option V :=
  vamb v0 (
    some (.sl false 1 [])) (
    pr (.bsl 1) [] fun v1 =>
    pr (.app 1) [v1, v0] fun v2 =>
    some v2)
theorem s.slices_Clone_Lstring_string (e : Nat → List V → Option V) (Γ : Gam) (v0 : V) : Go.Abs.step Tryz.prog tabs e cfg Γ 28 0 [v0] = y.slices_Clone_Lstring_string Γ v0 := by kernel_rfl
theorem w.slices_Clone_Lstring_string (e : Nat → List V → Option V) (v0 : V) : vl e 28 0 [v0] = y.slices_Clone_Lstring_string (vl e) v0 := val_of (s.slices_Clone_Lstring_string e _ v0)
noncomputable def y.suffix_Of (Γ : Gam) (v0 : V) : Option V :=
  ca Γ 55 [v0, (.str [46, 103, 111])] fun v1 =>
  pr (.ext 0) [v1] fun v2 =>
  pr (.ext 1) [v1] fun v3 =>
  pr (.un (.not)) [v3] fun v4 =>
  vif v4 (
    Γ 32 9 [v2, (.bool true), (.bool false), (.bool false), (.str []), (.str [])]) (
    ca Γ 44 [v0, (.str [95])] fun v5 =>
    vif v5 (
      Γ 32 9 [v2, (.bool true), (.bool false), (.bool false), (.str []), (.str [])]) (
      ca Γ 44 [v0, (.str [46])] fun v6 =>
      Γ 32 9 [v2, v6, (.bool false), (.bool false), (.str []), (.str [])]))
theorem s.suffix_Of (e : Nat → List V → Option V) (Γ : Gam) (v0 : V) : Go.Abs.step Tryz.prog tabs e cfg Γ 32 0 [v0] = y.suffix_Of Γ v0 := by kernel_rfl
theorem w.suffix_Of (e : Nat → List V → Option V) (v0 : V) : vl e 32 0 [v0] = y.suffix_Of (vl e) v0 := val_of (s.suffix_Of e _ v0)
noncomputable def y.suffix_Of_9 (Γ : Gam) (v0 v1 v2 v3 v4 v5 : V) : Option V :=
  vif v1 (
    pr (.cat []) [] fun v6 =>
    pr (.cat [none, none, none, none]) [(.bool false), (.bool false), (.str []), (.str [])] fun v7 =>
    pr (.cat [none, none, none, none]) [(.bool false), (.bool false), (.str []), (.str [])] fun v8 =>
    some v8) (
    pr (.cat [none]) [(.bool true)] fun v6 =>
    pr (.cat [none, none, none, none]) [(.bool true), (.bool false), (.str []), (.str [])] fun v7 =>
    ca Γ 55 [v0, (.str [95, 116, 101, 115, 116])] fun v8 =>
    pr (.ext 0) [v8] fun v9 =>
    pr (.ext 1) [v8] fun v10 =>
    pr .sc [v10] fun v11 =>
    ca Γ 46 [v9, (.str [95])] fun v12 =>
    pr (.slc 1 true false false) [v12, (.int .i64 1)] fun v13 =>
    pr (.len false) [v13] fun v14 =>
    pr (.bin (.sub) (.no)) [v14, (.int .i64 1)] fun v15 =>
    pr (.bin (.gtr) (.no)) [v15, (.int .i64 0)] fun v16 =>
    vif v16 (
      pr (.bin (.sub) (.no)) [v15, (.int .i64 1)] fun v17 =>
      pr (.elem 1) [v13, v17] fun v18 =>
      pr (.ld none 0) [v18] fun v19 =>
      ca Γ 56 [v19] fun v20 =>
      vif v20 (
        pr (.elem 1) [v13, v15] fun v21 =>
        pr (.ld none 0) [v21] fun v22 =>
        ca Γ 57 [v22] fun v23 =>
        Γ 32 26 [v13, v15, v23, v2, v3, v4, v5, (.bool true), v11, (.str []), (.str [])]) (
        Γ 32 26 [v13, v15, (.bool false), v2, v3, v4, v5, (.bool true), v11, (.str []), (.str [])])) (
      Γ 32 26 [v13, v15, (.bool false), v2, v3, v4, v5, (.bool true), v11, (.str []), (.str [])]))
theorem s.suffix_Of_9 (e : Nat → List V → Option V) (Γ : Gam) (v0 v1 v2 v3 v4 v5 : V) : Go.Abs.step Tryz.prog tabs e cfg Γ 32 9 [v0, v1, v2, v3, v4, v5] = y.suffix_Of_9 Γ v0 v1 v2 v3 v4 v5 := by kernel_rfl
theorem w.suffix_Of_9 (e : Nat → List V → Option V) (v0 v1 v2 v3 v4 v5 : V) : vl e 32 9 [v0, v1, v2, v3, v4, v5] = y.suffix_Of_9 (vl e) v0 v1 v2 v3 v4 v5 := val_of (s.suffix_Of_9 e _ v0 v1 v2 v3 v4 v5)
noncomputable def y.suffix_Of_26 (Γ : Gam) (v0 v1 v2 v3 v4 v5 v6 v7 v8 v9 v10 : V) : Option V :=
  vif v2 (
    pr (.bin (.sub) (.no)) [v1, (.int .i64 1)] fun v11 =>
    pr (.elem 1) [v0, v11] fun v12 =>
    pr (.ld none 0) [v12] fun v13 =>
    pr (.elem 1) [v0, v1] fun v14 =>
    pr (.ld none 0) [v14] fun v15 =>
    pr .sc [v13] fun v16 =>
    pr .sc [v15] fun v17 =>
    pr (.cat [none, none, none, none]) [v7, v8, v16, v17] fun v18 =>
    pr (.cat [none, none, none, none]) [v7, v8, v16, v17] fun v19 =>
    some v19) (
    pr (.bin (.geq) (.no)) [v1, (.int .i64 0)] fun v11 =>
    vif v11 (
      pr (.elem 1) [v0, v1] fun v12 =>
      pr (.ld none 0) [v12] fun v13 =>
      ca Γ 56 [v13] fun v14 =>
      vif v14 (
        pr (.elem 1) [v0, v1] fun v15 =>
        pr (.ld none 0) [v15] fun v16 =>
        pr .sc [v16] fun v17 =>
        pr (.cat [none, none, none, none]) [v7, v8, v17, v10] fun v18 =>
        pr (.cat [none, none, none, none]) [v7, v8, v17, v10] fun v19 =>
        some v19) (
        pr (.bin (.geq) (.no)) [v1, (.int .i64 0)] fun v15 =>
        vif v15 (
          pr (.elem 1) [v0, v1] fun v16 =>
          pr (.ld none 0) [v16] fun v17 =>
          ca Γ 57 [v17] fun v18 =>
          vif v18 (
            pr (.elem 1) [v0, v1] fun v19 =>
            pr (.ld none 0) [v19] fun v20 =>
            pr .sc [v20] fun v21 =>
            pr (.cat [none, none, none, none]) [v7, v8, v9, v21] fun v22 =>
            pr (.cat [none, none, none, none]) [v7, v8, v9, v21] fun v23 =>
            some v23) (
            pr (.cat [none, none, none, none]) [v7, v8, v9, v10] fun v19 =>
            pr (.cat [none, none, none, none]) [v7, v8, v9, v10] fun v20 =>
            some v20)) (
          pr (.cat [none, none, none, none]) [v7, v8, v9, v10] fun v16 =>
          pr (.cat [none, none, none, none]) [v7, v8, v9, v10] fun v17 =>
          some v17))) (
      pr (.bin (.geq) (.no)) [v1, (.int .i64 0)] fun v12 =>
      vif v12 (
        pr (.elem 1) [v0, v1] fun v13 =>
        pr (.ld none 0) [v13] fun v14 =>
        ca Γ 57 [v14] fun v15 =>
        vif v15 (
          pr (.elem 1) [v0, v1] fun v16 =>
          pr (.ld none 0) [v16] fun v17 =>
          pr .sc [v17] fun v18 =>
          pr (.cat [none, none, none, none]) [v7, v8, v9, v18] fun v19 =>
          pr (.cat [none, none, none, none]) [v7, v8, v9, v18] fun v20 =>
          some v20) (
          pr (.cat [none, none, none, none]) [v7, v8, v9, v10] fun v16 =>
          pr (.cat [none, none, none, none]) [v7, v8, v9, v10] fun v17 =>
          some v17)) (
        pr (.cat [none, none, none, none]) [v7, v8, v9, v10] fun v13 =>
        pr (.cat [none, none, none, none]) [v7, v8, v9, v10] fun v14 =>
        some v14)))
theorem s.suffix_Of_26 (e : Nat → List V → Option V) (Γ : Gam) (v0 v1 v2 v3 v4 v5 v6 v7 v8 v9 v10 : V) : Go.Abs.step Tryz.prog tabs e cfg Γ 32 26 [v0, v1, v2, v3, v4, v5, v6, v7, v8, v9, v10] = y.suffix_Of_26 Γ v0 v1 v2 v3 v4 v5 v6 v7 v8 v9 v10 := by kernel_rfl
theorem w.suffix_Of_26 (e : Nat → List V → Option V) (v0 v1 v2 v3 v4 v5 v6 v7 v8 v9 v10 : V) : vl e 32 26 [v0, v1, v2, v3, v4, v5, v6, v7, v8, v9, v10] = y.suffix_Of_26 (vl e) v0 v1 v2 v3 v4 v5 v6 v7 v8 v9 v10 := val_of (s.suffix_Of_26 e _ v0 v1 v2 v3 v4 v5 v6 v7 v8 v9 v10)
noncomputable def y.strings_HasPrefix (Γ : Gam) (v0 v1 : V) : Option V :=
  ca Γ 65 [v0, v1] fun v2 =>
  some v2
theorem s.strings_HasPrefix (e : Nat → List V → Option V) (Γ : Gam) (v0 v1 : V) : Go.Abs.step Tryz.prog tabs e cfg Γ 44 0 [v0, v1] = y.strings_HasPrefix Γ v0 v1 := by kernel_rfl
theorem w.strings_HasPrefix (e : Nat → List V → Option V) (v0 v1 : V) : vl e 44 0 [v0, v1] = y.strings_HasPrefix (vl e) v0 v1 := val_of (s.strings_HasPrefix e _ v0 v1)
noncomputable def y.plus_Lines (Γ : Gam) (v0 : V) : Option V :=
  pr (.len false) [v0] fun v1 =>
  pr (.bin (.eql) (.no)) [v1, (.int .i64 0)] fun v2 =>
  vif v2 (
    some (.tup [(.str []), (.int .i64 4)])) (
    ca Γ 70 [v0, (.str [32, 38, 38, 32]), (.fn 71 [])] fun v3 =>
    pr (.ext 0) [v3] fun v4 =>
    pr (.ext 1) [v3] fun v5 =>
    some (.tup [v4, v5]))
theorem s.plus_Lines (e : Nat → List V → Option V) (Γ : Gam) (v0 : V) : Go.Abs.step Tryz.prog tabs e cfg Γ 48 0 [v0] = y.plus_Lines Γ v0 := by kernel_rfl
theorem w.plus_Lines (e : Nat → List V → Option V) (v0 : V) : vl e 48 0 [v0] = y.plus_Lines (vl e) v0 := val_of (s.plus_Lines e _ v0)
noncomputable def y.seicheref14_Cut (Γ : Gam) (v0 v1 : V) : Option V :=
  Γ 52 12 [v0, v1, (.sl false 1 []), (.int .i64 0), (.int .i64 0)]
theorem s.seicheref14_Cut (e : Nat → List V → Option V) (Γ : Gam) (v0 v1 : V) : Go.Abs.step Tryz.prog tabs e cfg Γ 52 0 [v0, v1] = y.seicheref14_Cut Γ v0 v1 := by kernel_rfl
theorem w.seicheref14_Cut (e : Nat → List V → Option V) (v0 v1 : V) : vl e 52 0 [v0, v1] = y.seicheref14_Cut (vl e) v0 v1 := val_of (s.seicheref14_Cut e _ v0 v1)
noncomputable def y.seicheref14_Cut_12 (Γ : Gam) (v0 v1 v2 v3 v4 : V) : Option V :=
  pr (.len true) [v0] fun v5 =>
  pr (.bin (.leq) (.no)) [v4, v5] fun v6 =>
  vif v6 (
    pr (.len true) [v0] fun v7 =>
    pr (.bin (.eql) (.no)) [v4, v7] fun v8 =>
    vif v8 (
      pr (.sls true true) [v0, v3, v4] fun v9 =>
      pr (.bsl 1) [v9] fun v10 =>
      pr (.app 1) [v2, v10] fun v11 =>
      pr (.bin (.add) (.no)) [v4, (.int .i64 1)] fun v12 =>
      pr (.bin (.add) (.no)) [v4, (.int .i64 1)] fun v13 =>
      Γ 52 12 [v0, v1, v11, v12, v13]) (
      pr .idx [v0, v4] fun v9 =>
      pr (.bin (.eql) (.no)) [v9, v1] fun v10 =>
      vif v10 (
        pr (.sls true true) [v0, v3, v4] fun v11 =>
        pr (.bsl 1) [v11] fun v12 =>
        pr (.app 1) [v2, v12] fun v13 =>
        pr (.bin (.add) (.no)) [v4, (.int .i64 1)] fun v14 =>
        pr (.bin (.add) (.no)) [v4, (.int .i64 1)] fun v15 =>
        Γ 52 12 [v0, v1, v13, v14, v15]) (
        pr (.bin (.add) (.no)) [v4, (.int .i64 1)] fun v11 =>
        Γ 52 12 [v0, v1, v2, v3, v11]))) (
    some v2)
theorem s.seicheref14_Cut_12 (e : Nat → List V → Option V) (Γ : Gam) (v0 v1 v2 v3 v4 : V) : Go.Abs.step Tryz.prog tabs e cfg Γ 52 12 [v0, v1, v2, v3, v4] = y.seicheref14_Cut_12 Γ v0 v1 v2 v3 v4 := by kernel_rfl
theorem w.seicheref14_Cut_12 (e : Nat → List V → Option V) (v0 v1 v2 v3 v4 : V) : vl e 52 12 [v0, v1, v2, v3, v4] = y.seicheref14_Cut_12 (vl e) v0 v1 v2 v3 v4 := val_of (s.seicheref14_Cut_12 e _ v0 v1 v2 v3 v4)
noncomputable def y.suffix_System (Γ : Gam) (v0 : V) : Option V :=
  pr (.ld none 0) [(.agg [.sl false 1 [.str [97, 105, 120], .str [97, 110, 100, 114, 111, 105, 100], .str [100, 97, 114, 119, 105, 110], .str [100, 114, 97, 103, 111, 110, 102, 108, 121], .str [102, 114, 101, 101, 98, 115, 100], .str [105, 108, 108, 117, 109, 111, 115], .str [105, 111, 115], .str [106, 115], .str [108, 105, 110, 117, 120], .str [110, 101, 116, 98, 115, 100], .str [111, 112, 101, 110, 98, 115, 100], .str [112, 108, 97, 110, 57], .str [115, 111, 108, 97, 114, 105, 115], .str [119, 97, 115, 105, 112, 49], .str [119, 105, 110, 100, 111, 119, 115]]])] fun v1 =>
  ca Γ 22 [v1, v0] fun v2 =>
  some v2
theorem s.suffix_System (e : Nat → List V → Option V) (Γ : Gam) (v0 : V) : Go.Abs.step Tryz.prog tabs e cfg Γ 56 0 [v0] = y.suffix_System Γ v0 := by kernel_rfl
theorem w.suffix_System (e : Nat → List V → Option V) (v0 : V) : vl e 56 0 [v0] = y.suffix_System (vl e) v0 := val_of (s.suffix_System e _ v0)
noncomputable def y.slices_ContainsFunc_Lbyte_byte (Γ : Gam) (v0 v1 : V) : Option V :=
  ca Γ 97 [v0, v1] fun v2 =>
  pr (.bin (.geq) (.no)) [v2, (.int .i64 0)] fun v3 =>
  some v3
theorem s.slices_ContainsFunc_Lbyte_byte (e : Nat → List V → Option V) (Γ : Gam) (v0 v1 : V) : Go.Abs.step Tryz.prog tabs e cfg Γ 72 0 [v0, v1] = y.slices_ContainsFunc_Lbyte_byte Γ v0 v1 := by kernel_rfl
theorem w.slices_ContainsFunc_Lbyte_byte (e : Nat → List V → Option V) (v0 v1 : V) : vl e 72 0 [v0, v1] = y.slices_ContainsFunc_Lbyte_byte (vl e) v0 v1 := val_of (s.slices_ContainsFunc_Lbyte_byte e _ v0 v1)
noncomputable def y.plus_option (Γ : Gam) (v0 : V) : Option V :=
  ca Γ 46 [v0, (.str [44])] fun v1 =>
  ca Γ 70 [v1, (.str [32, 38, 38, 32]), (.fn 117 [])] fun v2 =>
  pr (.ext 0) [v2] fun v3 =>
  pr (.ext 1) [v2] fun v4 =>
  some (.tup [v3, v4])
theorem s.plus_option (e : Nat → List V → Option V) (Γ : Gam) (v0 : V) : Go.Abs.step Tryz.prog tabs e cfg Γ 96 0 [v0] = y.plus_option Γ v0 := by kernel_rfl
theorem w.plus_option (e : Nat → List V → Option V) (v0 : V) : vl e 96 0 [v0] = y.plus_option (vl e) v0 := val_of (s.plus_option e _ v0)
noncomputable def y.seichelaw16_alive (Γ : Gam) : Option V :=
  pr (.cat [none, none, none]) [(.str [108, 105, 110, 117, 120]), (.str [97, 114, 109]), (.int .i64 20)] fun v0 =>
  pr (.cat [none, none, none, none, none]) [(.str [108, 105, 110, 117, 120]), (.str [97, 114, 109]), (.bool false), (.int .i64 20), (.sl false 1 [])] fun v1 =>
  pr (.cat [none, none, none, none, none]) [(.str [108, 105, 110, 117, 120]), (.str [97, 114, 109]), (.bool false), (.int .i64 20), (.sl false 1 [])] fun v2 =>
  pr (.cat [none]) [(.str [97, 95, 116, 101, 115, 116])] fun v3 =>
  pr (.cat [none, none, none, none, none, none]) [(.str [97, 95, 116, 101, 115, 116]), (.sl false 3 []), (.str []), (.sl false 1 []), (.int .i64 0), (.int .i64 0)] fun v4 =>
  ca Γ 15 [v2, (.str [97, 95, 108, 105, 110, 117, 120, 95, 116, 101, 115, 116, 46, 103, 111]), v4] fun v5 =>
  pr (.ext 0) [v5] fun v6 =>
  pr (.ext 1) [v5] fun v7 =>
  pr (.cat [none, none, none, none, none]) [(.str [108, 105, 110, 117, 120]), (.str [97, 114, 109]), (.bool false), (.int .i64 20), (.sl false 1 [])] fun v8 =>
  ca Γ 11 [v8, (.str [103, 111, 49, 46, 50, 48])] fun v9 =>
  vif v9 (
    pr (.cat [none, none, none, none, none]) [(.str [108, 105, 110, 117, 120]), (.str [97, 114, 109]), (.bool false), (.int .i64 20), (.sl false 1 [])] fun v10 =>
    ca Γ 11 [v10, (.str [103, 111, 49, 46, 50, 49])] fun v11 =>
    pr (.un (.not)) [v11] fun v12 =>
    vif v12 (
      pr (.cat [none, none, none, none, none]) [(.str [108, 105, 110, 117, 120]), (.str [97, 114, 109]), (.bool false), (.int .i64 20), (.sl false 1 [])] fun v13 =>
      ca Γ 11 [v13, (.str [117, 110, 105, 120])] fun v14 =>
      vif v14 (
        pr (.bin (.eql) (.no)) [v6, (.int .i64 3)] fun v15 =>
        vif v15 (
          pr (.bin (.eql) (.no)) [v7, (.int .i64 0)] fun v16 =>
          some v16) (
          some (.bool false))) (
        some (.bool false))) (
      some (.bool false))) (
    some (.bool false))
theorem s.seichelaw16_alive (e : Nat → List V → Option V) (Γ : Gam) : Go.Abs.step Tryz.prog tabs e cfg Γ 9 0 [] = y.seichelaw16_alive Γ := by kernel_rfl
theorem w.seichelaw16_alive (e : Nat → List V → Option V) : vl e 9 0 [] = y.seichelaw16_alive (vl e) := val_of (s.seichelaw16_alive e _)
noncomputable def y.cond_Holds (Γ : Gam) (v0 v1 : V) : Option V :=
  pr .scs [v0] fun v2 =>
  pr (.bin (.eql) (.no)) [v1, (.str [])] fun v3 =>
  vif v3 (
    some (.tup [(.bool true), (.int .i64 0)])) (
    ca Γ 25 [v1] fun v4 =>
    pr (.ext 0) [v4] fun v5 =>
    pr (.ext 1) [v4] fun v6 =>
    pr (.bin (.neq) (.no)) [v6, (.int .i64 0)] fun v7 =>
    vif v7 (
      some (.tup [(.bool false), v6])) (
      ca Γ 28 [v5] fun v8 =>
      ch Γ 10432 [v8, v2] fun v9 =>
      pr (.ext 0) [v9] fun v10 =>
      pr (.ext 1) [v9] fun v11 =>
      ca Γ 26 [v5, v10] fun v12 =>
      pr (.ext 0) [v12] fun v13 =>
      pr (.ext 1) [v12] fun v14 =>
      some (.tup [v13, v14])))
theorem s.cond_Holds (e : Nat → List V → Option V) (Γ : Gam) (v0 v1 : V) : Go.Abs.step Tryz.prog tabs e cfg Γ 13 0 [v0, v1] = y.cond_Holds Γ v0 v1 := by kernel_rfl
theorem w.cond_Holds (e : Nat → List V → Option V) (v0 v1 : V) : vl e 13 0 [v0, v1] = y.cond_Holds (vl e) v0 v1 := val_of (s.cond_Holds e _ v0 v1)
noncomputable def y.seicheref13_In (Γ : Gam) (v0 v1 : V) : Option V :=
  pr (.len false) [v0] fun v2 =>
  Γ 17 8 [v1, v0, v2, (.int .i64 0)]
theorem s.seicheref13_In (e : Nat → List V → Option V) (Γ : Gam) (v0 v1 : V) : Go.Abs.step Tryz.prog tabs e cfg Γ 17 0 [v0, v1] = y.seicheref13_In Γ v0 v1 := by kernel_rfl
theorem w.seicheref13_In (e : Nat → List V → Option V) (v0 v1 : V) : vl e 17 0 [v0, v1] = y.seicheref13_In (vl e) v0 v1 := val_of (s.seicheref13_In e _ v0 v1)
noncomputable def y.seicheref13_In_8 (Γ : Gam) (v0 v1 v2 v3 : V) : Option V :=
  pr (.bin (.lss) (.no)) [v3, v2] fun v4 =>
  vif v4 (
    pr (.elem 1) [v1, v3] fun v5 =>
    pr (.ld none 0) [v5] fun v6 =>
    pr (.bin (.eql) (.no)) [v6, v0] fun v7 =>
    vif v7 (
      some (.bool true)) (
      pr (.bin (.add) (.no)) [v3, (.int .i64 1)] fun v8 =>
      Γ 17 8 [v0, v1, v2, v8])) (
    some (.bool false))
theorem s.seicheref13_In_8 (e : Nat → List V → Option V) (Γ : Gam) (v0 v1 v2 v3 : V) : Go.Abs.step Tryz.prog tabs e cfg Γ 17 8 [v0, v1, v2, v3] = y.seicheref13_In_8 Γ v0 v1 v2 v3 := by kernel_rfl
theorem w.seicheref13_In_8 (e : Nat → List V → Option V) (v0 v1 v2 v3 : V) : vl e 17 8 [v0, v1, v2, v3] = y.seicheref13_In_8 (vl e) v0 v1 v2 v3 := val_of (s.seicheref13_In_8 e _ v0 v1 v2 v3)
noncomputable def y.suffix_Unix (Γ : Gam) (v0 : V) : Option V :=
  pr (.ld none 0) [(.agg [.sl false 1 [.str [97, 105, 120], .str [97, 110, 100, 114, 111, 105, 100], .str [100, 97, 114, 119, 105, 110], .str [100, 114, 97, 103, 111, 110, 102, 108, 121], .str [102, 114, 101, 101, 98, 115, 100], .str [105, 108, 108, 117, 109, 111, 115], .str [105, 111, 115], .str [108, 105, 110, 117, 120], .str [110, 101, 116, 98, 115, 100], .str [111, 112, 101, 110, 98, 115, 100], .str [115, 111, 108, 97, 114, 105, 115]]])] fun v1 =>
  ca Γ 22 [v1, v0] fun v2 =>
  some v2
theorem s.suffix_Unix (e : Nat → List V → Option V) (Γ : Gam) (v0 : V) : Go.Abs.step Tryz.prog tabs e cfg Γ 21 0 [v0] = y.suffix_Unix Γ v0 := by kernel_rfl
theorem w.suffix_Unix (e : Nat → List V → Option V) (v0 : V) : vl e 21 0 [v0] = y.suffix_Unix (vl e) v0 := val_of (s.suffix_Unix e _ v0)
noncomputable def y.plus_Parse (Γ : Gam) (v0 : V) : Option V :=
  ca Γ 44 [v0, (.str [43])] fun v1 =>
  pr (.un (.not)) [v1] fun v2 =>
  vif v2 (
    ca Γ 45 [v0] fun v3 =>
    pr (.ext 0) [v3] fun v4 =>
    pr (.ext 1) [v3] fun v5 =>
    some (.tup [v4, v5])) (
    ca Γ 46 [v0, (.str [10])] fun v3 =>
    pr (.len false) [v3] fun v4 =>
    Γ 25 18 [(.sl false 1 []), v3, v4, (.int .i64 0)])
theorem s.plus_Parse (e : Nat → List V → Option V) (Γ : Gam) (v0 : V) : Go.Abs.step Tryz.prog tabs e cfg Γ 25 0 [v0] = y.plus_Parse Γ v0 := by kernel_rfl
theorem w.plus_Parse (e : Nat → List V → Option V) (v0 : V) : vl e 25 0 [v0] = y.plus_Parse (vl e) v0 := val_of (s.plus_Parse e _ v0)
noncomputable def y.plus_Parse_18 (Γ : Gam) (v0 v1 v2 v3 : V) : Option V :=
  pr (.bin (.lss) (.no)) [v3, v2] fun v4 =>
  vif v4 (
    pr (.elem 1) [v1, v3] fun v5 =>
    pr (.ld none 0) [v5] fun v6 =>
    ca Γ 47 [v6, (.str [43])] fun v7 =>
    pr (.bsl 1) [v7] fun v8 =>
    pr (.app 1) [v0, v8] fun v9 =>
    pr (.bin (.add) (.no)) [v3, (.int .i64 1)] fun v10 =>
    Γ 25 18 [v9, v1, v2, v10]) (
    ca Γ 48 [v0] fun v5 =>
    pr (.ext 0) [v5] fun v6 =>
    pr (.ext 1) [v5] fun v7 =>
    pr (.bin (.neq) (.no)) [v7, (.int .i64 0)] fun v8 =>
    vif v8 (
      some (.tup [(.sl false 1 []), v7])) (
      ca Γ 45 [v6] fun v9 =>
      pr (.ext 0) [v9] fun v10 =>
      pr (.ext 1) [v9] fun v11 =>
      some (.tup [v10, v11])))
theorem s.plus_Parse_18 (e : Nat → List V → Option V) (Γ : Gam) (v0 v1 v2 v3 : V) : Go.Abs.step Tryz.prog tabs e cfg Γ 25 18 [v0, v1, v2, v3] = y.plus_Parse_18 Γ v0 v1 v2 v3 := by kernel_rfl
theorem w.plus_Parse_18 (e : Nat → List V → Option V) (v0 v1 v2 v3 : V) : vl e 25 18 [v0, v1, v2, v3] = y.plus_Parse_18 (vl e) v0 v1 v2 v3 := val_of (s.plus_Parse_18 e _ v0 v1 v2 v3)
noncomputable def y.slices_ContainsFunc_Lseiche_api_Import_seiche_api_Import (Γ : Gam) (v0 v1 : V) : Option V :=
  ca Γ 58 [v0, v1] fun v2 =>
  pr (.bin (.geq) (.no)) [v2, (.int .i64 0)] fun v3 =>
  some v3
theorem s.slices_ContainsFunc_Lseiche_api_Import_seiche_api_Import (e : Nat → List V → Option V) (Γ : Gam) (v0 v1 : V) : Go.Abs.step Tryz.prog tabs e cfg Γ 33 0 [v0, v1] = y.slices_ContainsFunc_Lseiche_api_Import_seiche_api_Import Γ v0 v1 := by kernel_rfl
theorem w.slices_ContainsFunc_Lseiche_api_Import_seiche_api_Import (e : Nat → List V → Option V) (v0 v1 : V) : vl e 33 0 [v0, v1] = y.slices_ContainsFunc_Lseiche_api_Import_seiche_api_Import (vl e) v0 v1 := val_of (s.slices_ContainsFunc_Lseiche_api_Import_seiche_api_Import e _ v0 v1)
noncomputable def y.expr_Parse (Γ : Gam) (v0 : V) : Option V :=
  pr (.len true) [v0] fun v1 =>
  pr (.bin (.gtr) (.no)) [v1, (.int .i64 1024)] fun v2 =>
  vif v2 (
    some (.tup [(.sl false 1 []), (.int .i64 3)])) (
    pr (.cat [none]) [v0] fun v3 =>
    pr (.cat [none, none, none, none]) [v0, (.int .i64 0), (.sl false 1 []), (.int .i64 0)] fun v4 =>
    ch Γ 11056 [v0, (.int .i64 0), (.sl false 1 []), (.int .i64 0)] fun v5 =>
    pr (.ext 0) [v5] fun v6 =>
    pr (.ext 1) [v5] fun v7 =>
    pr (.ext 2) [v5] fun v8 =>
    pr (.ext 3) [v5] fun v9 =>
    pr (.ext 4) [v5] fun v10 =>
    pr (.bin (.neq) (.no)) [v6, (.int .i64 0)] fun v11 =>
    vif v11 (
      some (.tup [(.sl false 1 []), v6])) (
      ch Γ 11072 [v7, v8, v9, v10] fun v12 =>
      pr (.ext 0) [v12] fun v13 =>
      pr (.ext 1) [v12] fun v14 =>
      pr (.ext 2) [v12] fun v15 =>
      pr (.ext 3) [v12] fun v16 =>
      pr (.len true) [v13] fun v17 =>
      pr (.bin (.lss) (.no)) [v14, v17] fun v18 =>
      vif v18 (
        some (.tup [(.sl false 1 []), (.int .i64 4)])) (
        some (.tup [v15, (.int .i64 0)]))))
theorem s.expr_Parse (e : Nat → List V → Option V) (Γ : Gam) (v0 : V) : Go.Abs.step Tryz.prog tabs e cfg Γ 45 0 [v0] = y.expr_Parse Γ v0 := by kernel_rfl
theorem w.expr_Parse (e : Nat → List V → Option V) (v0 : V) : vl e 45 0 [v0] = y.expr_Parse (vl e) v0 := val_of (s.expr_Parse e _ v0)
noncomputable def y.expr_Tag (Γ : Gam) (v0 : V) : Option V :=
  pr (.bin (.neq) (.no)) [v0, (.str [])] fun v1 =>
  vif v1 (
    pr .s2b [v0] fun v2 =>
    ca Γ 72 [v2, (.fn 73 [])] fun v3 =>
    pr (.un (.not)) [v3] fun v4 =>
    some v4) (
    some (.bool false))
theorem s.expr_Tag (e : Nat → List V → Option V) (Γ : Gam) (v0 : V) : Go.Abs.step Tryz.prog tabs e cfg Γ 49 0 [v0] = y.expr_Tag Γ v0 := by kernel_rfl
theorem w.expr_Tag (e : Nat → List V → Option V) (v0 : V) : vl e 49 0 [v0] = y.expr_Tag (vl e) v0 := val_of (s.expr_Tag e _ v0)
noncomputable def y.suffix_Processor (Γ : Gam) (v0 : V) : Option V :=
  pr (.ld none 0) [(.agg [.sl false 1 [.str [51, 56, 54], .str [97, 109, 100, 54, 52], .str [97, 114, 109], .str [97, 114, 109, 54, 52], .str [108, 111, 111, 110, 103, 54, 52], .str [109, 105, 112, 115], .str [109, 105, 112, 115, 54, 52], .str [109, 105, 112, 115, 54, 52, 108, 101], .str [109, 105, 112, 115, 108, 101], .str [112, 112, 99, 54, 52], .str [112, 112, 99, 54, 52, 108, 101], .str [114, 105, 115, 99, 118, 54, 52], .str [115, 51, 57, 48, 120], .str [119, 97, 115, 109]]])] fun v1 =>
  ca Γ 22 [v1, v0] fun v2 =>
  some v2
theorem s.suffix_Processor (e : Nat → List V → Option V) (Γ : Gam) (v0 : V) : Go.Abs.step Tryz.prog tabs e cfg Γ 57 0 [v0] = y.suffix_Processor Γ v0 := by kernel_rfl
theorem w.suffix_Processor (e : Nat → List V → Option V) (v0 : V) : vl e 57 0 [v0] = y.suffix_Processor (vl e) v0 := val_of (s.suffix_Processor e _ v0)
noncomputable def y.internal_stringslite_CutPrefix (Γ : Gam) (v0 v1 : V) : Option V :=
  ca Γ 65 [v0, v1] fun v2 =>
  pr (.un (.not)) [v2] fun v3 =>
  vif v3 (
    some (.tup [v0, (.bool false)])) (
    pr (.len true) [v1] fun v4 =>
    pr (.sls true false) [v0, v4] fun v5 =>
    some (.tup [v5, (.bool true)]))
theorem s.internal_stringslite_CutPrefix (e : Nat → List V → Option V) (Γ : Gam) (v0 v1 : V) : Go.Abs.step Tryz.prog tabs e cfg Γ 61 0 [v0, v1] = y.internal_stringslite_CutPrefix Γ v0 v1 := by kernel_rfl
theorem w.internal_stringslite_CutPrefix (e : Nat → List V → Option V) (v0 v1 : V) : vl e 61 0 [v0, v1] = y.internal_stringslite_CutPrefix (vl e) v0 v1 := val_of (s.internal_stringslite_CutPrefix e _ v0 v1)
noncomputable def y.internal_stringslite_HasPrefix (Γ : Gam) (v0 v1 : V) : Option V :=
  pr (.len true) [v0] fun v2 =>
  pr (.len true) [v1] fun v3 =>
  pr (.bin (.geq) (.no)) [v2, v3] fun v4 =>
  vif v4 (
    pr (.len true) [v1] fun v5 =>
    pr (.sls false true) [v0, v5] fun v6 =>
    pr (.bin (.eql) (.no)) [v6, v1] fun v7 =>
    some v7) (
    some (.bool false))
theorem s.internal_stringslite_HasPrefix (e : Nat → List V → Option V) (Γ : Gam) (v0 v1 : V) : Go.Abs.step Tryz.prog tabs e cfg Γ 65 0 [v0, v1] = y.internal_stringslite_HasPrefix Γ v0 v1 := by kernel_rfl
theorem w.internal_stringslite_HasPrefix (e : Nat → List V → Option V) (v0 v1 : V) : vl e 65 0 [v0, v1] = y.internal_stringslite_HasPrefix (vl e) v0 v1 := val_of (s.internal_stringslite_HasPrefix e _ v0 v1)
noncomputable def y.internal_stringslite_TrimPrefix (Γ : Gam) (v0 v1 : V) : Option V :=
  ca Γ 65 [v0, v1] fun v2 =>
  vif v2 (
    pr (.len true) [v1] fun v3 =>
    pr (.sls true false) [v0, v3] fun v4 =>
    some v4) (
    some v0)
theorem s.internal_stringslite_TrimPrefix (e : Nat → List V → Option V) (Γ : Gam) (v0 v1 : V) : Go.Abs.step Tryz.prog tabs e cfg Γ 69 0 [v0, v1] = y.internal_stringslite_TrimPrefix Γ v0 v1 := by kernel_rfl
theorem w.internal_stringslite_TrimPrefix (e : Nat → List V → Option V) (v0 v1 : V) : vl e 69 0 [v0, v1] = y.internal_stringslite_TrimPrefix (vl e) v0 v1 := val_of (s.internal_stringslite_TrimPrefix e _ v0 v1)
noncomputable def y.expr_Tag_1 (Γ : Gam) (v0 : V) : Option V :=
  ca Γ 74 [v0] fun v1 =>
  pr (.un (.not)) [v1] fun v2 =>
  some v2
theorem s.expr_Tag_1 (e : Nat → List V → Option V) (Γ : Gam) (v0 : V) : Go.Abs.step Tryz.prog tabs e cfg Γ 73 0 [v0] = y.expr_Tag_1 Γ v0 := by kernel_rfl
theorem w.expr_Tag_1 (e : Nat → List V → Option V) (v0 : V) : vl e 73 0 [v0] = y.expr_Tag_1 (vl e) v0 := val_of (s.expr_Tag_1 e _ v0)
noncomputable def y.internal_stringslite_CutSuffix (Γ : Gam) (v0 v1 : V) : Option V :=
  ca Γ 59 [v0, v1] fun v2 =>
  pr (.un (.not)) [v2] fun v3 =>
  vif v3 (
    some (.tup [v0, (.bool false)])) (
    pr (.len true) [v0] fun v4 =>
    pr (.len true) [v1] fun v5 =>
    pr (.bin (.sub) (.no)) [v4, v5] fun v6 =>
    pr (.sls false true) [v0, v6] fun v7 =>
    some (.tup [v7, (.bool true)]))
theorem s.internal_stringslite_CutSuffix (e : Nat → List V → Option V) (Γ : Gam) (v0 v1 : V) : Go.Abs.step Tryz.prog tabs e cfg Γ 81 0 [v0, v1] = y.internal_stringslite_CutSuffix Γ v0 v1 := by kernel_rfl
theorem w.internal_stringslite_CutSuffix (e : Nat → List V → Option V) (v0 v1 : V) : vl e 81 0 [v0, v1] = y.internal_stringslite_CutSuffix (vl e) v0 v1 := val_of (s.internal_stringslite_CutSuffix e _ v0 v1)
noncomputable def y.slices_IndexFunc_Lbyte_byte (Γ : Gam) (v0 v1 : V) : Option V :=
  pr (.len false) [v0] fun v2 =>
  Γ 97 8 [v0, v1, v2, (.int .i64 0)]
theorem s.slices_IndexFunc_Lbyte_byte (e : Nat → List V → Option V) (Γ : Gam) (v0 v1 : V) : Go.Abs.step Tryz.prog tabs e cfg Γ 97 0 [v0, v1] = y.slices_IndexFunc_Lbyte_byte Γ v0 v1 := by kernel_rfl
theorem w.slices_IndexFunc_Lbyte_byte (e : Nat → List V → Option V) (v0 v1 : V) : vl e 97 0 [v0, v1] = y.slices_IndexFunc_Lbyte_byte (vl e) v0 v1 := val_of (s.slices_IndexFunc_Lbyte_byte e _ v0 v1)
noncomputable def y.slices_IndexFunc_Lbyte_byte_8 (Γ : Gam) (v0 v1 v2 v3 : V) : Option V :=
  pr (.bin (.lss) (.no)) [v3, v2] fun v4 =>
  vif v4 (
    pr (.elem 1) [v0, v3] fun v5 =>
    pr (.ld none 0) [v5] fun v6 =>
    cv Γ v1 [v6] fun v7 =>
    vif v7 (
      some v3) (
      pr (.bin (.add) (.no)) [v3, (.int .i64 1)] fun v8 =>
      Γ 97 8 [v0, v1, v2, v8])) (
    some (.int .i64 (-1)))
theorem s.slices_IndexFunc_Lbyte_byte_8 (e : Nat → List V → Option V) (Γ : Gam) (v0 v1 v2 v3 : V) : Go.Abs.step Tryz.prog tabs e cfg Γ 97 8 [v0, v1, v2, v3] = y.slices_IndexFunc_Lbyte_byte_8 Γ v0 v1 v2 v3 := by kernel_rfl
theorem w.slices_IndexFunc_Lbyte_byte_8 (e : Nat → List V → Option V) (v0 v1 v2 v3 : V) : vl e 97 8 [v0, v1, v2, v3] = y.slices_IndexFunc_Lbyte_byte_8 (vl e) v0 v1 v2 v3 := val_of (s.slices_IndexFunc_Lbyte_byte_8 e _ v0 v1 v2 v3)
noncomputable def y.plus_term (Γ : Gam) (v0 : V) : Option V :=
  ca Γ 39 [v0, (.str [33])] fun v1 =>
  pr (.ext 0) [v1] fun v2 =>
  pr (.ext 1) [v1] fun v3 =>
  ca Γ 49 [v2] fun v4 =>
  pr (.un (.not)) [v4] fun v5 =>
  vif v5 (
    some (.tup [(.str []), (.int .i64 4)])) (
    vif v3 (
      pr (.bin (.add) (.no)) [(.str [33]), v2] fun v6 =>
      some (.tup [v6, (.int .i64 0)])) (
      some (.tup [v2, (.int .i64 0)])))
theorem s.plus_term (e : Nat → List V → Option V) (Γ : Gam) (v0 : V) : Go.Abs.step Tryz.prog tabs e cfg Γ 117 0 [v0] = y.plus_term Γ v0 := by kernel_rfl
theorem w.plus_term (e : Nat → List V → Option V) (v0 : V) : vl e 117 0 [v0] = y.plus_term (vl e) v0 := val_of (s.plus_term e _ v0)
noncomputable def y.seichelaw16_CondLevels (Γ : Gam) (v0 v1 v2 v3 : V) : Option V :=
  pr .scs [v0] fun v4 =>
  ca Γ 9 [] fun v5 =>
  pr (.un (.not)) [v5] fun v6 =>
  vif v6 (
    some (.bool false)) (
    pr (.ld (some 5) 0) [v4] fun v7 =>
    ca Γ 10 [v7] fun v8 =>
    vif v8 (
      Γ 6 15 [v1, v2, v3, (.bool true), v4]) (
      pr (.len true) [v2] fun v9 =>
      pr (.bin (.gtr) (.no)) [v9, (.int .i64 512)] fun v10 =>
      vif v10 (
        Γ 6 15 [v1, v2, v3, (.bool true), v4]) (
        pr (.ld none 3) [v4] fun v11 =>
        pr (.bin (.lss) (.no)) [v1, v11] fun v12 =>
        Γ 6 15 [v1, v2, v3, v12, v4])))
theorem s.seichelaw16_CondLevels (e : Nat → List V → Option V) (Γ : Gam) (v0 v1 v2 v3 : V) : Go.Abs.step Tryz.prog tabs e cfg Γ 6 0 [v0, v1, v2, v3] = y.seichelaw16_CondLevels Γ v0 v1 v2 v3 := by kernel_rfl
theorem w.seichelaw16_CondLevels (e : Nat → List V → Option V) (v0 v1 v2 v3 : V) : vl e 6 0 [v0, v1, v2, v3] = y.seichelaw16_CondLevels (vl e) v0 v1 v2 v3 := val_of (s.seichelaw16_CondLevels e _ v0 v1 v2 v3)
noncomputable def y.seichelaw16_CondLevels_15 (Γ : Gam) (v0 v1 v2 v3 v4 : V) : Option V :=
  vif v3 (
    some (.bool true)) (
    pr (.ld (some 5) 0) [v4] fun v5 =>
    pr (.cat [some 5]) [v5] fun v6 =>
    pr (.set 1 3) [v6, v0] fun v7 =>
    pr (.ld (some 5) 0) [v4] fun v8 =>
    ca Γ 11 [v8, v1] fun v9 =>
    vif v9 (
      ca Γ 11 [v7, v1] fun v10 =>
      pr (.un (.not)) [v10] fun v11 =>
      vif v11 (
        some (.bool false)) (
        pr (.bin (.lss) (.no)) [v2, (.int .i64 1)] fun v12 =>
        vif v12 (
          some (.bool true)) (
          pr (.bin (.gtr) (.no)) [v2, (.int .i64 9999)] fun v13 =>
          vif v13 (
            some (.bool true)) (
            Γ 6 46 [v2, (.str []), v2, v4])))) (
      pr (.bin (.lss) (.no)) [v2, (.int .i64 1)] fun v10 =>
      vif v10 (
        some (.bool true)) (
        pr (.bin (.gtr) (.no)) [v2, (.int .i64 9999)] fun v11 =>
        vif v11 (
          some (.bool true)) (
          Γ 6 46 [v2, (.str []), v2, v4]))))
theorem s.seichelaw16_CondLevels_15 (e : Nat → List V → Option V) (Γ : Gam) (v0 v1 v2 v3 v4 : V) : Go.Abs.step Tryz.prog tabs e cfg Γ 6 15 [v0, v1, v2, v3, v4] = y.seichelaw16_CondLevels_15 Γ v0 v1 v2 v3 v4 := by kernel_rfl
theorem w.seichelaw16_CondLevels_15 (e : Nat → List V → Option V) (v0 v1 v2 v3 v4 : V) : vl e 6 15 [v0, v1, v2, v3, v4] = y.seichelaw16_CondLevels_15 (vl e) v0 v1 v2 v3 v4 := val_of (s.seichelaw16_CondLevels_15 e _ v0 v1 v2 v3 v4)
noncomputable def y.seichelaw16_CondLevels_46 (Γ : Gam) (v0 v1 v2 v3 : V) : Option V :=
  pr (.bin (.gtr) (.no)) [v2, (.int .i64 0)] fun v4 =>
  vif v4 (
    pr (.bin (.rem) (.no)) [v2, (.int .i64 10)] fun v5 =>
    pr (.bin (.add) (.no)) [(.int .i64 48), v5] fun v6 =>
    pr (.i2i (.u8)) [v6] fun v7 =>
    pr (.bsl 1) [v7] fun v8 =>
    pr .b2s [v8] fun v9 =>
    pr (.bin (.add) (.no)) [v9, v1] fun v10 =>
    pr (.bin (.quo) (.no)) [v2, (.int .i64 10)] fun v11 =>
    Γ 6 46 [v0, v10, v11, v3]) (
    pr (.bin (.add) (.no)) [(.str [103, 111, 49, 46]), v1] fun v5 =>
    pr (.ld (some 5) 0) [v3] fun v6 =>
    ca Γ 11 [v6, v5] fun v7 =>
    pr (.ld none 3) [v3] fun v8 =>
    pr (.bin (.leq) (.no)) [v0, v8] fun v9 =>
    vif v9 (
      pr (.bin (.eql) (.bool)) [v7, (.bool true)] fun v10 =>
      some v10) (
      pr (.ld none 0) [v3] fun v10 =>
      pr (.bin (.eql) (.no)) [v10, v5] fun v11 =>
      vif v11 (
        pr (.bin (.eql) (.bool)) [v7, (.bool true)] fun v12 =>
        some v12) (
        pr (.ld none 1) [v3] fun v12 =>
        pr (.bin (.eql) (.no)) [v12, v5] fun v13 =>
        vif v13 (
          pr (.bin (.eql) (.bool)) [v7, (.bool true)] fun v14 =>
          some v14) (
          pr (.ld none 4) [v3] fun v14 =>
          ca Γ 17 [v14, v5] fun v15 =>
          pr (.bin (.eql) (.bool)) [v7, v15] fun v16 =>
          some v16))))
theorem s.seichelaw16_CondLevels_46 (e : Nat → List V → Option V) (Γ : Gam) (v0 v1 v2 v3 : V) : Go.Abs.step Tryz.prog tabs e cfg Γ 6 46 [v0, v1, v2, v3] = y.seichelaw16_CondLevels_46 Γ v0 v1 v2 v3 := by kernel_rfl
theorem w.seichelaw16_CondLevels_46 (e : Nat → List V → Option V) (v0 v1 v2 v3 : V) : vl e 6 46 [v0, v1, v2, v3] = y.seichelaw16_CondLevels_46 (vl e) v0 v1 v2 v3 := val_of (s.seichelaw16_CondLevels_46 e _ v0 v1 v2 v3)
noncomputable def y.seicheref16_Great (Γ : Gam) (v0 : V) : Option V :=
  pr .scs [v0] fun v1 =>
  pr (.ld none 0) [v1] fun v2 =>
  pr (.len true) [v2] fun v3 =>
  pr (.ld none 1) [v1] fun v4 =>
  pr (.len true) [v4] fun v5 =>
  pr (.bin (.add) (.no)) [v3, v5] fun v6 =>
  pr (.ld none 4) [v1] fun v7 =>
  pr (.len false) [v7] fun v8 =>
  Γ 10 10 [v6, v7, v8, (.int .i64 0), v1]
theorem s.seicheref16_Great (e : Nat → List V → Option V) (Γ : Gam) (v0 : V) : Go.Abs.step Tryz.prog tabs e cfg Γ 10 0 [v0] = y.seicheref16_Great Γ v0 := by kernel_rfl
theorem w.seicheref16_Great (e : Nat → List V → Option V) (v0 : V) : vl e 10 0 [v0] = y.seicheref16_Great (vl e) v0 := val_of (s.seicheref16_Great e _ v0)
noncomputable def y.seicheref16_Great_10 (Γ : Gam) (v0 v1 v2 v3 v4 : V) : Option V :=
  pr (.bin (.lss) (.no)) [v3, v2] fun v5 =>
  vif v5 (
    pr (.elem 1) [v1, v3] fun v6 =>
    pr (.ld none 0) [v6] fun v7 =>
    pr (.len true) [v7] fun v8 =>
    pr (.bin (.add) (.no)) [v0, v8] fun v9 =>
    pr (.bin (.gtr) (.no)) [v9, (.int .i64 512)] fun v10 =>
    vif v10 (
      some (.bool true)) (
      pr (.bin (.add) (.no)) [v3, (.int .i64 1)] fun v11 =>
      Γ 10 10 [v9, v1, v2, v11, v4])) (
    pr (.ld none 4) [v4] fun v6 =>
    pr (.len false) [v6] fun v7 =>
    pr (.bin (.gtr) (.no)) [v7, (.int .i64 20)] fun v8 =>
    vif v8 (
      some (.bool true)) (
      pr (.bin (.gtr) (.no)) [v0, (.int .i64 512)] fun v9 =>
      some v9))
theorem s.seicheref16_Great_10 (e : Nat → List V → Option V) (Γ : Gam) (v0 v1 v2 v3 v4 : V) : Go.Abs.step Tryz.prog tabs e cfg Γ 10 10 [v0, v1, v2, v3, v4] = y.seicheref16_Great_10 Γ v0 v1 v2 v3 v4 := by kernel_rfl
theorem w.seicheref16_Great_10 (e : Nat → List V → Option V) (v0 v1 v2 v3 v4 : V) : vl e 10 10 [v0, v1, v2, v3, v4] = y.seicheref16_Great_10 (vl e) v0 v1 v2 v3 v4 := val_of (s.seicheref16_Great_10 e _ v0 v1 v2 v3 v4)
end Go.Proofs.YtanocopjancaiaaGreatDoor
/-
  What functions of the program come to, over values alone. Printed by programs of this seat (wip/y/tool.lean, asm.py).
-/
namespace Go.Proofs.YtanocopjancaiaaGreatDoor
open Go.Abs

noncomputable def y.seicheref15_Systems (Γ : Gam) : Option V :=
  ca Γ 38 [(.str (97 :: 105 :: 120 :: 32 :: 97 :: 110 :: 100 :: 114 :: 111 :: 105 :: 100 :: 32 :: 100 :: 97 :: 114 :: 119 :: 105 :: 110 :: 32 :: 100 :: 114 :: 97 :: 103 :: 111 :: 110 :: 102 :: 108 :: 121 :: 32 :: 102 :: 114 :: 101 :: 101 :: 98 :: 115 :: 100 :: 32 :: 105 :: 108 :: 108 :: 117 :: 109 :: 111 :: 115 :: 32 :: 105 :: 111 :: 115 :: 32 :: 106 :: 115 :: 32 :: 108 :: 105 :: 110 :: 117 :: 120 :: 32 :: 110 :: 101 :: 116 :: 98 :: 115 :: 100 :: 32 :: 111 :: 112 :: 101 :: 110 :: 98 :: 115 :: 100 :: 32 :: 112 :: 108 :: 97 :: 110 :: 57 :: 32 :: 115 :: 111 :: 108 :: 97 :: 114 :: 105 :: 115 :: 32 :: 119 :: 97 :: 115 :: 105 :: 112 :: 49 :: 32 :: 119 :: 105 :: 110 :: 100 :: 111 :: 119 :: 115 :: []))] fun v0 =>
  some v0
theorem s.seicheref15_Systems (e : Nat → List V → Option V) (Γ : Gam) : Go.Abs.step Tryz.prog tabs e cfg Γ 18 0 [] = y.seicheref15_Systems Γ := by kernel_rfl
theorem w.seicheref15_Systems (e : Nat → List V → Option V) : vl e 18 0 [] = y.seicheref15_Systems (vl e) := val_of (s.seicheref15_Systems e _)
noncomputable def y.slices_Contains_Lstring_string (Γ : Gam) (v0 v1 : V) : Option V :=
  ca Γ 42 [v0, v1] fun v2 =>
  pr (.bin (.geq) (.no)) [v2, (.int .i64 0)] fun v3 =>
  some v3
theorem s.slices_Contains_Lstring_string (e : Nat → List V → Option V) (Γ : Gam) (v0 v1 : V) : Go.Abs.step Tryz.prog tabs e cfg Γ 22 0 [v0, v1] = y.slices_Contains_Lstring_string Γ v0 v1 := by kernel_rfl
theorem w.slices_Contains_Lstring_string (e : Nat → List V → Option V) (v0 v1 : V) : vl e 22 0 [v0, v1] = y.slices_Contains_Lstring_string (vl e) v0 v1 := val_of (s.slices_Contains_Lstring_string e _ v0 v1)
noncomputable def y.expr_Eval (Γ : Gam) (v0 v1 : V) : Option V :=
  pr (.len false) [v0] fun v3 =>
  Γ 26 10 [v1, (.int .i64 0), v0, v3, (.int .i64 0), (.agg [])]
theorem s.expr_Eval (e : Nat → List V → Option V) (Γ : Gam) (v0 v1 : V) : Go.Abs.step Tryz.prog tabs e cfg Γ 26 0 [v0, v1] = y.expr_Eval Γ v0 v1 := by kernel_rfl
theorem w.expr_Eval (e : Nat → List V → Option V) (v0 v1 : V) : vl e 26 0 [v0, v1] = y.expr_Eval (vl e) v0 v1 := val_of (s.expr_Eval e _ v0 v1)
noncomputable def y.expr_Eval_10 (Γ : Gam) (v0 v1 v2 v3 v4 v5 : V) : Option V :=
  pr (.bin (.lss) (.no)) [v4, v3] fun v6 =>
  vif v6 (
    pr (.elem 1) [v2, v4] fun v7 =>
    pr (.ld none 0) [v7] fun v8 =>
    pr (.bin (.eql) (.no)) [v8, (.str [33])] fun v9 =>
    vif v9 (
      pr (.bin (.gtr) (.no)) [v1, (.int .i64 0)] fun v10 =>
      Γ 26 26 [v0, v1, v8, v1, v2, v3, v4, v10, v5]) (
      Γ 26 26 [v0, v1, v8, v1, v2, v3, v4, (.bool false), v5])) (
    pr (.bin (.neq) (.no)) [v1, (.int .i64 1)] fun v7 =>
    vif v7 (
      some (.tup [(.bool false), (.int .i64 4)])) (
      pr .chkd [v1, (.int .i64 0)] fun v8 =>
      pr (.ldd none 0 1) [v5, v8] fun v9 =>
      some (.tup [v9, (.int .i64 0)])))
theorem s.expr_Eval_10 (e : Nat → List V → Option V) (Γ : Gam) (v0 v1 v2 v3 v4 v5 : V) : Go.Abs.step Tryz.prog tabs e cfg Γ 26 10 [v0, v1, v2, v3, v4, v5] = y.expr_Eval_10 Γ v0 v1 v2 v3 v4 v5 := by kernel_rfl
theorem w.expr_Eval_10 (e : Nat → List V → Option V) (v0 v1 v2 v3 v4 v5 : V) : vl e 26 10 [v0, v1, v2, v3, v4, v5] = y.expr_Eval_10 (vl e) v0 v1 v2 v3 v4 v5 := val_of (s.expr_Eval_10 e _ v0 v1 v2 v3 v4 v5)
noncomputable def y.expr_Eval_26 (Γ : Gam) (v0 v1 v2 v3 v4 v5 v6 v7 v8 : V) : Option V :=
  vif v7 (
    pr (.bin (.sub) (.no)) [v3, (.int .i64 1)] fun v9 =>
    pr (.bin (.sub) (.no)) [v3, (.int .i64 1)] fun v10 =>
    pr .chkd [v1, v10] fun v11 =>
    pr (.ldd none 0 1) [v8, v11] fun v12 =>
    pr (.un (.not)) [v12] fun v13 =>
    pr .chkd [v1, v9] fun v14 =>
    pr (.std 1 0 1) [v8, v14, v13] fun v15 =>
    pr (.bin (.add) (.no)) [v6, (.int .i64 1)] fun v16 =>
    Γ 26 10 [v0, v1, v4, v5, v16, v15]) (
    pr (.bin (.eql) (.no)) [v2, (.str [38, 38])] fun v9 =>
    vif v9 (
      pr (.bin (.gtr) (.no)) [v3, (.int .i64 1)] fun v10 =>
      vif v10 (
        pr (.bin (.sub) (.no)) [v3, (.int .i64 2)] fun v11 =>
        pr .chkl [v1, v11] fun v12 =>
        pr (.bin (.sub) (.no)) [v3, (.int .i64 2)] fun v13 =>
        pr .chkd [v1, v13] fun v14 =>
        pr (.ldd none 0 1) [v8, v14] fun v15 =>
        vif v15 (
          pr (.bin (.sub) (.no)) [v3, (.int .i64 1)] fun v16 =>
          pr .chkd [v1, v16] fun v17 =>
          pr (.ldd none 0 1) [v8, v17] fun v18 =>
          pr (.bsl 1) [v18] fun v19 =>
          pr (.rapp 1) [v8, v12, v19] fun v20 =>
          pr (.rlen 1) [v12, v19] fun v21 =>
          pr (.bin (.add) (.no)) [v6, (.int .i64 1)] fun v22 =>
          Γ 26 10 [v0, v21, v4, v5, v22, v20]) (
          pr (.bsl 1) [(.bool false)] fun v16 =>
          pr (.rapp 1) [v8, v12, v16] fun v17 =>
          pr (.rlen 1) [v12, v16] fun v18 =>
          pr (.bin (.add) (.no)) [v6, (.int .i64 1)] fun v19 =>
          Γ 26 10 [v0, v18, v4, v5, v19, v17])) (
        pr (.bin (.eql) (.no)) [v2, (.str [124, 124])] fun v11 =>
        vif v11 (
          pr (.bin (.gtr) (.no)) [v3, (.int .i64 1)] fun v12 =>
          vif v12 (
            pr (.bin (.sub) (.no)) [v3, (.int .i64 2)] fun v13 =>
            pr .chkl [v1, v13] fun v14 =>
            pr (.bin (.sub) (.no)) [v3, (.int .i64 2)] fun v15 =>
            pr .chkd [v1, v15] fun v16 =>
            pr (.ldd none 0 1) [v8, v16] fun v17 =>
            vif v17 (
              pr (.bsl 1) [(.bool true)] fun v18 =>
              pr (.rapp 1) [v8, v14, v18] fun v19 =>
              pr (.rlen 1) [v14, v18] fun v20 =>
              pr (.bin (.add) (.no)) [v6, (.int .i64 1)] fun v21 =>
              Γ 26 10 [v0, v20, v4, v5, v21, v19]) (
              pr (.bin (.sub) (.no)) [v3, (.int .i64 1)] fun v18 =>
              pr .chkd [v1, v18] fun v19 =>
              pr (.ldd none 0 1) [v8, v19] fun v20 =>
              pr (.bsl 1) [v20] fun v21 =>
              pr (.rapp 1) [v8, v14, v21] fun v22 =>
              pr (.rlen 1) [v14, v21] fun v23 =>
              pr (.bin (.add) (.no)) [v6, (.int .i64 1)] fun v24 =>
              Γ 26 10 [v0, v23, v4, v5, v24, v22])) (
            ca Γ 49 [v2] fun v13 =>
            vif v13 (
              ca Γ 22 [v0, v2] fun v14 =>
              pr (.bsl 1) [v14] fun v15 =>
              pr (.rapp 1) [v8, v1, v15] fun v16 =>
              pr (.rlen 1) [v1, v15] fun v17 =>
              pr (.bin (.add) (.no)) [v6, (.int .i64 1)] fun v18 =>
              Γ 26 10 [v0, v17, v4, v5, v18, v16]) (
              some (.tup [(.bool false), (.int .i64 4)])))) (
          ca Γ 49 [v2] fun v12 =>
          vif v12 (
            ca Γ 22 [v0, v2] fun v13 =>
            pr (.bsl 1) [v13] fun v14 =>
            pr (.rapp 1) [v8, v1, v14] fun v15 =>
            pr (.rlen 1) [v1, v14] fun v16 =>
            pr (.bin (.add) (.no)) [v6, (.int .i64 1)] fun v17 =>
            Γ 26 10 [v0, v16, v4, v5, v17, v15]) (
            some (.tup [(.bool false), (.int .i64 4)]))))) (
      pr (.bin (.eql) (.no)) [v2, (.str [124, 124])] fun v10 =>
      vif v10 (
        pr (.bin (.gtr) (.no)) [v3, (.int .i64 1)] fun v11 =>
        vif v11 (
          pr (.bin (.sub) (.no)) [v3, (.int .i64 2)] fun v12 =>
          pr .chkl [v1, v12] fun v13 =>
          pr (.bin (.sub) (.no)) [v3, (.int .i64 2)] fun v14 =>
          pr .chkd [v1, v14] fun v15 =>
          pr (.ldd none 0 1) [v8, v15] fun v16 =>
          vif v16 (
            pr (.bsl 1) [(.bool true)] fun v17 =>
            pr (.rapp 1) [v8, v13, v17] fun v18 =>
            pr (.rlen 1) [v13, v17] fun v19 =>
            pr (.bin (.add) (.no)) [v6, (.int .i64 1)] fun v20 =>
            Γ 26 10 [v0, v19, v4, v5, v20, v18]) (
            pr (.bin (.sub) (.no)) [v3, (.int .i64 1)] fun v17 =>
            pr .chkd [v1, v17] fun v18 =>
            pr (.ldd none 0 1) [v8, v18] fun v19 =>
            pr (.bsl 1) [v19] fun v20 =>
            pr (.rapp 1) [v8, v13, v20] fun v21 =>
            pr (.rlen 1) [v13, v20] fun v22 =>
            pr (.bin (.add) (.no)) [v6, (.int .i64 1)] fun v23 =>
            Γ 26 10 [v0, v22, v4, v5, v23, v21])) (
          ca Γ 49 [v2] fun v12 =>
          vif v12 (
            ca Γ 22 [v0, v2] fun v13 =>
            pr (.bsl 1) [v13] fun v14 =>
            pr (.rapp 1) [v8, v1, v14] fun v15 =>
            pr (.rlen 1) [v1, v14] fun v16 =>
            pr (.bin (.add) (.no)) [v6, (.int .i64 1)] fun v17 =>
            Γ 26 10 [v0, v16, v4, v5, v17, v15]) (
            some (.tup [(.bool false), (.int .i64 4)])))) (
        ca Γ 49 [v2] fun v11 =>
        vif v11 (
          ca Γ 22 [v0, v2] fun v12 =>
          pr (.bsl 1) [v12] fun v13 =>
          pr (.rapp 1) [v8, v1, v13] fun v14 =>
          pr (.rlen 1) [v1, v13] fun v15 =>
          pr (.bin (.add) (.no)) [v6, (.int .i64 1)] fun v16 =>
          Γ 26 10 [v0, v15, v4, v5, v16, v14]) (
          some (.tup [(.bool false), (.int .i64 4)])))))
theorem s.expr_Eval_26 (e : Nat → List V → Option V) (Γ : Gam) (v0 v1 v2 v3 v4 v5 v6 v7 v8 : V) : Go.Abs.step Tryz.prog tabs e cfg Γ 26 26 [v0, v1, v2, v3, v4, v5, v6, v7, v8] = y.expr_Eval_26 Γ v0 v1 v2 v3 v4 v5 v6 v7 v8 := by kernel_rfl
theorem w.expr_Eval_26 (e : Nat → List V → Option V) (v0 v1 v2 v3 v4 v5 v6 v7 v8 : V) : vl e 26 26 [v0, v1, v2, v3, v4, v5, v6, v7, v8] = y.expr_Eval_26 (vl e) v0 v1 v2 v3 v4 v5 v6 v7 v8 := val_of (s.expr_Eval_26 e _ v0 v1 v2 v3 v4 v5 v6 v7 v8)
noncomputable def y.cond_In_1 (Γ : Gam) (v0 : V) : Option V :=
  pr .scs [v0] fun v1 =>
  pr (.ld none 1) [v1] fun v2 =>
  pr (.bin (.eql) (.no)) [v2, (.str [67])] fun v3 =>
  some v3
theorem s.cond_In_1 (e : Nat → List V → Option V) (Γ : Gam) (v0 : V) : Go.Abs.step Tryz.prog tabs e cfg Γ 34 0 [v0] = y.cond_In_1 Γ v0 := by kernel_rfl
theorem w.cond_In_1 (e : Nat → List V → Option V) (v0 : V) : vl e 34 0 [v0] = y.cond_In_1 (vl e) v0 := val_of (s.cond_In_1 e _ v0)
noncomputable def y.seicheref14_Words (Γ : Gam) (v0 : V) : Option V :=
  ca Γ 52 [v0, (.int .u8 32)] fun v1 =>
  pr (.len false) [v1] fun v2 =>
  Γ 38 10 [(.sl false 1 []), v1, v2, (.int .i64 0)]
theorem s.seicheref14_Words (e : Nat → List V → Option V) (Γ : Gam) (v0 : V) : Go.Abs.step Tryz.prog tabs e cfg Γ 38 0 [v0] = y.seicheref14_Words Γ v0 := by kernel_rfl
theorem w.seicheref14_Words (e : Nat → List V → Option V) (v0 : V) : vl e 38 0 [v0] = y.seicheref14_Words (vl e) v0 := val_of (s.seicheref14_Words e _ v0)
noncomputable def y.seicheref14_Words_10 (Γ : Gam) (v0 v1 v2 v3 : V) : Option V :=
  pr (.bin (.lss) (.no)) [v3, v2] fun v4 =>
  vif v4 (
    pr (.elem 1) [v1, v3] fun v5 =>
    pr (.ld none 0) [v5] fun v6 =>
    ca Γ 52 [v6, (.int .u8 9)] fun v7 =>
    pr (.len false) [v7] fun v8 =>
    Γ 38 24 [v0, v1, v2, v3, v7, v8, (.int .i64 0)]) (
    some v0)
theorem s.seicheref14_Words_10 (e : Nat → List V → Option V) (Γ : Gam) (v0 v1 v2 v3 : V) : Go.Abs.step Tryz.prog tabs e cfg Γ 38 10 [v0, v1, v2, v3] = y.seicheref14_Words_10 Γ v0 v1 v2 v3 := by kernel_rfl
theorem w.seicheref14_Words_10 (e : Nat → List V → Option V) (v0 v1 v2 v3 : V) : vl e 38 10 [v0, v1, v2, v3] = y.seicheref14_Words_10 (vl e) v0 v1 v2 v3 := val_of (s.seicheref14_Words_10 e _ v0 v1 v2 v3)
noncomputable def y.seicheref14_Words_24 (Γ : Gam) (v0 v1 v2 v3 v4 v5 v6 : V) : Option V :=
  pr (.bin (.lss) (.no)) [v6, v5] fun v7 =>
  vif v7 (
    pr (.elem 1) [v4, v6] fun v8 =>
    pr (.ld none 0) [v8] fun v9 =>
    pr (.bin (.neq) (.no)) [v9, (.str [])] fun v10 =>
    vif v10 (
      pr (.bsl 1) [v9] fun v11 =>
      pr (.app 1) [v0, v11] fun v12 =>
      pr (.bin (.add) (.no)) [v6, (.int .i64 1)] fun v13 =>
      Γ 38 24 [v12, v1, v2, v3, v4, v5, v13]) (
      pr (.bin (.add) (.no)) [v6, (.int .i64 1)] fun v11 =>
      Γ 38 24 [v0, v1, v2, v3, v4, v5, v11])) (
    pr (.bin (.add) (.no)) [v3, (.int .i64 1)] fun v8 =>
    Γ 38 10 [v0, v1, v2, v8])
theorem s.seicheref14_Words_24 (e : Nat → List V → Option V) (Γ : Gam) (v0 v1 v2 v3 v4 v5 v6 : V) : Go.Abs.step Tryz.prog tabs e cfg Γ 38 24 [v0, v1, v2, v3, v4, v5, v6] = y.seicheref14_Words_24 Γ v0 v1 v2 v3 v4 v5 v6 := by kernel_rfl
theorem w.seicheref14_Words_24 (e : Nat → List V → Option V) (v0 v1 v2 v3 v4 v5 v6 : V) : vl e 38 24 [v0, v1, v2, v3, v4, v5, v6] = y.seicheref14_Words_24 (vl e) v0 v1 v2 v3 v4 v5 v6 := val_of (s.seicheref14_Words_24 e _ v0 v1 v2 v3 v4 v5 v6)
noncomputable def y.slices_Index_Lstring_string (Γ : Gam) (v0 v1 : V) : Option V :=
  pr (.len false) [v0] fun v2 =>
  Γ 42 8 [v0, v1, v2, (.int .i64 0)]
theorem s.slices_Index_Lstring_string (e : Nat → List V → Option V) (Γ : Gam) (v0 v1 : V) : Go.Abs.step Tryz.prog tabs e cfg Γ 42 0 [v0, v1] = y.slices_Index_Lstring_string Γ v0 v1 := by kernel_rfl
theorem w.slices_Index_Lstring_string (e : Nat → List V → Option V) (v0 v1 : V) : vl e 42 0 [v0, v1] = y.slices_Index_Lstring_string (vl e) v0 v1 := val_of (s.slices_Index_Lstring_string e _ v0 v1)
noncomputable def y.slices_Index_Lstring_string_8 (Γ : Gam) (v0 v1 v2 v3 : V) : Option V :=
  pr (.bin (.lss) (.no)) [v3, v2] fun v4 =>
  vif v4 (
    pr (.elem 1) [v0, v3] fun v5 =>
    pr (.ld none 0) [v5] fun v6 =>
    pr (.bin (.eql) (.no)) [v1, v6] fun v7 =>
    vif v7 (
      some v3) (
      pr (.bin (.add) (.no)) [v3, (.int .i64 1)] fun v8 =>
      Γ 42 8 [v0, v1, v2, v8])) (
    some (.int .i64 (-1)))
theorem s.slices_Index_Lstring_string_8 (e : Nat → List V → Option V) (Γ : Gam) (v0 v1 v2 v3 : V) : Go.Abs.step Tryz.prog tabs e cfg Γ 42 8 [v0, v1, v2, v3] = y.slices_Index_Lstring_string_8 Γ v0 v1 v2 v3 := by kernel_rfl
theorem w.slices_Index_Lstring_string_8 (e : Nat → List V → Option V) (v0 v1 v2 v3 : V) : vl e 42 8 [v0, v1, v2, v3] = y.slices_Index_Lstring_string_8 (vl e) v0 v1 v2 v3 := val_of (s.slices_Index_Lstring_string_8 e _ v0 v1 v2 v3)
noncomputable def y.slices_IndexFunc_Lseiche_api_Import_seiche_api_Import (Γ : Gam) (v0 v1 : V) : Option V :=
  pr (.len false) [v0] fun v2 =>
  Γ 58 8 [v0, v1, v2, (.int .i64 0)]
theorem s.slices_IndexFunc_Lseiche_api_Import_seiche_api_Import (e : Nat → List V → Option V) (Γ : Gam) (v0 v1 : V) : Go.Abs.step Tryz.prog tabs e cfg Γ 58 0 [v0, v1] = y.slices_IndexFunc_Lseiche_api_Import_seiche_api_Import Γ v0 v1 := by kernel_rfl
theorem w.slices_IndexFunc_Lseiche_api_Import_seiche_api_Import (e : Nat → List V → Option V) (v0 v1 : V) : vl e 58 0 [v0, v1] = y.slices_IndexFunc_Lseiche_api_Import_seiche_api_Import (vl e) v0 v1 := val_of (s.slices_IndexFunc_Lseiche_api_Import_seiche_api_Import e _ v0 v1)
noncomputable def y.slices_IndexFunc_Lseiche_api_Import_seiche_api_Import_8 (Γ : Gam) (v0 v1 v2 v3 : V) : Option V :=
  pr (.bin (.lss) (.no)) [v3, v2] fun v4 =>
  vif v4 (
    pr (.elem 3) [v0, v3] fun v5 =>
    pr (.ld (some 3) 0) [v5] fun v6 =>
    cv Γ v1 [v6] fun v7 =>
    vif v7 (
      some v3) (
      pr (.bin (.add) (.no)) [v3, (.int .i64 1)] fun v8 =>
      Γ 58 8 [v0, v1, v2, v8])) (
    some (.int .i64 (-1)))
theorem s.slices_IndexFunc_Lseiche_api_Import_seiche_api_Import_8 (e : Nat → List V → Option V) (Γ : Gam) (v0 v1 v2 v3 : V) : Go.Abs.step Tryz.prog tabs e cfg Γ 58 8 [v0, v1, v2, v3] = y.slices_IndexFunc_Lseiche_api_Import_seiche_api_Import_8 Γ v0 v1 v2 v3 := by kernel_rfl
theorem w.slices_IndexFunc_Lseiche_api_Import_seiche_api_Import_8 (e : Nat → List V → Option V) (v0 v1 v2 v3 : V) : vl e 58 8 [v0, v1, v2, v3] = y.slices_IndexFunc_Lseiche_api_Import_seiche_api_Import_8 (vl e) v0 v1 v2 v3 := val_of (s.slices_IndexFunc_Lseiche_api_Import_seiche_api_Import_8 e _ v0 v1 v2 v3)
noncomputable def y.plus_joined (Γ : Gam) (v0 v1 v2 : V) : Option V :=
  pr (.len false) [v0] fun v3 =>
  Γ 70 10 [v1, v2, (.sl false 1 []), v0, v3, (.int .i64 0)]
theorem s.plus_joined (e : Nat → List V → Option V) (Γ : Gam) (v0 v1 v2 : V) : Go.Abs.step Tryz.prog tabs e cfg Γ 70 0 [v0, v1, v2] = y.plus_joined Γ v0 v1 v2 := by kernel_rfl
theorem w.plus_joined (e : Nat → List V → Option V) (v0 v1 v2 : V) : vl e 70 0 [v0, v1, v2] = y.plus_joined (vl e) v0 v1 v2 := val_of (s.plus_joined e _ v0 v1 v2)
noncomputable def y.plus_joined_10 (Γ : Gam) (v0 v1 v2 v3 v4 v5 : V) : Option V :=
  pr (.bin (.lss) (.no)) [v5, v4] fun v6 =>
  vif v6 (
    pr (.elem 1) [v3, v5] fun v7 =>
    pr (.ld none 0) [v7] fun v8 =>
    cv Γ v1 [v8] fun v9 =>
    pr (.ext 0) [v9] fun v10 =>
    pr (.ext 1) [v9] fun v11 =>
    pr (.bin (.neq) (.no)) [v11, (.int .i64 0)] fun v12 =>
    vif v12 (
      some (.tup [(.str []), v11])) (
      pr (.bsl 1) [v10] fun v13 =>
      pr (.app 1) [v2, v13] fun v14 =>
      pr (.bin (.add) (.no)) [v5, (.int .i64 1)] fun v15 =>
      Γ 70 10 [v0, v1, v14, v3, v4, v15])) (
    pr (.len false) [v2] fun v7 =>
    pr (.bin (.eql) (.no)) [v7, (.int .i64 1)] fun v8 =>
    vif v8 (
      pr (.elem 1) [v2, (.int .i64 0)] fun v9 =>
      pr (.ld none 0) [v9] fun v10 =>
      some (.tup [v10, (.int .i64 0)])) (
      ca Γ 93 [v2, v0] fun v9 =>
      pr (.bin (.add) (.no)) [(.str [40]), v9] fun v10 =>
      pr (.bin (.add) (.no)) [v10, (.str [41])] fun v11 =>
      some (.tup [v11, (.int .i64 0)])))
theorem s.plus_joined_10 (e : Nat → List V → Option V) (Γ : Gam) (v0 v1 v2 v3 v4 v5 : V) : Go.Abs.step Tryz.prog tabs e cfg Γ 70 10 [v0, v1, v2, v3, v4, v5] = y.plus_joined_10 Γ v0 v1 v2 v3 v4 v5 := by kernel_rfl
theorem w.plus_joined_10 (e : Nat → List V → Option V) (v0 v1 v2 v3 v4 v5 : V) : vl e 70 10 [v0, v1, v2, v3, v4, v5] = y.plus_joined_10 (vl e) v0 v1 v2 v3 v4 v5 := val_of (s.plus_joined_10 e _ v0 v1 v2 v3 v4 v5)
noncomputable def y.expr_tag (Γ : Gam) (v0 : V) : Option V :=
  pr (.bin (.leq) (.no)) [(.int .u8 97), v0] fun v1 =>
  vif v1 (
    pr (.bin (.leq) (.no)) [v0, (.int .u8 122)] fun v2 =>
    vif v2 (
      some (.bool true)) (
      pr (.bin (.leq) (.no)) [(.int .u8 65), v0] fun v3 =>
      vif v3 (
        pr (.bin (.leq) (.no)) [v0, (.int .u8 90)] fun v4 =>
        vif v4 (
          some (.bool true)) (
          pr (.bin (.leq) (.no)) [(.int .u8 48), v0] fun v5 =>
          vif v5 (
            pr (.bin (.leq) (.no)) [v0, (.int .u8 57)] fun v6 =>
            vif v6 (
              some (.bool true)) (
              pr (.bin (.eql) (.no)) [v0, (.int .u8 95)] fun v7 =>
              vif v7 (
                some (.bool true)) (
                pr (.bin (.eql) (.no)) [v0, (.int .u8 46)] fun v8 =>
                some v8))) (
            pr (.bin (.eql) (.no)) [v0, (.int .u8 95)] fun v6 =>
            vif v6 (
              some (.bool true)) (
              pr (.bin (.eql) (.no)) [v0, (.int .u8 46)] fun v7 =>
              some v7)))) (
        pr (.bin (.leq) (.no)) [(.int .u8 48), v0] fun v4 =>
        vif v4 (
          pr (.bin (.leq) (.no)) [v0, (.int .u8 57)] fun v5 =>
          vif v5 (
            some (.bool true)) (
            pr (.bin (.eql) (.no)) [v0, (.int .u8 95)] fun v6 =>
            vif v6 (
              some (.bool true)) (
              pr (.bin (.eql) (.no)) [v0, (.int .u8 46)] fun v7 =>
              some v7))) (
          pr (.bin (.eql) (.no)) [v0, (.int .u8 95)] fun v5 =>
          vif v5 (
            some (.bool true)) (
            pr (.bin (.eql) (.no)) [v0, (.int .u8 46)] fun v6 =>
            some v6))))) (
    pr (.bin (.leq) (.no)) [(.int .u8 65), v0] fun v2 =>
    vif v2 (
      pr (.bin (.leq) (.no)) [v0, (.int .u8 90)] fun v3 =>
      vif v3 (
        some (.bool true)) (
        pr (.bin (.leq) (.no)) [(.int .u8 48), v0] fun v4 =>
        vif v4 (
          pr (.bin (.leq) (.no)) [v0, (.int .u8 57)] fun v5 =>
          vif v5 (
            some (.bool true)) (
            pr (.bin (.eql) (.no)) [v0, (.int .u8 95)] fun v6 =>
            vif v6 (
              some (.bool true)) (
              pr (.bin (.eql) (.no)) [v0, (.int .u8 46)] fun v7 =>
              some v7))) (
          pr (.bin (.eql) (.no)) [v0, (.int .u8 95)] fun v5 =>
          vif v5 (
            some (.bool true)) (
            pr (.bin (.eql) (.no)) [v0, (.int .u8 46)] fun v6 =>
            some v6)))) (
      pr (.bin (.leq) (.no)) [(.int .u8 48), v0] fun v3 =>
      vif v3 (
        pr (.bin (.leq) (.no)) [v0, (.int .u8 57)] fun v4 =>
        vif v4 (
          some (.bool true)) (
          pr (.bin (.eql) (.no)) [v0, (.int .u8 95)] fun v5 =>
          vif v5 (
            some (.bool true)) (
            pr (.bin (.eql) (.no)) [v0, (.int .u8 46)] fun v6 =>
            some v6))) (
        pr (.bin (.eql) (.no)) [v0, (.int .u8 95)] fun v4 =>
        vif v4 (
          some (.bool true)) (
          pr (.bin (.eql) (.no)) [v0, (.int .u8 46)] fun v5 =>
          some v5))))
theorem s.expr_tag (e : Nat → List V → Option V) (Γ : Gam) (v0 : V) : Go.Abs.step Tryz.prog tabs e cfg Γ 74 0 [v0] = y.expr_tag Γ v0 := by kernel_rfl
theorem w.expr_tag (e : Nat → List V → Option V) (v0 : V) : vl e 74 0 [v0] = y.expr_tag (vl e) v0 := val_of (s.expr_tag e _ v0)
noncomputable def y.cond_On (Γ : Gam) (v0 v1 : V) : Option V :=
  pr .scs [v0] fun v2 =>
  ca Γ 20 [v1] fun v3 =>
  pr (.ext 0) [v3] fun v4 =>
  pr (.ext 1) [v3] fun v5 =>
  vif v5 (
    pr (.ld none 3) [v2] fun v6 =>
    pr (.bin (.leq) (.no)) [v4, v6] fun v7 =>
    Γ 11 9 [v1, v7, v2]) (
    Γ 11 9 [v1, (.bool false), v2])
theorem s.cond_On (e : Nat → List V → Option V) (Γ : Gam) (v0 v1 : V) : Go.Abs.step Tryz.prog tabs e cfg Γ 11 0 [v0, v1] = y.cond_On Γ v0 v1 := by kernel_rfl
theorem w.cond_On (e : Nat → List V → Option V) (v0 v1 : V) : vl e 11 0 [v0, v1] = y.cond_On (vl e) v0 v1 := val_of (s.cond_On e _ v0 v1)
noncomputable def y.cond_On_9 (Γ : Gam) (v0 v1 v2 : V) : Option V :=
  vif v1 (
    some (.bool true)) (
    pr (.bin (.eql) (.no)) [v0, (.str [])] fun v3 =>
    vif v3 (
      some (.bool false)) (
      pr (.ld none 0) [v2] fun v4 =>
      pr (.bin (.eql) (.no)) [v0, v4] fun v5 =>
      vif v5 (
        Γ 11 34 [v0, v0, (.bool true), v2]) (
        pr (.ld none 1) [v2] fun v6 =>
        pr (.bin (.eql) (.no)) [v0, v6] fun v7 =>
        vif v7 (
          Γ 11 34 [v0, v0, (.bool true), v2]) (
          pr (.bin (.eql) (.no)) [v0, (.str [103, 99])] fun v8 =>
          Γ 11 34 [v0, v0, v8, v2]))))
theorem s.cond_On_9 (e : Nat → List V → Option V) (Γ : Gam) (v0 v1 v2 : V) : Go.Abs.step Tryz.prog tabs e cfg Γ 11 9 [v0, v1, v2] = y.cond_On_9 Γ v0 v1 v2 := by kernel_rfl
theorem w.cond_On_9 (e : Nat → List V → Option V) (v0 v1 v2 : V) : vl e 11 9 [v0, v1, v2] = y.cond_On_9 (vl e) v0 v1 v2 := val_of (s.cond_On_9 e _ v0 v1 v2)
noncomputable def y.cond_On_34 (Γ : Gam) (v0 v1 v2 v3 : V) : Option V :=
  vif v2 (
    some (.bool true)) (
    pr (.bin (.eql) (.no)) [v1, (.str [117, 110, 105, 120])] fun v4 =>
    vif v4 (
      pr (.ld none 0) [v3] fun v5 =>
      ca Γ 21 [v5] fun v6 =>
      some v6) (
      pr (.bin (.eql) (.no)) [v1, (.str [99, 103, 111])] fun v5 =>
      vif v5 (
        pr (.ld none 2) [v3] fun v6 =>
        some v6) (
        pr (.bin (.eql) (.no)) [v1, (.str [108, 105, 110, 117, 120])] fun v6 =>
        vif v6 (
          pr (.ld none 0) [v3] fun v7 =>
          pr (.bin (.eql) (.no)) [v7, (.str [97, 110, 100, 114, 111, 105, 100])] fun v8 =>
          vif v8 (
            some (.bool true)) (
            pr (.ld none 4) [v3] fun v9 =>
            ca Γ 22 [v9, v0] fun v10 =>
            some v10)) (
          pr (.bin (.eql) (.no)) [v1, (.str [115, 111, 108, 97, 114, 105, 115])] fun v7 =>
          vif v7 (
            pr (.ld none 0) [v3] fun v8 =>
            pr (.bin (.eql) (.no)) [v8, (.str [105, 108, 108, 117, 109, 111, 115])] fun v9 =>
            vif v9 (
              some (.bool true)) (
              pr (.ld none 4) [v3] fun v10 =>
              ca Γ 22 [v10, v0] fun v11 =>
              some v11)) (
            pr (.bin (.eql) (.no)) [v1, (.str [100, 97, 114, 119, 105, 110])] fun v8 =>
            vif v8 (
              pr (.ld none 0) [v3] fun v9 =>
              pr (.bin (.eql) (.no)) [v9, (.str [105, 111, 115])] fun v10 =>
              vif v10 (
                some (.bool true)) (
                pr (.ld none 4) [v3] fun v11 =>
                ca Γ 22 [v11, v0] fun v12 =>
                some v12)) (
              pr (.ld none 4) [v3] fun v9 =>
              ca Γ 22 [v9, v0] fun v10 =>
              some v10))))))
theorem s.cond_On_34 (e : Nat → List V → Option V) (Γ : Gam) (v0 v1 v2 v3 : V) : Go.Abs.step Tryz.prog tabs e cfg Γ 11 34 [v0, v1, v2, v3] = y.cond_On_34 Γ v0 v1 v2 v3 := by kernel_rfl
theorem w.cond_On_34 (e : Nat → List V → Option V) (v0 v1 v2 v3 : V) : vl e 11 34 [v0, v1, v2, v3] = y.cond_On_34 (vl e) v0 v1 v2 v3 := val_of (s.cond_On_34 e _ v0 v1 v2 v3)
noncomputable def y.cond_In (Γ : Gam) (v0 v1 v2 : V) : Option V :=
  pr .scs [v0] fun v3 =>
  pr .scs [v2] fun v4 =>
  ca Γ 32 [v1] fun v5 =>
  pr (.cat [some 4]) [v5] fun v6 =>
  pr (.ld none 0) [v6] fun v7 =>
  pr (.un (.not)) [v7] fun v8 =>
  vif v8 (
    Γ 15 9 [(.bool true), v3, v4, v6]) (
    pr (.ld none 2) [v6] fun v9 =>
    pr (.bin (.neq) (.no)) [v9, (.str [])] fun v10 =>
    vif v10 (
      pr (.ld (some 5) 0) [v3] fun v11 =>
      pr (.ld none 2) [v6] fun v12 =>
      ca Γ 11 [v11, v12] fun v13 =>
      pr (.un (.not)) [v13] fun v14 =>
      vif v14 (
        Γ 15 9 [(.bool true), v3, v4, v6]) (
        pr (.ld none 3) [v6] fun v15 =>
        pr (.bin (.neq) (.no)) [v15, (.str [])] fun v16 =>
        vif v16 (
          pr (.ld (some 5) 0) [v3] fun v17 =>
          pr (.ld none 3) [v6] fun v18 =>
          ca Γ 11 [v17, v18] fun v19 =>
          pr (.un (.not)) [v19] fun v20 =>
          Γ 15 9 [v20, v3, v4, v6]) (
          Γ 15 9 [(.bool false), v3, v4, v6]))) (
      pr (.ld none 3) [v6] fun v11 =>
      pr (.bin (.neq) (.no)) [v11, (.str [])] fun v12 =>
      vif v12 (
        pr (.ld (some 5) 0) [v3] fun v13 =>
        pr (.ld none 3) [v6] fun v14 =>
        ca Γ 11 [v13, v14] fun v15 =>
        pr (.un (.not)) [v15] fun v16 =>
        Γ 15 9 [v16, v3, v4, v6]) (
        Γ 15 9 [(.bool false), v3, v4, v6])))
theorem s.cond_In (e : Nat → List V → Option V) (Γ : Gam) (v0 v1 v2 : V) : Go.Abs.step Tryz.prog tabs e cfg Γ 15 0 [v0, v1, v2] = y.cond_In Γ v0 v1 v2 := by kernel_rfl
theorem w.cond_In (e : Nat → List V → Option V) (v0 v1 v2 : V) : vl e 15 0 [v0, v1, v2] = y.cond_In (vl e) v0 v1 v2 := val_of (s.cond_In e _ v0 v1 v2)
noncomputable def y.cond_In_9 (Γ : Gam) (v0 v1 v2 v3 : V) : Option V :=
  vif v0 (
    some (.tup [(.int .i64 0), (.int .i64 0)])) (
    pr (.ld none 1) [v3] fun v4 =>
    vif v4 (
      pr (.ld none 4) [v2] fun v5 =>
      pr (.bin (.neq) (.no)) [v5, (.int .i64 0)] fun v6 =>
      vif v6 (
        pr (.ld none 4) [v2] fun v7 =>
        some (.tup [(.int .i64 2), v7])) (
        pr (.ld (some 5) 0) [v1] fun v7 =>
        pr (.ld none 2) [v2] fun v8 =>
        ca Γ 13 [v7, v8] fun v9 =>
        pr (.ext 0) [v9] fun v10 =>
        pr (.ext 1) [v9] fun v11 =>
        pr (.bin (.neq) (.no)) [v11, (.int .i64 0)] fun v12 =>
        vif v12 (
          some (.tup [(.int .i64 2), (.int .i64 4)])) (
          pr (.un (.not)) [v10] fun v13 =>
          vif v13 (
            some (.tup [(.int .i64 0), (.int .i64 0)])) (
            pr (.ld none 2) [v1] fun v14 =>
            pr (.un (.not)) [v14] fun v15 =>
            vif v15 (
              pr (.ld none 1) [v2] fun v16 =>
              ca Γ 33 [v16, (.fn 34 [])] fun v17 =>
              vif v17 (
                some (.tup [(.int .i64 0), (.int .i64 0)])) (
                pr (.ld none 1) [v3] fun v18 =>
                vif v18 (
                  pr (.ld none 0) [v2] fun v19 =>
                  ca Γ 35 [v19, (.str [95, 116, 101, 115, 116])] fun v20 =>
                  vif v20 (
                    some (.tup [(.int .i64 3), (.int .i64 0)])) (
                    some (.tup [(.int .i64 2), (.int .i64 0)]))) (
                  some (.tup [(.int .i64 2), (.int .i64 0)])))) (
              pr (.ld none 1) [v3] fun v16 =>
              vif v16 (
                pr (.ld none 0) [v2] fun v17 =>
                ca Γ 35 [v17, (.str [95, 116, 101, 115, 116])] fun v18 =>
                vif v18 (
                  some (.tup [(.int .i64 3), (.int .i64 0)])) (
                  some (.tup [(.int .i64 2), (.int .i64 0)]))) (
                some (.tup [(.int .i64 2), (.int .i64 0)]))))))) (
      pr (.ld none 4) [v2] fun v5 =>
      pr (.bin (.neq) (.no)) [v5, (.int .i64 0)] fun v6 =>
      vif v6 (
        pr (.ld none 4) [v2] fun v7 =>
        some (.tup [(.int .i64 1), v7])) (
        pr (.ld (some 5) 0) [v1] fun v7 =>
        pr (.ld none 2) [v2] fun v8 =>
        ca Γ 13 [v7, v8] fun v9 =>
        pr (.ext 0) [v9] fun v10 =>
        pr (.ext 1) [v9] fun v11 =>
        pr (.bin (.neq) (.no)) [v11, (.int .i64 0)] fun v12 =>
        vif v12 (
          some (.tup [(.int .i64 1), (.int .i64 4)])) (
          pr (.un (.not)) [v10] fun v13 =>
          vif v13 (
            some (.tup [(.int .i64 0), (.int .i64 0)])) (
            pr (.ld none 2) [v1] fun v14 =>
            pr (.un (.not)) [v14] fun v15 =>
            vif v15 (
              pr (.ld none 1) [v2] fun v16 =>
              ca Γ 33 [v16, (.fn 34 [])] fun v17 =>
              vif v17 (
                some (.tup [(.int .i64 0), (.int .i64 0)])) (
                pr (.ld none 1) [v3] fun v18 =>
                vif v18 (
                  pr (.ld none 0) [v2] fun v19 =>
                  ca Γ 35 [v19, (.str [95, 116, 101, 115, 116])] fun v20 =>
                  vif v20 (
                    some (.tup [(.int .i64 3), (.int .i64 0)])) (
                    some (.tup [(.int .i64 1), (.int .i64 0)]))) (
                  some (.tup [(.int .i64 1), (.int .i64 0)])))) (
              pr (.ld none 1) [v3] fun v16 =>
              vif v16 (
                pr (.ld none 0) [v2] fun v17 =>
                ca Γ 35 [v17, (.str [95, 116, 101, 115, 116])] fun v18 =>
                vif v18 (
                  some (.tup [(.int .i64 3), (.int .i64 0)])) (
                  some (.tup [(.int .i64 1), (.int .i64 0)]))) (
                some (.tup [(.int .i64 1), (.int .i64 0)]))))))))
theorem s.cond_In_9 (e : Nat → List V → Option V) (Γ : Gam) (v0 v1 v2 v3 : V) : Go.Abs.step Tryz.prog tabs e cfg Γ 15 9 [v0, v1, v2, v3] = y.cond_In_9 Γ v0 v1 v2 v3 := by kernel_rfl
theorem w.cond_In_9 (e : Nat → List V → Option V) (v0 v1 v2 v3 : V) : vl e 15 9 [v0, v1, v2, v3] = y.cond_In_9 (vl e) v0 v1 v2 v3 := val_of (s.cond_In_9 e _ v0 v1 v2 v3)
noncomputable def y.seicheref15_Processors (Γ : Gam) : Option V :=
  ca Γ 38 [(.str (51 :: 56 :: 54 :: 32 :: 97 :: 109 :: 100 :: 54 :: 52 :: 32 :: 97 :: 114 :: 109 :: 32 :: 97 :: 114 :: 109 :: 54 :: 52 :: 32 :: 108 :: 111 :: 111 :: 110 :: 103 :: 54 :: 52 :: 32 :: 109 :: 105 :: 112 :: 115 :: 32 :: 109 :: 105 :: 112 :: 115 :: 54 :: 52 :: 32 :: 109 :: 105 :: 112 :: 115 :: 54 :: 52 :: 108 :: 101 :: 32 :: 109 :: 105 :: 112 :: 115 :: 108 :: 101 :: 32 :: 112 :: 112 :: 99 :: 54 :: 52 :: 32 :: 112 :: 112 :: 99 :: 54 :: 52 :: 108 :: 101 :: 32 :: 114 :: 105 :: 115 :: 99 :: 118 :: 54 :: 52 :: 32 :: 115 :: 51 :: 57 :: 48 :: 120 :: 32 :: 119 :: 97 :: 115 :: 109 :: []))] fun v0 =>
  some v0
theorem s.seicheref15_Processors (e : Nat → List V → Option V) (Γ : Gam) : Go.Abs.step Tryz.prog tabs e cfg Γ 19 0 [] = y.seicheref15_Processors Γ := by kernel_rfl
theorem w.seicheref15_Processors (e : Nat → List V → Option V) : vl e 19 0 [] = y.seicheref15_Processors (vl e) := val_of (s.seicheref15_Processors e _)
noncomputable def y.strings_HasSuffix (Γ : Gam) (v0 v1 : V) : Option V :=
  ca Γ 59 [v0, v1] fun v2 =>
  some v2
theorem s.strings_HasSuffix (e : Nat → List V → Option V) (Γ : Gam) (v0 v1 : V) : Go.Abs.step Tryz.prog tabs e cfg Γ 35 0 [v0, v1] = y.strings_HasSuffix Γ v0 v1 := by kernel_rfl
theorem w.strings_HasSuffix (e : Nat → List V → Option V) (v0 v1 : V) : vl e 35 0 [v0, v1] = y.strings_HasSuffix (vl e) v0 v1 := val_of (s.strings_HasSuffix e _ v0 v1)
noncomputable def y.strings_CutPrefix (Γ : Gam) (v0 v1 : V) : Option V :=
  ca Γ 61 [v0, v1] fun v2 =>
  pr (.ext 0) [v2] fun v3 =>
  pr (.ext 1) [v2] fun v4 =>
  some (.tup [v3, v4])
theorem s.strings_CutPrefix (e : Nat → List V → Option V) (Γ : Gam) (v0 v1 : V) : Go.Abs.step Tryz.prog tabs e cfg Γ 39 0 [v0, v1] = y.strings_CutPrefix Γ v0 v1 := by kernel_rfl
theorem w.strings_CutPrefix (e : Nat → List V → Option V) (v0 v1 : V) : vl e 39 0 [v0, v1] = y.strings_CutPrefix (vl e) v0 v1 := val_of (s.strings_CutPrefix e _ v0 v1)
noncomputable def y.strings_TrimPrefix (Γ : Gam) (v0 v1 : V) : Option V :=
  ca Γ 69 [v0, v1] fun v2 =>
  some v2
theorem s.strings_TrimPrefix (e : Nat → List V → Option V) (Γ : Gam) (v0 v1 : V) : Go.Abs.step Tryz.prog tabs e cfg Γ 47 0 [v0, v1] = y.strings_TrimPrefix Γ v0 v1 := by kernel_rfl
theorem w.strings_TrimPrefix (e : Nat → List V → Option V) (v0 v1 : V) : vl e 47 0 [v0, v1] = y.strings_TrimPrefix (vl e) v0 v1 := val_of (s.strings_TrimPrefix e _ v0 v1)
noncomputable def y.strings_CutSuffix (Γ : Gam) (v0 v1 : V) : Option V :=
  ca Γ 81 [v0, v1] fun v2 =>
  pr (.ext 0) [v2] fun v3 =>
  pr (.ext 1) [v2] fun v4 =>
  some (.tup [v3, v4])
theorem s.strings_CutSuffix (e : Nat → List V → Option V) (Γ : Gam) (v0 v1 : V) : Go.Abs.step Tryz.prog tabs e cfg Γ 55 0 [v0, v1] = y.strings_CutSuffix Γ v0 v1 := by kernel_rfl
theorem w.strings_CutSuffix (e : Nat → List V → Option V) (v0 v1 : V) : vl e 55 0 [v0, v1] = y.strings_CutSuffix (vl e) v0 v1 := val_of (s.strings_CutSuffix e _ v0 v1)
noncomputable def y.internal_stringslite_HasSuffix (Γ : Gam) (v0 v1 : V) : Option V :=
  pr (.len true) [v0] fun v2 =>
  pr (.len true) [v1] fun v3 =>
  pr (.bin (.geq) (.no)) [v2, v3] fun v4 =>
  vif v4 (
    pr (.len true) [v0] fun v5 =>
    pr (.len true) [v1] fun v6 =>
    pr (.bin (.sub) (.no)) [v5, v6] fun v7 =>
    pr (.sls true false) [v0, v7] fun v8 =>
    pr (.bin (.eql) (.no)) [v8, v1] fun v9 =>
    some v9) (
    some (.bool false))
theorem s.internal_stringslite_HasSuffix (e : Nat → List V → Option V) (Γ : Gam) (v0 v1 : V) : Go.Abs.step Tryz.prog tabs e cfg Γ 59 0 [v0, v1] = y.internal_stringslite_HasSuffix Γ v0 v1 := by kernel_rfl
theorem w.internal_stringslite_HasSuffix (e : Nat → List V → Option V) (v0 v1 : V) : vl e 59 0 [v0, v1] = y.internal_stringslite_HasSuffix (vl e) v0 v1 := val_of (s.internal_stringslite_HasSuffix e _ v0 v1)
noncomputable def y.plus_Line (Γ : Gam) (v0 : V) : Option V :=
  ca Γ 94 [v0, (.fn 95 [])] fun v1 =>
  pr (.len false) [v1] fun v2 =>
  pr (.bin (.eql) (.no)) [v2, (.int .i64 0)] fun v3 =>
  vif v3 (
    some (.tup [(.str []), (.int .i64 4)])) (
    ca Γ 70 [v1, (.str [32, 124, 124, 32]), (.fn 96 [])] fun v4 =>
    pr (.ext 0) [v4] fun v5 =>
    pr (.ext 1) [v4] fun v6 =>
    some (.tup [v5, v6]))
theorem s.plus_Line (e : Nat → List V → Option V) (Γ : Gam) (v0 : V) : Go.Abs.step Tryz.prog tabs e cfg Γ 71 0 [v0] = y.plus_Line Γ v0 := by kernel_rfl
theorem w.plus_Line (e : Nat → List V → Option V) (v0 : V) : vl e 71 0 [v0] = y.plus_Line (vl e) v0 := val_of (s.plus_Line e _ v0)
noncomputable def y.plus_Line_1 (Γ : Gam) (v0 : V) : Option V :=
  pr (.bin (.eql) (.no)) [v0, (.int .i32 32)] fun v1 =>
  vif v1 (
    some (.bool true)) (
    pr (.bin (.eql) (.no)) [v0, (.int .i32 9)] fun v2 =>
    some v2)
theorem s.plus_Line_1 (e : Nat → List V → Option V) (Γ : Gam) (v0 : V) : Go.Abs.step Tryz.prog tabs e cfg Γ 95 0 [v0] = y.plus_Line_1 Γ v0 := by kernel_rfl
theorem w.plus_Line_1 (e : Nat → List V → Option V) (v0 : V) : vl e 95 0 [v0] = y.plus_Line_1 (vl e) v0 := val_of (s.plus_Line_1 e _ v0)
noncomputable def y.slices_DeleteFunc_Lstring_string_h0 (Γ : Gam) (v0 v1 : V) : Option V :=
  ch Γ 10800 [v0, v1] fun v3 =>
  pr (.ext 0) [v3] fun v4 =>
  pr (.ext 1) [v3] fun v5 =>
  pr (.bin (.eql) (.no)) [v4, (.int .i64 (-1))] fun v6 =>
  vif v6 (
    some (.tup [v0, v5])) (
    pr (.bin (.add) (.no)) [v4, (.int .i64 1)] fun v7 =>
    Γ 10432 18 [v0, v4, v7, v5])
theorem s.slices_DeleteFunc_Lstring_string_h0 (e : Nat → List V → Option V) (Γ : Gam) (v0 v1 : V) : Go.Abs.step Tryz.prog tabs e cfg Γ 10432 1 [v0, v1] = y.slices_DeleteFunc_Lstring_string_h0 Γ v0 v1 := by kernel_rfl
theorem w.slices_DeleteFunc_Lstring_string_h0 (e : Nat → List V → Option V) (v0 v1 : V) : vl e 10432 1 [v0, v1] = y.slices_DeleteFunc_Lstring_string_h0 (vl e) v0 v1 := val_of (s.slices_DeleteFunc_Lstring_string_h0 e _ v0 v1)
noncomputable def y.slices_DeleteFunc_Lstring_string_h0_18 (Γ : Gam) (v0 v1 v2 v3 : V) : Option V :=
  pr (.len false) [v0] fun v4 =>
  pr (.bin (.lss) (.no)) [v2, v4] fun v5 =>
  vif v5 (
    pr (.elem 1) [v0, v2] fun v6 =>
    pr (.ld none 0) [v6] fun v7 =>
    ch Γ 10464 [v7, v3] fun v8 =>
    pr (.ext 0) [v8] fun v9 =>
    pr (.ext 1) [v8] fun v10 =>
    pr (.un (.not)) [v9] fun v11 =>
    vif v11 (
      pr (.elem 1) [v0, v1] fun v12 =>
none) (
      pr (.bin (.add) (.no)) [v2, (.int .i64 1)] fun v12 =>
      Γ 10432 18 [v0, v1, v12, v10])) (
    pr (.slc 1 true false false) [v0, v1] fun v6 =>
none)
theorem s.slices_DeleteFunc_Lstring_string_h0_18 (e : Nat → List V → Option V) (Γ : Gam) (v0 v1 v2 v3 : V) : Go.Abs.step Tryz.prog tabs e cfg Γ 10432 18 [v0, v1, v2, v3] = y.slices_DeleteFunc_Lstring_string_h0_18 Γ v0 v1 v2 v3 := by kernel_rfl
theorem w.slices_DeleteFunc_Lstring_string_h0_18 (e : Nat → List V → Option V) (v0 v1 v2 v3 : V) : vl e 10432 18 [v0, v1, v2, v3] = y.slices_DeleteFunc_Lstring_string_h0_18 (vl e) v0 v1 v2 v3 := val_of (s.slices_DeleteFunc_Lstring_string_h0_18 e _ v0 v1 v2 v3)
noncomputable def y.seiche_expr_parser_or_h0 (Γ : Gam) (v0 v1 v2 v3 : V) : Option V :=
  ch Γ 11408 [(.str [124, 124]), v0, v1, v2, v3] fun v4 =>
  pr (.ext 0) [v4] fun v5 =>
  pr (.ext 1) [v4] fun v6 =>
  pr (.ext 2) [v4] fun v7 =>
  pr (.ext 3) [v4] fun v8 =>
  pr (.ext 4) [v4] fun v9 =>
  some (.tup [v5, v6, v7, v8, v9])
theorem s.seiche_expr_parser_or_h0 (e : Nat → List V → Option V) (Γ : Gam) (v0 v1 v2 v3 : V) : Go.Abs.step Tryz.prog tabs e cfg Γ 11056 1 [v0, v1, v2, v3] = y.seiche_expr_parser_or_h0 Γ v0 v1 v2 v3 := by kernel_rfl
theorem w.seiche_expr_parser_or_h0 (e : Nat → List V → Option V) (v0 v1 v2 v3 : V) : vl e 11056 1 [v0, v1, v2, v3] = y.seiche_expr_parser_or_h0 (vl e) v0 v1 v2 v3 := val_of (s.seiche_expr_parser_or_h0 e _ v0 v1 v2 v3)
noncomputable def y.slices_IndexFunc_Lstring_string_h0 (Γ : Gam) (v0 v1 : V) : Option V :=
  pr (.len false) [v0] fun v2 =>
  Γ 10800 8 [v0, v2, (.int .i64 0), v1]
theorem s.slices_IndexFunc_Lstring_string_h0 (e : Nat → List V → Option V) (Γ : Gam) (v0 v1 : V) : Go.Abs.step Tryz.prog tabs e cfg Γ 10800 1 [v0, v1] = y.slices_IndexFunc_Lstring_string_h0 Γ v0 v1 := by kernel_rfl
theorem w.slices_IndexFunc_Lstring_string_h0 (e : Nat → List V → Option V) (v0 v1 : V) : vl e 10800 1 [v0, v1] = y.slices_IndexFunc_Lstring_string_h0 (vl e) v0 v1 := val_of (s.slices_IndexFunc_Lstring_string_h0 e _ v0 v1)
noncomputable def y.slices_IndexFunc_Lstring_string_h0_8 (Γ : Gam) (v0 v1 v2 v3 : V) : Option V :=
  pr (.bin (.lss) (.no)) [v2, v1] fun v4 =>
  vif v4 (
    pr (.elem 1) [v0, v2] fun v5 =>
    pr (.ld none 0) [v5] fun v6 =>
    ch Γ 10464 [v6, v3] fun v7 =>
    pr (.ext 0) [v7] fun v8 =>
    pr (.ext 1) [v7] fun v9 =>
    vif v8 (
      some (.tup [v2, v9])) (
      pr (.bin (.add) (.no)) [v2, (.int .i64 1)] fun v10 =>
      Γ 10800 8 [v0, v1, v10, v9])) (
    some (.tup [(.int .i64 (-1)), v3]))
theorem s.slices_IndexFunc_Lstring_string_h0_8 (e : Nat → List V → Option V) (Γ : Gam) (v0 v1 v2 v3 : V) : Go.Abs.step Tryz.prog tabs e cfg Γ 10800 8 [v0, v1, v2, v3] = y.slices_IndexFunc_Lstring_string_h0_8 Γ v0 v1 v2 v3 := by kernel_rfl
theorem w.slices_IndexFunc_Lstring_string_h0_8 (e : Nat → List V → Option V) (v0 v1 v2 v3 : V) : vl e 10800 8 [v0, v1, v2, v3] = y.slices_IndexFunc_Lstring_string_h0_8 (vl e) v0 v1 v2 v3 := val_of (s.slices_IndexFunc_Lstring_string_h0_8 e _ v0 v1 v2 v3)
noncomputable def y.seiche_expr_parser_list_h0 (Γ : Gam) (v0 v1 v2 v3 v4 : V) : Option V :=
  ch Γ 11424 [v1, v2, v3, v4] fun v5 =>
  pr (.ext 0) [v5] fun v6 =>
  pr (.ext 1) [v5] fun v7 =>
  pr (.ext 2) [v5] fun v8 =>
  pr (.ext 3) [v5] fun v9 =>
  pr (.ext 4) [v5] fun v10 =>
  pr (.bin (.neq) (.no)) [v6, (.int .i64 0)] fun v11 =>
  vif v11 (
    some (.tup [v6, v7, v8, v9, v10])) (
    Γ 11408 16 [v0, v7, v8, v9, v10])
theorem s.seiche_expr_parser_list_h0 (e : Nat → List V → Option V) (Γ : Gam) (v0 v1 v2 v3 v4 : V) : Go.Abs.step Tryz.prog tabs e cfg Γ 11408 1 [v0, v1, v2, v3, v4] = y.seiche_expr_parser_list_h0 Γ v0 v1 v2 v3 v4 := by kernel_rfl
theorem w.seiche_expr_parser_list_h0 (e : Nat → List V → Option V) (v0 v1 v2 v3 v4 : V) : vl e 11408 1 [v0, v1, v2, v3, v4] = y.seiche_expr_parser_list_h0 (vl e) v0 v1 v2 v3 v4 := val_of (s.seiche_expr_parser_list_h0 e _ v0 v1 v2 v3 v4)
end Go.Proofs.YtanocopjancaiaaGreatDoor
/-
  What functions of the program come to, over values alone. Printed by programs of this seat (wip/y/tool.lean, asm.py).
-/
namespace Go.Proofs.YtanocopjancaiaaGreatDoor
open Go.Abs

noncomputable def y.seiche_expr_parser_list_h0_16 (Γ : Gam) (v0 v1 v2 v3 v4 : V) : Option V :=
  ch Γ 11728 [v0, v1, v2, v3, v4] fun v5 =>
  pr (.ext 0) [v5] fun v6 =>
  pr (.ext 1) [v5] fun v7 =>
  pr (.ext 2) [v5] fun v8 =>
  pr (.ext 3) [v5] fun v9 =>
  pr (.ext 4) [v5] fun v10 =>
  vif v6 (
    ch Γ 11424 [v7, v8, v9, v10] fun v11 =>
    pr (.ext 0) [v11] fun v12 =>
    pr (.ext 1) [v11] fun v13 =>
    pr (.ext 2) [v11] fun v14 =>
    pr (.ext 3) [v11] fun v15 =>
    pr (.ext 4) [v11] fun v16 =>
    pr (.bin (.neq) (.no)) [v12, (.int .i64 0)] fun v17 =>
    vif v17 (
      some (.tup [v12, v13, v14, v15, v16])) (
      pr (.bsl 1) [v0] fun v18 =>
      pr (.app 1) [v15, v18] fun v19 =>
      Γ 11408 16 [v0, v13, v14, v19, v16])) (
    some (.tup [(.int .i64 0), v7, v8, v9, v10]))
theorem s.seiche_expr_parser_list_h0_16 (e : Nat → List V → Option V) (Γ : Gam) (v0 v1 v2 v3 v4 : V) : Go.Abs.step Tryz.prog tabs e cfg Γ 11408 16 [v0, v1, v2, v3, v4] = y.seiche_expr_parser_list_h0_16 Γ v0 v1 v2 v3 v4 := by kernel_rfl
theorem w.seiche_expr_parser_list_h0_16 (e : Nat → List V → Option V) (v0 v1 v2 v3 v4 : V) : vl e 11408 16 [v0, v1, v2, v3, v4] = y.seiche_expr_parser_list_h0_16 (vl e) v0 v1 v2 v3 v4 := val_of (s.seiche_expr_parser_list_h0_16 e _ v0 v1 v2 v3 v4)
noncomputable def y.cond_Holds_1_h0 (Γ : Gam) (v0 v1 : V) : Option V :=
  pr (.ld (some 5) 0) [v1] fun v2 =>
  ca Γ 11 [v2, v0] fun v3 =>
  pr (.un (.not)) [v3] fun v4 =>
  some (.tup [v4, v1])
theorem s.cond_Holds_1_h0 (e : Nat → List V → Option V) (Γ : Gam) (v0 v1 : V) : Go.Abs.step Tryz.prog tabs e cfg Γ 10464 1 [v0, v1] = y.cond_Holds_1_h0 Γ v0 v1 := by kernel_rfl
theorem w.cond_Holds_1_h0 (e : Nat → List V → Option V) (v0 v1 : V) : vl e 10464 1 [v0, v1] = y.cond_Holds_1_h0 (vl e) v0 v1 := val_of (s.cond_Holds_1_h0 e _ v0 v1)
noncomputable def y.seiche_expr_parser_and_h0 (Γ : Gam) (v0 v1 v2 v3 : V) : Option V :=
  ch Γ 11409 [(.str [38, 38]), v0, v1, v2, v3] fun v4 =>
  pr (.ext 0) [v4] fun v5 =>
  pr (.ext 1) [v4] fun v6 =>
  pr (.ext 2) [v4] fun v7 =>
  pr (.ext 3) [v4] fun v8 =>
  pr (.ext 4) [v4] fun v9 =>
  some (.tup [v5, v6, v7, v8, v9])
theorem s.seiche_expr_parser_and_h0 (e : Nat → List V → Option V) (Γ : Gam) (v0 v1 v2 v3 : V) : Go.Abs.step Tryz.prog tabs e cfg Γ 11424 1 [v0, v1, v2, v3] = y.seiche_expr_parser_and_h0 Γ v0 v1 v2 v3 := by kernel_rfl
theorem w.seiche_expr_parser_and_h0 (e : Nat → List V → Option V) (v0 v1 v2 v3 : V) : vl e 11424 1 [v0, v1, v2, v3] = y.seiche_expr_parser_and_h0 (vl e) v0 v1 v2 v3 := val_of (s.seiche_expr_parser_and_h0 e _ v0 v1 v2 v3)
noncomputable def y.seiche_expr_parser_list_h1 (Γ : Gam) (v0 v1 v2 v3 v4 : V) : Option V :=
  ch Γ 11744 [v1, v2, v3, v4] fun v5 =>
  pr (.ext 0) [v5] fun v6 =>
  pr (.ext 1) [v5] fun v7 =>
  pr (.ext 2) [v5] fun v8 =>
  pr (.ext 3) [v5] fun v9 =>
  pr (.ext 4) [v5] fun v10 =>
  pr (.bin (.neq) (.no)) [v6, (.int .i64 0)] fun v11 =>
  vif v11 (
    some (.tup [v6, v7, v8, v9, v10])) (
    Γ 11409 16 [v0, v7, v8, v9, v10])
theorem s.seiche_expr_parser_list_h1 (e : Nat → List V → Option V) (Γ : Gam) (v0 v1 v2 v3 v4 : V) : Go.Abs.step Tryz.prog tabs e cfg Γ 11409 1 [v0, v1, v2, v3, v4] = y.seiche_expr_parser_list_h1 Γ v0 v1 v2 v3 v4 := by kernel_rfl
theorem w.seiche_expr_parser_list_h1 (e : Nat → List V → Option V) (v0 v1 v2 v3 v4 : V) : vl e 11409 1 [v0, v1, v2, v3, v4] = y.seiche_expr_parser_list_h1 (vl e) v0 v1 v2 v3 v4 := val_of (s.seiche_expr_parser_list_h1 e _ v0 v1 v2 v3 v4)
noncomputable def y.seiche_expr_parser_list_h1_16 (Γ : Gam) (v0 v1 v2 v3 v4 : V) : Option V :=
  ch Γ 11728 [v0, v1, v2, v3, v4] fun v5 =>
  pr (.ext 0) [v5] fun v6 =>
  pr (.ext 1) [v5] fun v7 =>
  pr (.ext 2) [v5] fun v8 =>
  pr (.ext 3) [v5] fun v9 =>
  pr (.ext 4) [v5] fun v10 =>
  vif v6 (
    ch Γ 11744 [v7, v8, v9, v10] fun v11 =>
    pr (.ext 0) [v11] fun v12 =>
    pr (.ext 1) [v11] fun v13 =>
    pr (.ext 2) [v11] fun v14 =>
    pr (.ext 3) [v11] fun v15 =>
    pr (.ext 4) [v11] fun v16 =>
    pr (.bin (.neq) (.no)) [v12, (.int .i64 0)] fun v17 =>
    vif v17 (
      some (.tup [v12, v13, v14, v15, v16])) (
      pr (.bsl 1) [v0] fun v18 =>
      pr (.app 1) [v15, v18] fun v19 =>
      Γ 11409 16 [v0, v13, v14, v19, v16])) (
    some (.tup [(.int .i64 0), v7, v8, v9, v10]))
theorem s.seiche_expr_parser_list_h1_16 (e : Nat → List V → Option V) (Γ : Gam) (v0 v1 v2 v3 v4 : V) : Go.Abs.step Tryz.prog tabs e cfg Γ 11409 16 [v0, v1, v2, v3, v4] = y.seiche_expr_parser_list_h1_16 Γ v0 v1 v2 v3 v4 := by kernel_rfl
theorem w.seiche_expr_parser_list_h1_16 (e : Nat → List V → Option V) (v0 v1 v2 v3 v4 : V) : vl e 11409 16 [v0, v1, v2, v3, v4] = y.seiche_expr_parser_list_h1_16 (vl e) v0 v1 v2 v3 v4 := val_of (s.seiche_expr_parser_list_h1_16 e _ v0 v1 v2 v3 v4)
noncomputable def y.seiche_expr_parser_not_h0 (Γ : Gam) (v0 v1 v2 v3 : V) : Option V :=
  ch Γ 11728 [(.str [33]), v0, v1, v2, v3] fun v4 =>
  pr (.ext 0) [v4] fun v5 =>
  pr (.ext 1) [v4] fun v6 =>
  pr (.ext 2) [v4] fun v7 =>
  pr (.ext 3) [v4] fun v8 =>
  pr (.ext 4) [v4] fun v9 =>
  pr (.un (.not)) [v5] fun v10 =>
  vif v10 (
    ch Γ 12016 [v6, v7, v8, v9] fun v11 =>
    pr (.ext 0) [v11] fun v12 =>
    pr (.ext 1) [v11] fun v13 =>
    pr (.ext 2) [v11] fun v14 =>
    pr (.ext 3) [v11] fun v15 =>
    pr (.ext 4) [v11] fun v16 =>
    some (.tup [v12, v13, v14, v15, v16])) (
    ch Γ 11728 [(.str [33]), v6, v7, v8, v9] fun v11 =>
    pr (.ext 0) [v11] fun v12 =>
    pr (.ext 1) [v11] fun v13 =>
    pr (.ext 2) [v11] fun v14 =>
    pr (.ext 3) [v11] fun v15 =>
    pr (.ext 4) [v11] fun v16 =>
    vif v12 (
      some (.tup [(.int .i64 4), v13, v14, v15, v16])) (
      ch Γ 12016 [v13, v14, v15, v16] fun v17 =>
      pr (.ext 0) [v17] fun v18 =>
      pr (.ext 1) [v17] fun v19 =>
      pr (.ext 2) [v17] fun v20 =>
      pr (.ext 3) [v17] fun v21 =>
      pr (.ext 4) [v17] fun v22 =>
      pr (.bin (.neq) (.no)) [v18, (.int .i64 0)] fun v23 =>
      vif v23 (
        some (.tup [v18, v19, v20, v21, v22])) (
        pr (.bsl 1) [(.str [33])] fun v24 =>
        pr (.app 1) [v21, v24] fun v25 =>
        some (.tup [(.int .i64 0), v19, v20, v25, v22]))))
theorem s.seiche_expr_parser_not_h0 (e : Nat → List V → Option V) (Γ : Gam) (v0 v1 v2 v3 : V) : Go.Abs.step Tryz.prog tabs e cfg Γ 11744 1 [v0, v1, v2, v3] = y.seiche_expr_parser_not_h0 Γ v0 v1 v2 v3 := by kernel_rfl
theorem w.seiche_expr_parser_not_h0 (e : Nat → List V → Option V) (v0 v1 v2 v3 : V) : vl e 11744 1 [v0, v1, v2, v3] = y.seiche_expr_parser_not_h0 (vl e) v0 v1 v2 v3 := val_of (s.seiche_expr_parser_not_h0 e _ v0 v1 v2 v3)
noncomputable def y.seiche_expr_parser_takes_h0 (Γ : Gam) (v0 v1 v2 v3 v4 : V) : Option V :=
  ch Γ 11072 [v1, v2, v3, v4] fun v5 =>
  pr (.ext 0) [v5] fun v6 =>
  pr (.ext 1) [v5] fun v7 =>
  pr (.ext 2) [v5] fun v8 =>
  pr (.ext 3) [v5] fun v9 =>
  pr (.len true) [v6] fun v10 =>
  pr (.bin (.sub) (.no)) [v10, v7] fun v11 =>
  pr (.len true) [v0] fun v12 =>
  pr (.bin (.lss) (.no)) [v11, v12] fun v13 =>
  vif v13 (
    some (.tup [(.bool false), v6, v7, v8, v9])) (
    pr (.len true) [v0] fun v14 =>
    pr (.bin (.add) (.no)) [v7, v14] fun v15 =>
    pr (.sls true true) [v6, v7, v15] fun v16 =>
    pr (.bin (.neq) (.no)) [v16, v0] fun v17 =>
    vif v17 (
      some (.tup [(.bool false), v6, v7, v8, v9])) (
      pr (.len true) [v0] fun v18 =>
      pr (.bin (.add) (.no)) [v7, v18] fun v19 =>
      some (.tup [(.bool true), v6, v19, v8, v9])))
theorem s.seiche_expr_parser_takes_h0 (e : Nat → List V → Option V) (Γ : Gam) (v0 v1 v2 v3 v4 : V) : Go.Abs.step Tryz.prog tabs e cfg Γ 11728 1 [v0, v1, v2, v3, v4] = y.seiche_expr_parser_takes_h0 Γ v0 v1 v2 v3 v4 := by kernel_rfl
theorem w.seiche_expr_parser_takes_h0 (e : Nat → List V → Option V) (v0 v1 v2 v3 v4 : V) : vl e 11728 1 [v0, v1, v2, v3, v4] = y.seiche_expr_parser_takes_h0 (vl e) v0 v1 v2 v3 v4 := val_of (s.seiche_expr_parser_takes_h0 e _ v0 v1 v2 v3 v4)
noncomputable def y.seiche_expr_parser_blanks_h0 (Γ : Gam) (v0 v1 v2 v3 : V) : Option V :=
  Γ 11072 3 [v0, v1, v2, v3]
theorem s.seiche_expr_parser_blanks_h0 (e : Nat → List V → Option V) (Γ : Gam) (v0 v1 v2 v3 : V) : Go.Abs.step Tryz.prog tabs e cfg Γ 11072 1 [v0, v1, v2, v3] = y.seiche_expr_parser_blanks_h0 Γ v0 v1 v2 v3 := by kernel_rfl
theorem w.seiche_expr_parser_blanks_h0 (e : Nat → List V → Option V) (v0 v1 v2 v3 : V) : vl e 11072 1 [v0, v1, v2, v3] = y.seiche_expr_parser_blanks_h0 (vl e) v0 v1 v2 v3 := val_of (s.seiche_expr_parser_blanks_h0 e _ v0 v1 v2 v3)
noncomputable def y.seiche_expr_parser_blanks_h0_3 (Γ : Gam) (v0 v1 v2 v3 : V) : Option V :=
  pr (.len true) [v0] fun v4 =>
  pr (.bin (.lss) (.no)) [v1, v4] fun v5 =>
  vif v5 (
    pr .idx [v0, v1] fun v6 =>
    pr (.bin (.eql) (.no)) [v6, (.int .u8 32)] fun v7 =>
    vif v7 (
      pr (.bin (.add) (.no)) [v1, (.int .i64 1)] fun v8 =>
      Γ 11072 3 [v0, v8, v2, v3]) (
      pr .idx [v0, v1] fun v8 =>
      pr (.bin (.eql) (.no)) [v8, (.int .u8 9)] fun v9 =>
      vif v9 (
        pr (.bin (.add) (.no)) [v1, (.int .i64 1)] fun v10 =>
        Γ 11072 3 [v0, v10, v2, v3]) (
        some (.tup [v0, v1, v2, v3])))) (
    some (.tup [v0, v1, v2, v3]))
theorem s.seiche_expr_parser_blanks_h0_3 (e : Nat → List V → Option V) (Γ : Gam) (v0 v1 v2 v3 : V) : Go.Abs.step Tryz.prog tabs e cfg Γ 11072 3 [v0, v1, v2, v3] = y.seiche_expr_parser_blanks_h0_3 Γ v0 v1 v2 v3 := by kernel_rfl
theorem w.seiche_expr_parser_blanks_h0_3 (e : Nat → List V → Option V) (v0 v1 v2 v3 : V) : vl e 11072 3 [v0, v1, v2, v3] = y.seiche_expr_parser_blanks_h0_3 (vl e) v0 v1 v2 v3 := val_of (s.seiche_expr_parser_blanks_h0_3 e _ v0 v1 v2 v3)
noncomputable def y.seiche_expr_parser_part_h0 (Γ : Gam) (v0 v1 v2 v3 : V) : Option V :=
  ch Γ 11728 [(.str [40]), v0, v1, v2, v3] fun v4 =>
  pr (.ext 0) [v4] fun v5 =>
  pr (.ext 1) [v4] fun v6 =>
  pr (.ext 2) [v4] fun v7 =>
  pr (.ext 3) [v4] fun v8 =>
  pr (.ext 4) [v4] fun v9 =>
  vif v5 (
    pr (.bin (.add) (.no)) [v9, (.int .i64 1)] fun v10 =>
    pr (.bin (.gtr) (.no)) [v10, (.int .i64 64)] fun v11 =>
    vif v11 (
      some (.tup [(.int .i64 8), v6, v7, v8, v10])) (
      ch Γ 11056 [v6, v7, v8, v10] fun v12 =>
      pr (.ext 0) [v12] fun v13 =>
      pr (.ext 1) [v12] fun v14 =>
      pr (.ext 2) [v12] fun v15 =>
      pr (.ext 3) [v12] fun v16 =>
      pr (.ext 4) [v12] fun v17 =>
      pr (.bin (.neq) (.no)) [v13, (.int .i64 0)] fun v18 =>
      vif v18 (
        some (.tup [v13, v14, v15, v16, v17])) (
        pr (.bin (.sub) (.no)) [v17, (.int .i64 1)] fun v19 =>
        ch Γ 11728 [(.str [41]), v14, v15, v16, v19] fun v20 =>
        pr (.ext 0) [v20] fun v21 =>
        pr (.ext 1) [v20] fun v22 =>
        pr (.ext 2) [v20] fun v23 =>
        pr (.ext 3) [v20] fun v24 =>
        pr (.ext 4) [v20] fun v25 =>
        pr (.un (.not)) [v21] fun v26 =>
        vif v26 (
          some (.tup [(.int .i64 4), v22, v23, v24, v25])) (
          some (.tup [(.int .i64 0), v22, v23, v24, v25]))))) (
    ch Γ 11072 [v6, v7, v8, v9] fun v10 =>
    pr (.ext 0) [v10] fun v11 =>
    pr (.ext 1) [v10] fun v12 =>
    pr (.ext 2) [v10] fun v13 =>
    pr (.ext 3) [v10] fun v14 =>
    Γ 12016 48 [v12, v11, v12, v13, v14])
theorem s.seiche_expr_parser_part_h0 (e : Nat → List V → Option V) (Γ : Gam) (v0 v1 v2 v3 : V) : Go.Abs.step Tryz.prog tabs e cfg Γ 12016 1 [v0, v1, v2, v3] = y.seiche_expr_parser_part_h0 Γ v0 v1 v2 v3 := by kernel_rfl
theorem w.seiche_expr_parser_part_h0 (e : Nat → List V → Option V) (v0 v1 v2 v3 : V) : vl e 12016 1 [v0, v1, v2, v3] = y.seiche_expr_parser_part_h0 (vl e) v0 v1 v2 v3 := val_of (s.seiche_expr_parser_part_h0 e _ v0 v1 v2 v3)
noncomputable def y.seiche_expr_parser_part_h0_48 (Γ : Gam) (v0 v1 v2 v3 v4 : V) : Option V :=
  pr (.len true) [v1] fun v5 =>
  pr (.bin (.lss) (.no)) [v2, v5] fun v6 =>
  vif v6 (
    pr .idx [v1, v2] fun v7 =>
    ca Γ 74 [v7] fun v8 =>
    vif v8 (
      pr (.bin (.add) (.no)) [v2, (.int .i64 1)] fun v9 =>
      Γ 12016 48 [v0, v1, v9, v3, v4]) (
      pr (.bin (.eql) (.no)) [v2, v0] fun v9 =>
      vif v9 (
        some (.tup [(.int .i64 4), v1, v2, v3, v4])) (
        pr (.sls true true) [v1, v0, v2] fun v10 =>
        pr (.bsl 1) [v10] fun v11 =>
        pr (.app 1) [v3, v11] fun v12 =>
        some (.tup [(.int .i64 0), v1, v2, v12, v4])))) (
    pr (.bin (.eql) (.no)) [v2, v0] fun v7 =>
    vif v7 (
      some (.tup [(.int .i64 4), v1, v2, v3, v4])) (
      pr (.sls true true) [v1, v0, v2] fun v8 =>
      pr (.bsl 1) [v8] fun v9 =>
      pr (.app 1) [v3, v9] fun v10 =>
      some (.tup [(.int .i64 0), v1, v2, v10, v4])))
theorem s.seiche_expr_parser_part_h0_48 (e : Nat → List V → Option V) (Γ : Gam) (v0 v1 v2 v3 v4 : V) : Go.Abs.step Tryz.prog tabs e cfg Γ 12016 48 [v0, v1, v2, v3, v4] = y.seiche_expr_parser_part_h0_48 Γ v0 v1 v2 v3 v4 := by kernel_rfl
theorem w.seiche_expr_parser_part_h0_48 (e : Nat → List V → Option V) (v0 v1 v2 v3 v4 : V) : vl e 12016 48 [v0, v1, v2, v3, v4] = y.seiche_expr_parser_part_h0_48 (vl e) v0 v1 v2 v3 v4 := val_of (s.seiche_expr_parser_part_h0_48 e _ v0 v1 v2 v3 v4)
end Go.Proofs.YtanocopjancaiaaGreatDoor
/-
  What functions of the program come to: all of them. Printed by programs of this seat.
-/
/-
  B0: words for plain proofs over Y that hang on no program. Own work of this seat.
-/
namespace Go.Proofs.YtanocopjancaiaaGreatDoor
open Go.Abs
theorem next64 {i n : Nat} (h : i < n) (hn : n ≤ 1152921504606846976) : IntKind.i64.wrap ((i : Int) + 1) = ((i + 1 : Nat) : Int) := w64 _ (by omega)
theorem v_s2b {x : Bytes} : evp .s2b [.str x] = some (.sl false 1 (encB x)) := rfl
theorem v_ld0 {x : V} (h : x.sc = true) : evp (.ld none 0) [x] = some x := by cases x <;> first | rfl | cases h
theorem encB_get (x : Bytes) (i : Nat) : (encB x)[i]? = (x[i]?).map byteV := by simp [encB]
theorem encB_len (x : Bytes) : (encB x).length = x.length := by simp [encB]
abbrev I (n : Int) : V := .int .i64 n
abbrev strs (l : List Bytes) : V := .sl false 1 (l.map .str)
theorem v_push {l : List Bytes} {x : Bytes} (h : l.length + 1 ≤ Lim) : evp (.app 1) [strs l, .sl false 1 [.str x]] = some (strs (l ++ [x])) := by
  rw [strs, v_app (by simpa using h)]; simp
theorem v_bsl1 {x : Bytes} : evp (.bsl 1) [.str x] = some (.sl false 1 [.str x]) := rfl
theorem v_get {l : List Bytes} {i : Nat} (h : i < l.length) : evp (.elem 1) [strs l, .int .i64 i] = some (.str l[i]) := v_elem (by simp [h])
theorem v_get0 {x : Bytes} {l : List Bytes} : evp (.elem 1) [strs (x :: l), .int .i64 0] = some (.str x) := v_elem (i := 0) rfl
theorem v_lds {x : Bytes} : evp (.ld none 0) [.str x] = some (.str x) := rfl
theorem v_lenS {l : List Bytes} : evp (.len false) [strs l] = some (.int .i64 l.length) := by rw [strs, v_len, List.length_map]
theorem v_nil : V.sl false 1 [] = strs [] := rfl

theorem bind_eq {o : Option V} {v : V} {k : V → Option V} {R : Option V} (h : o = some v) (hk : k v = R) : o.bind k = R := by rw [h]; exact hk
theorem v_mul {k : IntKind} {a b : Int} : evp (.bin .mul .no) [.int k a, .int k b] = some (.int k (k.wrap (a * b))) := by simp [evp, abin, aint]
theorem v_quo {k : Nat} (h0 : k ≠ 0) {n : Nat} (h : n < 4611686018427387904) : evp (.bin .quo .no) [.int .i64 (n : Int), .int .i64 (k : Int)] = some (.int .i64 ((n / k : Nat) : Int)) := by
  show (if (k : Int) = 0 then none else some (V.int .i64 (IntKind.i64.wrap ((n : Int).tdiv (k : Int))))) = _
  have := Nat.div_le_self n k
  have e1 : (n : Int).tdiv (k : Int) = ((n / k : Nat) : Int) := (Int.ofNat_tdiv n k).symm
  rw [if_neg (by omega), e1]
  generalize n / k = q at *
  rw [w64 _ (by omega)]
theorem v_rem {k : Nat} (h0 : k ≠ 0) {n : Nat} : evp (.bin .rem .no) [.int .i64 (n : Int), .int .i64 (k : Int)] = some (.int .i64 ((n % k : Nat) : Int)) := by
  show (if (k : Int) = 0 then none else some (V.int .i64 ((n : Int).tmod (k : Int)))) = _
  rw [if_neg (by omega), ← Int.ofNat_tmod]
abbrev bsl (l : Bytes) : V := .sl false 1 (l.map byteV)
theorem toBytes_map : ∀ l : Bytes, toBytes (l.map byteV) = some l
  | [] => rfl
  | c :: r => by
    have ih := toBytes_map r
    have hc : UInt8.ofNat ((c.toNat : Int).toNat) = c := by rw [Int.toNat_natCast]; exact UInt8.ofNat_toNat
    show ((toBytes (r.map byteV)).map (UInt8.ofNat ((c.toNat : Int).toNat) :: ·)) = _
    rw [ih, hc]; rfl
theorem v_b2s {l : Bytes} : evp .b2s [bsl l] = some (.str l) := by
  show (toBytes (l.map byteV)).map V.str = _
  rw [toBytes_map]; rfl
theorem v_slcD {sz : Nat} {l : List V} {i : Nat} (h : i ≤ l.length) : evp (.slc sz true false false) [.sl false sz l, .int .i64 (i : Int)] = some (.sl false sz (l.drop i)) := by
  simp only [evp, vSlcC, vSlc, vOpt]
  simp [cut3, h]
end Go.Proofs.YtanocopjancaiaaGreatDoor
/-
  Ext, part 2: the world of a call; the words for one seat. Own work of this seat.
-/
namespace Go.Proofs.YtanocopjancaiaaGreatDoor
open Go.Abs Go.RowKit

noncomputable def cxD (w : World) : Cx := ⟨Tryz.prog, w, fun _ => none⟩
theorem mixed : Tryz.prog.follows .mixedOrders = true := by kernel_rfl
theorem glD (w : World) : GlOK (cxD w) := fun g cs h => by cases h
def HasMax (w : World) : Prop := ∃ m, w.cell? ⟨6, 0, none⟩ = some (.int .i64 m)
structure EnvOK (w : World) : Prop where
  max : HasMax w
end Go.Proofs.YtanocopjancaiaaGreatDoor
/-
  DERIVED: THE SHELF's CONTRACTS AT THIS DUMP, IN PLAIN WORDS (tools/lay-plain.mjs out of 'TryzShelf.lean', which tools/lay-shelf.mjs wrote): THE SAME DECLARATIONS UNDER THE SAME NAMES: 'import', 'namespace', 'open', 'def', 'theorem' AND NOTHING ELSE: no command of the shelf's: FOR A HAND-IN. Each laying: the table of numbers ('.._ren') and one theorem, a field a fact of the dump's own or the kernel's comparison; each contract: ONE APPLICATION.
-/
namespace Go.Proofs
open Go.Shelf
def Tryz.lays169_ren : Go.Shelf.Ren := ⟨fun | 169 => 116 | n => n, fun | 70 => 126 | 9 => 9 | 0 => 0 | 72 => 128 | 37 => 37 | 127 => 135 | 3 => 3 | 5 => 5 | n => n, fun | n => n⟩
theorem Tryz.lays169 : Go.Proofs.Lays.n169 Tryz.prog Tryz.lays169_ren := {
  mixed := by kernel_rfl
  f169 := Tryz.func116.trans (congrArg some (by kernel_rfl))
  t0 := Tryz.underlying0
  a0 := Tryz.isAgg0
  z0 := Tryz.sizeOf0
  v0 := Tryz.zeroValue0
  t3 := Tryz.underlying3
  a3 := Tryz.isAgg3
  z3 := Tryz.sizeOf3
  v3 := Tryz.zeroValue3
  t9 := Tryz.underlying9
  a9 := Tryz.isAgg9
  z9 := Tryz.sizeOf9
  v9 := Tryz.zeroValue9
  t37 := Tryz.underlying37
  a37 := Tryz.isAgg37
  z37 := Tryz.sizeOf37
  v37 := Tryz.zeroValue37
  t70 := Tryz.underlying126
  a70 := Tryz.isAgg126
  z70 := Tryz.sizeOf126
  v70 := Tryz.zeroValue126
  t72 := Tryz.underlying128
  a72 := Tryz.isAgg128
  z72 := Tryz.sizeOf128
  v72 := Tryz.zeroValue128
  t127 := Tryz.underlying135
  a127 := Tryz.isAgg135
  z127 := Tryz.sizeOf135
  v127 := Tryz.zeroValue135 }
theorem Tryz.Builder_Extra_169 : Builder.Extra Tryz.prog Tryz.lays169_ren := {
  sizeBuilder := by kernel_rfl
  liesBuilder := by kernel_rfl
  t5 := Tryz.underlying5
  a5 := Tryz.isAgg5
  z5 := Tryz.sizeOf5
  v5 := Tryz.zeroValue5
  infoByte := by kernel_rfl
  cellsByte := by kernel_rfl
  sizeByte := by kernel_rfl
  neB5 := by decide }
open Go.RowKit in
/-- (*strings.Builder).String: "String returns the accumulated string.": OF A BUILDER THAT HOLDS AT LEAST ONE BYTE. ✋ THE MODEL FREEZES THOSE BYTES IN THE BUFFER (unsafe.String): a later write INTO them ends the model's run without an answer; a later append BEHIND them goes on. The statement's order of evaluation is drawn: one draw. (LAID: no walk: one application.) -/
theorem Tryz.Builder_String (B b : Nat) (l : List UInt8) (w : World) (h : Lib.IsBuilder 128 5 B b (Lib.byteCells l) w) (h0 : l ≠ []) :
    Calls Tryz.prog 116 #[.pointer (some ⟨b, 0, none⟩)] w fun e w' => e = .returned (.string ⟨l.toArray⟩) ∧ Below B w w' := Any.Builder_String Tryz.lays169 Tryz.Builder_Extra_169 B b l w h h0
open Go.RowKit in
/-- (*strings.Builder).String OF A BUILDER THAT HOLDS NO BYTE: the empty string. (Its buffer is nil, or a row of which it has taken nothing yet; where that row has NO capacity the model lays one new block for unsafe.SliceData's 'some address'.) One draw. (LAID: no walk: one application.) -/
theorem Tryz.Builder_String_empty (B b : Nat) (w : World) (h : Lib.IsBuilder 128 5 B b [] w) (hBw : B ≤ w.heap.size) :
    Calls Tryz.prog 116 #[.pointer (some ⟨b, 0, none⟩)] w fun e w' => e = .returned (.string ⟨#[]⟩) ∧ Below B w w' := Any.Builder_String_empty Tryz.lays169 Tryz.Builder_Extra_169 B b w h hBw
open Go.RowKit in
/-- (*strings.Builder).String: "String returns the accumulated string.": WHATEVER THE BUILDER HOLDS. (LAID: no walk: one application.) -/
theorem Tryz.Builder_String_any (B b : Nat) (l : List UInt8) (w : World) (h : Lib.IsBuilder 128 5 B b (Lib.byteCells l) w) (hBw : B ≤ w.heap.size) :
    Calls Tryz.prog 116 #[.pointer (some ⟨b, 0, none⟩)] w fun e w' => e = .returned (.string ⟨l.toArray⟩) ∧ Below B w w' := Any.Builder_String_any Tryz.lays169 Tryz.Builder_Extra_169 B b l w h hBw
def Tryz.lays241_ren : Go.Shelf.Ren := ⟨fun | 241 => 133 | 277 => 140 | n => n, fun | 70 => 126 | 3 => 3 | 0 => 0 | 72 => 128 | 37 => 37 | 5 => 5 | n => n, fun | n => n⟩
theorem Tryz.lays241 : Go.Proofs.Lays.n241 Tryz.prog Tryz.lays241_ren := {
  mixed := by kernel_rfl
  f241 := Tryz.func133.trans (congrArg some (by kernel_rfl))
  f277 := Tryz.func140.trans (congrArg some (by kernel_rfl))
  t0 := Tryz.underlying0
  a0 := Tryz.isAgg0
  z0 := Tryz.sizeOf0
  v0 := Tryz.zeroValue0
  t3 := Tryz.underlying3
  a3 := Tryz.isAgg3
  z3 := Tryz.sizeOf3
  v3 := Tryz.zeroValue3
  t37 := Tryz.underlying37
  a37 := Tryz.isAgg37
  z37 := Tryz.sizeOf37
  v37 := Tryz.zeroValue37
  t70 := Tryz.underlying126
  a70 := Tryz.isAgg126
  z70 := Tryz.sizeOf126
  v70 := Tryz.zeroValue126
  t72 := Tryz.underlying128
  a72 := Tryz.isAgg128
  z72 := Tryz.sizeOf128
  v72 := Tryz.zeroValue128 }
theorem Tryz.Builder_Extra_241 : Builder.Extra Tryz.prog Tryz.lays241_ren := {
  sizeBuilder := by kernel_rfl
  liesBuilder := by kernel_rfl
  t5 := Tryz.underlying5
  a5 := Tryz.isAgg5
  z5 := Tryz.sizeOf5
  v5 := Tryz.zeroValue5
  infoByte := by kernel_rfl
  cellsByte := by kernel_rfl
  sizeByte := by kernel_rfl
  neB5 := by decide }
open Go.RowKit in
/-- (*strings.Builder).grow (no doc but "grow copies the buffer to a new, larger buffer so that there are at least n bytes of capacity beyond len(b.buf)."): AT A BUILDER WITHOUT A BUFFER: a new row of whatever bytes for its buffer, none of them its own yet. Three draws. (LAID: no walk: one application.) -/
theorem Tryz.Builder_grow_fresh (B b n : Nat) (w : World) (hB : B ≤ b) (hbk : w.heap[b]? = some (.cells #[.pointer (some ⟨b, 0, none⟩), .slice none 0 0] 128 (0, 0))) (hBw : B ≤ w.heap.size) (hn : n ≤ 281474976710656) :
    Calls Tryz.prog 133 #[.pointer (some ⟨b, 0, none⟩), .int .i64 n] w fun e w' => e = .returned (.tuple #[]) ∧ (Lib.BuilderAt 128 5 B b (.pointer (some ⟨b, 0, none⟩)) [] w' ∧ Below B w w') := Any.Builder_grow_fresh Tryz.lays241 Tryz.Builder_Extra_241 B b n w hB hbk hBw hn
def Tryz.lays165_ren : Go.Shelf.Ren := ⟨fun | 165 => 114 | 240 => 132 | 241 => 133 | 276 => 139 | 277 => 140 | n => n, fun | 70 => 126 | 3 => 3 | 0 => 0 | 4 => 4 | 9 => 9 | 20 => 20 | 72 => 128 | 37 => 37 | 164 => 153 | 5 => 5 | n => n, fun | n => n⟩
theorem Tryz.lays165 : Go.Proofs.Lays.n165 Tryz.prog Tryz.lays165_ren := {
  mixed := by kernel_rfl
  f165 := Tryz.func114.trans (congrArg some (by kernel_rfl))
  f240 := Tryz.func132.trans (congrArg some (by kernel_rfl))
  f241 := Tryz.func133.trans (congrArg some (by kernel_rfl))
  f276 := Tryz.func139.trans (congrArg some (by kernel_rfl))
  f277 := Tryz.func140.trans (congrArg some (by kernel_rfl))
  t0 := Tryz.underlying0
  a0 := Tryz.isAgg0
  z0 := Tryz.sizeOf0
  v0 := Tryz.zeroValue0
  t3 := Tryz.underlying3
  a3 := Tryz.isAgg3
  z3 := Tryz.sizeOf3
  v3 := Tryz.zeroValue3
  t4 := Tryz.underlying4
  a4 := Tryz.isAgg4
  z4 := Tryz.sizeOf4
  v4 := Tryz.zeroValue4
  t9 := Tryz.underlying9
  a9 := Tryz.isAgg9
  z9 := Tryz.sizeOf9
  v9 := Tryz.zeroValue9
  t20 := Tryz.underlying20
  a20 := Tryz.isAgg20
  z20 := Tryz.sizeOf20
  v20 := Tryz.zeroValue20
  t37 := Tryz.underlying37
  a37 := Tryz.isAgg37
  z37 := Tryz.sizeOf37
  v37 := Tryz.zeroValue37
  t70 := Tryz.underlying126
  a70 := Tryz.isAgg126
  z70 := Tryz.sizeOf126
  v70 := Tryz.zeroValue126
  t72 := Tryz.underlying128
  a72 := Tryz.isAgg128
  z72 := Tryz.sizeOf128
  v72 := Tryz.zeroValue128
  t164 := Tryz.underlying153
  a164 := Tryz.isAgg153
  z164 := Tryz.sizeOf153
  v164 := Tryz.zeroValue153 }
theorem Tryz.Builder_Extra_165 : Builder.Extra Tryz.prog Tryz.lays165_ren := {
  sizeBuilder := by kernel_rfl
  liesBuilder := by kernel_rfl
  t5 := Tryz.underlying5
  a5 := Tryz.isAgg5
  z5 := Tryz.sizeOf5
  v5 := Tryz.zeroValue5
  infoByte := by kernel_rfl
  cellsByte := by kernel_rfl
  sizeByte := by kernel_rfl
  neB5 := by decide }
open Go.RowKit in
/-- (*strings.Builder).Grow AT A BUILDER THAT HAS NOT BEEN WRITTEN ('var b strings.Builder; b.Grow(n)'): "Grow grows b's capacity, if necessary, to guarantee space for another n bytes.": it holds no byte behind it as before it. (LAID: no walk: one application.) -/
theorem Tryz.Builder_Grow_fresh (B b n : Nat) (w : World) (hB : B ≤ b) (hbk : w.heap[b]? = some (.cells #[.pointer none, .slice none 0 0] 128 (0, 0))) (hBw : B ≤ w.heap.size) (hn : n ≤ 281474976710656) :
    Calls Tryz.prog 114 #[.pointer (some ⟨b, 0, none⟩), .int .i64 n] w fun e w' => e = .returned (.tuple #[]) ∧ (Lib.BuilderAt 128 5 B b (.pointer (some ⟨b, 0, none⟩)) [] w' ∧ Below B w w') := Any.Builder_Grow_fresh Tryz.lays165 Tryz.Builder_Extra_165 B b n w hB hbk hBw hn
def Tryz.lays156_ren : Go.Shelf.Ren := ⟨fun | 156 => 93 | 165 => 114 | 166 => 115 | 169 => 116 | 240 => 132 | 241 => 133 | 276 => 139 | 277 => 140 | n => n, fun | 31 => 22 | 9 => 9 | 3 => 3 | 4 => 4 | 0 => 0 | 20 => 20 | 72 => 128 | 76 => 69 | 70 => 126 | 37 => 37 | 75 => 68 | 127 => 135 | 164 => 153 | 5 => 5 | 80 => 130 | n => n, fun | n => n⟩
theorem Tryz.lays156 : Go.Proofs.Lays.n156 Tryz.prog Tryz.lays156_ren := {
  mixed := by kernel_rfl
  f156 := Tryz.func93.trans (congrArg some (by kernel_rfl))
  f165 := Tryz.func114.trans (congrArg some (by kernel_rfl))
  f166 := Tryz.func115.trans (congrArg some (by kernel_rfl))
  f169 := Tryz.func116.trans (congrArg some (by kernel_rfl))
  f240 := Tryz.func132.trans (congrArg some (by kernel_rfl))
  f241 := Tryz.func133.trans (congrArg some (by kernel_rfl))
  f276 := Tryz.func139.trans (congrArg some (by kernel_rfl))
  f277 := Tryz.func140.trans (congrArg some (by kernel_rfl))
  t0 := Tryz.underlying0
  a0 := Tryz.isAgg0
  z0 := Tryz.sizeOf0
  v0 := Tryz.zeroValue0
  t3 := Tryz.underlying3
  a3 := Tryz.isAgg3
  z3 := Tryz.sizeOf3
  v3 := Tryz.zeroValue3
  t4 := Tryz.underlying4
  a4 := Tryz.isAgg4
  z4 := Tryz.sizeOf4
  v4 := Tryz.zeroValue4
  t9 := Tryz.underlying9
  a9 := Tryz.isAgg9
  z9 := Tryz.sizeOf9
  v9 := Tryz.zeroValue9
  t20 := Tryz.underlying20
  a20 := Tryz.isAgg20
  z20 := Tryz.sizeOf20
  v20 := Tryz.zeroValue20
  t31 := Tryz.underlying22
  a31 := Tryz.isAgg22
  z31 := Tryz.sizeOf22
  v31 := Tryz.zeroValue22
  t37 := Tryz.underlying37
  a37 := Tryz.isAgg37
  z37 := Tryz.sizeOf37
  v37 := Tryz.zeroValue37
  t70 := Tryz.underlying126
  a70 := Tryz.isAgg126
  z70 := Tryz.sizeOf126
  v70 := Tryz.zeroValue126
  t72 := Tryz.underlying128
  a72 := Tryz.isAgg128
  z72 := Tryz.sizeOf128
  v72 := Tryz.zeroValue128
  t75 := Tryz.underlying68
  a75 := Tryz.isAgg68
  z75 := Tryz.sizeOf68
  v75 := Tryz.zeroValue68
  t76 := Tryz.underlying69
  a76 := Tryz.isAgg69
  z76 := Tryz.sizeOf69
  v76 := Tryz.zeroValue69
  t127 := Tryz.underlying135
  a127 := Tryz.isAgg135
  z127 := Tryz.sizeOf135
  v127 := Tryz.zeroValue135
  t164 := Tryz.underlying153
  a164 := Tryz.isAgg153
  z164 := Tryz.sizeOf153
  v164 := Tryz.zeroValue153 }
theorem Tryz.Builder_Extra_156 : Builder.Extra Tryz.prog Tryz.lays156_ren := {
  sizeBuilder := by kernel_rfl
  liesBuilder := by kernel_rfl
  t5 := Tryz.underlying5
  a5 := Tryz.isAgg5
  z5 := Tryz.sizeOf5
  v5 := Tryz.zeroValue5
  infoByte := by kernel_rfl
  cellsByte := by kernel_rfl
  sizeByte := by kernel_rfl
  neB5 := by decide }
open Go.RowKit in
/-- No element: the empty string; the world is as it was. (Whatever the slice's address and capacity: a nil slice too.) (LAID: no walk: one application.) -/
theorem Tryz.strings_Join_none (a : Option Addr) (c : Nat) (sep : ByteArray) (w : World) :
    Calls Tryz.prog 93 #[.slice a 0 c, .string sep] w fun e w' => e = .returned (.string ⟨#[]⟩) ∧ w' = w := Any.strings_Join_none Tryz.lays156 Tryz.Builder_Extra_156 a c sep w
open Go.RowKit in
/-- strings.Join: "Join concatenates the elements of its first argument to create a single string. The separator string sep is placed between elements in the resulting string.": HOWEVER MANY ELEMENTS. Below the heap's end the world is as it was. (LAID: no walk: one application.) -/
theorem Tryz.strings_Join (bk o c : Nat) (xs : List ByteArray) (sep : ByteArray) (w : World) (hcells : ∀ (j : Nat) x, xs[j]? = some x → w.cell? ⟨bk, o + j, none⟩ = some (.string x)) (hbk : bk < w.heap.size) (hN : xs.length ≤ 140737488355328) (hcap : xs.length ≤ c) (hlen : (Lib.join (xs.map (·.data.toList)) sep.data.toList).length ≤ 140737488355328) :
    Calls Tryz.prog 93 #[.slice (some ⟨bk, o, none⟩) xs.length c, .string sep] w fun e w' => e = .returned (.string ⟨(Lib.join (xs.map (·.data.toList)) sep.data.toList).toArray⟩) ∧ Below w.heap.size w w' := Any.strings_Join Tryz.lays156 Tryz.Builder_Extra_156 bk o c xs sep w hcells hbk hN hcap hlen
def Tryz.lays210_ren : Go.Shelf.Ren := ⟨fun | 210 => 61 | 206 => 65 | n => n, fun | 9 => 9 | 4 => 4 | 3 => 3 | n => n, fun | n => n⟩
theorem Tryz.lays210 : Go.Proofs.Lays.n210 Tryz.prog Tryz.lays210_ren := {
  mixed := by kernel_rfl
  f206 := Tryz.func65.trans (congrArg some (by kernel_rfl))
  f210 := Tryz.func61.trans (congrArg some (by kernel_rfl))
  t3 := Tryz.underlying3
  a3 := Tryz.isAgg3
  z3 := Tryz.sizeOf3
  v3 := Tryz.zeroValue3
  t4 := Tryz.underlying4
  a4 := Tryz.isAgg4
  z4 := Tryz.sizeOf4
  v4 := Tryz.zeroValue4
  t9 := Tryz.underlying9
  a9 := Tryz.isAgg9
  z9 := Tryz.sizeOf9
  v9 := Tryz.zeroValue9 }
open Go.RowKit in
/-- internal/stringslite.CutPrefix (what strings.CutPrefix calls). (LAID: no walk: one application.) -/
theorem Tryz.stringslite_CutPrefix (s p : ByteArray) (w : World) :
    Calls Tryz.prog 61 #[.string s, .string p] w fun e w' => e = .returned (.tuple #[.string ⟨(Lib.trimPrefix s.data.toList p.data.toList).toArray⟩, .bool (Lib.hasPrefix s.data.toList p.data.toList)]) ∧ w' = w := Any.stringslite_CutPrefix Tryz.lays210 s p w
def Tryz.lays103_ren : Go.Shelf.Ren := ⟨fun | 103 => 39 | 210 => 61 | 206 => 65 | n => n, fun | 9 => 9 | 4 => 4 | 24 => 65 | 3 => 3 | n => n, fun | n => n⟩
theorem Tryz.lays103 : Go.Proofs.Lays.n103 Tryz.prog Tryz.lays103_ren := {
  mixed := by kernel_rfl
  f103 := Tryz.func39.trans (congrArg some (by kernel_rfl))
  f206 := Tryz.func65.trans (congrArg some (by kernel_rfl))
  f210 := Tryz.func61.trans (congrArg some (by kernel_rfl))
  t3 := Tryz.underlying3
  a3 := Tryz.isAgg3
  z3 := Tryz.sizeOf3
  v3 := Tryz.zeroValue3
  t4 := Tryz.underlying4
  a4 := Tryz.isAgg4
  z4 := Tryz.sizeOf4
  v4 := Tryz.zeroValue4
  t9 := Tryz.underlying9
  a9 := Tryz.isAgg9
  z9 := Tryz.sizeOf9
  v9 := Tryz.zeroValue9
  t24 := Tryz.underlying65
  a24 := Tryz.isAgg65
  z24 := Tryz.sizeOf65
  v24 := Tryz.zeroValue65 }
open Go.RowKit in
/-- strings.CutPrefix: "CutPrefix returns s without the provided leading prefix string and reports whether it found the prefix. If s doesn't start with prefix, CutPrefix returns s, false. If prefix is the empty string, CutPrefix returns s, true.": IT RETURNS '(Lib.trimPrefix s p, Lib.hasPrefix s p)'; the world is as it was. (LAID: no walk: one application.) -/
theorem Tryz.strings_CutPrefix (s p : ByteArray) (w : World) :
    Calls Tryz.prog 39 #[.string s, .string p] w fun e w' => e = .returned (.tuple #[.string ⟨(Lib.trimPrefix s.data.toList p.data.toList).toArray⟩, .bool (Lib.hasPrefix s.data.toList p.data.toList)]) ∧ w' = w := Any.strings_CutPrefix Tryz.lays103 s p w
def Tryz.lays211_ren : Go.Shelf.Ren := ⟨fun | 211 => 81 | 207 => 59 | n => n, fun | 9 => 9 | 4 => 4 | 3 => 3 | n => n, fun | n => n⟩
theorem Tryz.lays211 : Go.Proofs.Lays.n211 Tryz.prog Tryz.lays211_ren := {
  mixed := by kernel_rfl
  f207 := Tryz.func59.trans (congrArg some (by kernel_rfl))
  f211 := Tryz.func81.trans (congrArg some (by kernel_rfl))
  t3 := Tryz.underlying3
  a3 := Tryz.isAgg3
  z3 := Tryz.sizeOf3
  v3 := Tryz.zeroValue3
  t4 := Tryz.underlying4
  a4 := Tryz.isAgg4
  z4 := Tryz.sizeOf4
  v4 := Tryz.zeroValue4
  t9 := Tryz.underlying9
  a9 := Tryz.isAgg9
  z9 := Tryz.sizeOf9
  v9 := Tryz.zeroValue9 }
open Go.RowKit in
/-- internal/stringslite.CutSuffix (what strings.CutSuffix calls). (LAID: no walk: one application.) -/
theorem Tryz.stringslite_CutSuffix (s p : ByteArray) (w : World) (hs : s.size ≤ 9223372036854775807) :
    Calls Tryz.prog 81 #[.string s, .string p] w fun e w' => e = .returned (.tuple #[.string ⟨(Lib.trimSuffix s.data.toList p.data.toList).toArray⟩, .bool (Lib.hasSuffix s.data.toList p.data.toList)]) ∧ w' = w := Any.stringslite_CutSuffix Tryz.lays211 s p w hs
def Tryz.lays104_ren : Go.Shelf.Ren := ⟨fun | 104 => 55 | 211 => 81 | 207 => 59 | n => n, fun | 9 => 9 | 4 => 4 | 24 => 65 | 3 => 3 | n => n, fun | n => n⟩
theorem Tryz.lays104 : Go.Proofs.Lays.n104 Tryz.prog Tryz.lays104_ren := {
  mixed := by kernel_rfl
  f104 := Tryz.func55.trans (congrArg some (by kernel_rfl))
  f207 := Tryz.func59.trans (congrArg some (by kernel_rfl))
  f211 := Tryz.func81.trans (congrArg some (by kernel_rfl))
  t3 := Tryz.underlying3
  a3 := Tryz.isAgg3
  z3 := Tryz.sizeOf3
  v3 := Tryz.zeroValue3
  t4 := Tryz.underlying4
  a4 := Tryz.isAgg4
  z4 := Tryz.sizeOf4
  v4 := Tryz.zeroValue4
  t9 := Tryz.underlying9
  a9 := Tryz.isAgg9
  z9 := Tryz.sizeOf9
  v9 := Tryz.zeroValue9
  t24 := Tryz.underlying65
  a24 := Tryz.isAgg65
  z24 := Tryz.sizeOf65
  v24 := Tryz.zeroValue65 }
open Go.RowKit in
/-- strings.CutSuffix: "CutSuffix returns s without the provided ending suffix string and reports whether it found the suffix. If s doesn't end with suffix, CutSuffix returns s, false. If suffix is the empty string, CutSuffix returns s, true.": IT RETURNS '(Lib.trimSuffix s p, Lib.hasSuffix s p)'; the world is as it was. (LAID: no walk: one application.) -/
theorem Tryz.strings_CutSuffix (s p : ByteArray) (w : World) (hs : s.size ≤ 9223372036854775807) :
    Calls Tryz.prog 55 #[.string s, .string p] w fun e w' => e = .returned (.tuple #[.string ⟨(Lib.trimSuffix s.data.toList p.data.toList).toArray⟩, .bool (Lib.hasSuffix s.data.toList p.data.toList)]) ∧ w' = w := Any.strings_CutSuffix Tryz.lays104 s p w hs
open Go.RowKit in
/-- (*strings.Builder).String: "String returns the accumulated string.": OF A BUILDER THAT HOLDS AT LEAST ONE BYTE. ✋ THE MODEL FREEZES THOSE BYTES IN THE BUFFER (unsafe.String): a later write INTO them ends the model's run without an answer; a later append BEHIND them goes on. The statement's order of evaluation is drawn: one draw. THE FORM '_f': IT SAYS BESIDES THAT THE BUILDER IS A BUILDER STILL ('Lib.IsBuilderF', the same bytes): SO IT CAN BE WRITTEN ON: 'b.WriteString(b.String()[:k])'. (LAID: no walk: one application.) -/
theorem Tryz.Builder_String_f (B b : Nat) (l : List UInt8) (w : World) (h : Lib.IsBuilderF 128 5 B b (Lib.byteCells l) w) (h0 : l ≠ []) :
    Calls Tryz.prog 116 #[.pointer (some ⟨b, 0, none⟩)] w fun e w' => e = .returned (.string ⟨l.toArray⟩) ∧ (Lib.IsBuilderF 128 5 B b (Lib.byteCells l) w' ∧ Below B w w') := Any.Builder_String_f Tryz.lays169 Tryz.Builder_Extra_169 B b l w h h0
open Go.RowKit in
/-- (*strings.Builder).String OF A BUILDER THAT HOLDS NO BYTE: the empty string; THE FORM '_f': a builder still. (LAID: no walk: one application.) -/
theorem Tryz.Builder_String_empty_f (B b : Nat) (w : World) (h : Lib.IsBuilderF 128 5 B b [] w) (hBw : B ≤ w.heap.size) :
    Calls Tryz.prog 116 #[.pointer (some ⟨b, 0, none⟩)] w fun e w' => e = .returned (.string ⟨#[]⟩) ∧ (Lib.IsBuilderF 128 5 B b [] w' ∧ Below B w w') := Any.Builder_String_empty_f Tryz.lays169 Tryz.Builder_Extra_169 B b w h hBw
open Go.RowKit in
/-- (*strings.Builder).String: "String returns the accumulated string.": WHATEVER THE BUILDER HOLDS; THE FORM '_f': OF A BUILDER THAT MAY HAVE BEEN READ BEFORE; AND IT IS A BUILDER STILL, holding the same bytes: it can be written on. (LAID: no walk: one application.) -/
theorem Tryz.Builder_String_any_f (B b : Nat) (l : List UInt8) (w : World) (h : Lib.IsBuilderF 128 5 B b (Lib.byteCells l) w) (hBw : B ≤ w.heap.size) :
    Calls Tryz.prog 116 #[.pointer (some ⟨b, 0, none⟩)] w fun e w' => e = .returned (.string ⟨l.toArray⟩) ∧ (Lib.IsBuilderF 128 5 B b (Lib.byteCells l) w' ∧ Below B w w') := Any.Builder_String_any_f Tryz.lays169 Tryz.Builder_Extra_169 B b l w h hBw
open Go.RowKit in
/-- (*strings.Builder).String: "String returns the accumulated string.": OF A BUILDER THAT HOLDS AT LEAST ONE BYTE. ✋ THE MODEL FREEZES THOSE BYTES IN THE BUFFER (unsafe.String): a later write INTO them ends the model's run without an answer; a later append BEHIND them goes on. The statement's order of evaluation is drawn: one draw. THE FORM '_k': OVER 'Lib.IsBuilderF' (a builder that 'String()' may have read), AND WITH THE FRAME THAT REACHES ABOVE THE BUILDER: 'Lib.OthersKept': every block that is not b and is no row of uint8's stands as it stood: the iterator of a range among them. (LAID: no walk: one application.) -/
theorem Tryz.Builder_String_k (B b : Nat) (l : List UInt8) (w : World) (h : Lib.IsBuilderF 128 5 B b (Lib.byteCells l) w) (h0 : l ≠ []) :
    Calls Tryz.prog 116 #[.pointer (some ⟨b, 0, none⟩)] w fun e w' => e = .returned (.string ⟨l.toArray⟩) ∧ (Lib.IsBuilderF 128 5 B b (Lib.byteCells l) w' ∧ Below B w w' ∧ Lib.OthersKept 5 (some b) w w') := Any.Builder_String_k Tryz.lays169 Tryz.Builder_Extra_169 B b l w h h0
open Go.RowKit in
/-- (*strings.Builder).String OF A BUILDER THAT HOLDS NO BYTE: the empty string; THE FORM '_k': OVER 'Lib.IsBuilderF' (a builder that 'String()' may have read), AND WITH THE FRAME THAT REACHES ABOVE THE BUILDER: 'Lib.OthersKept': every block that is not b and is no row of uint8's stands as it stood: the iterator of a range among them. (LAID: no walk: one application.) -/
theorem Tryz.Builder_String_empty_k (B b : Nat) (w : World) (h : Lib.IsBuilderF 128 5 B b [] w) (hBw : B ≤ w.heap.size) :
    Calls Tryz.prog 116 #[.pointer (some ⟨b, 0, none⟩)] w fun e w' => e = .returned (.string ⟨#[]⟩) ∧ (Lib.IsBuilderF 128 5 B b [] w' ∧ Below B w w' ∧ Lib.OthersKept 5 (some b) w w') := Any.Builder_String_empty_k Tryz.lays169 Tryz.Builder_Extra_169 B b w h hBw
open Go.RowKit in
/-- (*strings.Builder).String: "String returns the accumulated string.": WHATEVER THE BUILDER HOLDS; THE FORM '_k': OVER 'Lib.IsBuilderF' (a builder that 'String()' may have read), AND WITH THE FRAME THAT REACHES ABOVE THE BUILDER: 'Lib.OthersKept': every block that is not b and is no row of uint8's stands as it stood: the iterator of a range among them. (LAID: no walk: one application.) -/
theorem Tryz.Builder_String_any_k (B b : Nat) (l : List UInt8) (w : World) (h : Lib.IsBuilderF 128 5 B b (Lib.byteCells l) w) (hBw : B ≤ w.heap.size) :
    Calls Tryz.prog 116 #[.pointer (some ⟨b, 0, none⟩)] w fun e w' => e = .returned (.string ⟨l.toArray⟩) ∧ (Lib.IsBuilderF 128 5 B b (Lib.byteCells l) w' ∧ Below B w w' ∧ Lib.OthersKept 5 (some b) w w') := Any.Builder_String_any_k Tryz.lays169 Tryz.Builder_Extra_169 B b l w h hBw
def Tryz.lays244_ren : Go.Shelf.Ren := ⟨fun | 244 => 62 | 247 => 82 | 287 => 101 | 321 => 119 | 322 => 120 | n => n, fun | 9 => 9 | 3 => 3 | 75 => 68 | 4 => 4 | 5 => 5 | 167 => 97 | 37 => 37 | 0 => 0 | 85 => 98 | 2 => 2 | 53 => 112 | 175 => 113 | 46 => 41 | 21 => 21 | 80 => 130 | n => n, fun | n => n⟩
theorem Tryz.lays244 : Go.Proofs.Lays.n244 Tryz.prog Tryz.lays244_ren := {
  mixed := by kernel_rfl
  f244 := Tryz.func62.trans (congrArg some (by kernel_rfl))
  f247 := Tryz.func82.trans (congrArg some (by kernel_rfl))
  f287 := Tryz.func101.trans (congrArg some (by kernel_rfl))
  f321 := Tryz.func119.trans (congrArg some (by kernel_rfl))
  f322 := Tryz.func120.trans (congrArg some (by kernel_rfl))
  t0 := Tryz.underlying0
  a0 := Tryz.isAgg0
  z0 := Tryz.sizeOf0
  v0 := Tryz.zeroValue0
  t2 := Tryz.underlying2
  a2 := Tryz.isAgg2
  z2 := Tryz.sizeOf2
  v2 := Tryz.zeroValue2
  t3 := Tryz.underlying3
  a3 := Tryz.isAgg3
  z3 := Tryz.sizeOf3
  v3 := Tryz.zeroValue3
  t4 := Tryz.underlying4
  a4 := Tryz.isAgg4
  z4 := Tryz.sizeOf4
  v4 := Tryz.zeroValue4
  t5 := Tryz.underlying5
  a5 := Tryz.isAgg5
  z5 := Tryz.sizeOf5
  v5 := Tryz.zeroValue5
  t9 := Tryz.underlying9
  a9 := Tryz.isAgg9
  z9 := Tryz.sizeOf9
  v9 := Tryz.zeroValue9
  t21 := Tryz.underlying21
  a21 := Tryz.isAgg21
  z21 := Tryz.sizeOf21
  v21 := Tryz.zeroValue21
  t37 := Tryz.underlying37
  a37 := Tryz.isAgg37
  z37 := Tryz.sizeOf37
  v37 := Tryz.zeroValue37
  t46 := Tryz.underlying41
  a46 := Tryz.isAgg41
  z46 := Tryz.sizeOf41
  v46 := Tryz.zeroValue41
  t53 := Tryz.underlying112
  a53 := Tryz.isAgg112
  z53 := Tryz.sizeOf112
  v53 := Tryz.zeroValue112
  t75 := Tryz.underlying68
  a75 := Tryz.isAgg68
  z75 := Tryz.sizeOf68
  v75 := Tryz.zeroValue68
  t85 := Tryz.underlying98
  a85 := Tryz.isAgg98
  z85 := Tryz.sizeOf98
  v85 := Tryz.zeroValue98
  t167 := Tryz.underlying97
  a167 := Tryz.isAgg97
  z167 := Tryz.sizeOf97
  v167 := Tryz.zeroValue97
  t175 := Tryz.underlying113
  a175 := Tryz.isAgg113
  z175 := Tryz.sizeOf113
  v175 := Tryz.zeroValue113 }
open Go.RowKit in
/-- internal/strconv.Atoi, at a decimal numeral of at most 18 bytes: ITS VALUE, AND NO ERROR. The world behind the call: the one new row that '[]byte(s)' lays. (LAID: no walk: one application.) -/
theorem Tryz.internal_strconv_Atoi (s : ByteArray) (n : Int) (hl : s.size ≤ 18) (h : Lib.atoi s.data.toList = some n) (w : World) :
    Calls Tryz.prog 62 #[.string s] w fun e w' => e = .returned (.tuple #[.int .i64 n, .nilIface]) ∧ ∃ t, w' = Lib.bytesWorld w 5 t := Any.internal_strconv_Atoi Tryz.lays244 s n hl h w
def Tryz.lays172_ren : Go.Shelf.Ren := ⟨fun | 172 => 40 | 244 => 62 | 245 => 63 | 247 => 82 | 279 => 83 | 280 => 84 | 281 => 85 | 282 => 86 | 287 => 101 | 316 => 102 | 171 => 41 | 205 => 103 | 321 => 119 | 322 => 120 | 243 => 64 | 246 => 87 | 283 => 104 | 284 => 105 | 285 => 106 | 286 => 107 | 129 => 122 | 317 => 121 | 318 => 123 | 319 => 124 | 320 => 125 | 337 => 135 | 338 => 136 | n => n, fun | 9 => 9 | 3 => 3 | 75 => 68 | 76 => 69 | 4 => 4 | 5 => 5 | 167 => 97 | 37 => 37 | 0 => 0 | 85 => 98 | 2 => 2 | 168 => 100 | 53 => 112 | 175 => 113 | 46 => 41 | 210 => 116 | 127 => 135 | 145 => 138 | 143 => 136 | 21 => 21 | 171 => 118 | 173 => 121 | 212 => 141 | 51 => 142 | 20 => 20 | 213 => 143 | 232 => 156 | 233 => 157 | 80 => 130 | n => n, fun | 15 => 3 | 16 => 4 | 17 => 5 | 18 => 9 | 19 => 10 | n => n⟩
theorem Tryz.lays172 : Go.Proofs.Lays.n172 Tryz.prog Tryz.lays172_ren := {
  mixed := by kernel_rfl
  f129 := Tryz.func122.trans (congrArg some (by kernel_rfl))
  f171 := Tryz.func41.trans (congrArg some (by kernel_rfl))
  f172 := Tryz.func40.trans (congrArg some (by kernel_rfl))
  f205 := Tryz.func103.trans (congrArg some (by kernel_rfl))
  f243 := Tryz.func64.trans (congrArg some (by kernel_rfl))
  f244 := Tryz.func62.trans (congrArg some (by kernel_rfl))
  f245 := Tryz.func63.trans (congrArg some (by kernel_rfl))
  f246 := Tryz.func87.trans (congrArg some (by kernel_rfl))
  f247 := Tryz.func82.trans (congrArg some (by kernel_rfl))
  f279 := Tryz.func83.trans (congrArg some (by kernel_rfl))
  f280 := Tryz.func84.trans (congrArg some (by kernel_rfl))
  f281 := Tryz.func85.trans (congrArg some (by kernel_rfl))
  f282 := Tryz.func86.trans (congrArg some (by kernel_rfl))
  f283 := Tryz.func104.trans (congrArg some (by kernel_rfl))
  f284 := Tryz.func105.trans (congrArg some (by kernel_rfl))
  f285 := Tryz.func106.trans (congrArg some (by kernel_rfl))
  f286 := Tryz.func107.trans (congrArg some (by kernel_rfl))
  f287 := Tryz.func101.trans (congrArg some (by kernel_rfl))
  f316 := Tryz.func102.trans (congrArg some (by kernel_rfl))
  f317 := Tryz.func121.trans (congrArg some (by kernel_rfl))
  f318 := Tryz.func123.trans (congrArg some (by kernel_rfl))
  f319 := Tryz.func124.trans (congrArg some (by kernel_rfl))
  f320 := Tryz.func125.trans (congrArg some (by kernel_rfl))
  f321 := Tryz.func119.trans (congrArg some (by kernel_rfl))
  f322 := Tryz.func120.trans (congrArg some (by kernel_rfl))
  f337 := Tryz.func135.trans (congrArg some (by kernel_rfl))
  f338 := Tryz.func136.trans (congrArg some (by kernel_rfl))
  t0 := Tryz.underlying0
  a0 := Tryz.isAgg0
  z0 := Tryz.sizeOf0
  v0 := Tryz.zeroValue0
  t2 := Tryz.underlying2
  a2 := Tryz.isAgg2
  z2 := Tryz.sizeOf2
  v2 := Tryz.zeroValue2
  t3 := Tryz.underlying3
  a3 := Tryz.isAgg3
  z3 := Tryz.sizeOf3
  v3 := Tryz.zeroValue3
  t4 := Tryz.underlying4
  a4 := Tryz.isAgg4
  z4 := Tryz.sizeOf4
  v4 := Tryz.zeroValue4
  t5 := Tryz.underlying5
  a5 := Tryz.isAgg5
  z5 := Tryz.sizeOf5
  v5 := Tryz.zeroValue5
  t9 := Tryz.underlying9
  a9 := Tryz.isAgg9
  z9 := Tryz.sizeOf9
  v9 := Tryz.zeroValue9
  t20 := Tryz.underlying20
  a20 := Tryz.isAgg20
  z20 := Tryz.sizeOf20
  v20 := Tryz.zeroValue20
  t21 := Tryz.underlying21
  a21 := Tryz.isAgg21
  z21 := Tryz.sizeOf21
  v21 := Tryz.zeroValue21
  t37 := Tryz.underlying37
  a37 := Tryz.isAgg37
  z37 := Tryz.sizeOf37
  v37 := Tryz.zeroValue37
  t46 := Tryz.underlying41
  a46 := Tryz.isAgg41
  z46 := Tryz.sizeOf41
  v46 := Tryz.zeroValue41
  t51 := Tryz.underlying142
  a51 := Tryz.isAgg142
  z51 := Tryz.sizeOf142
  v51 := Tryz.zeroValue142
  t53 := Tryz.underlying112
  a53 := Tryz.isAgg112
  z53 := Tryz.sizeOf112
  v53 := Tryz.zeroValue112
  t75 := Tryz.underlying68
  a75 := Tryz.isAgg68
  z75 := Tryz.sizeOf68
  v75 := Tryz.zeroValue68
  t76 := Tryz.underlying69
  a76 := Tryz.isAgg69
  z76 := Tryz.sizeOf69
  v76 := Tryz.zeroValue69
  t85 := Tryz.underlying98
  a85 := Tryz.isAgg98
  z85 := Tryz.sizeOf98
  v85 := Tryz.zeroValue98
  t127 := Tryz.underlying135
  a127 := Tryz.isAgg135
  z127 := Tryz.sizeOf135
  v127 := Tryz.zeroValue135
  t143 := Tryz.underlying136
  a143 := Tryz.isAgg136
  z143 := Tryz.sizeOf136
  v143 := Tryz.zeroValue136
  t145 := Tryz.underlying138
  a145 := Tryz.isAgg138
  z145 := Tryz.sizeOf138
  v145 := Tryz.zeroValue138
  t167 := Tryz.underlying97
  a167 := Tryz.isAgg97
  z167 := Tryz.sizeOf97
  v167 := Tryz.zeroValue97
  t168 := Tryz.underlying100
  a168 := Tryz.isAgg100
  z168 := Tryz.sizeOf100
  v168 := Tryz.zeroValue100
  t171 := Tryz.underlying118
  a171 := Tryz.isAgg118
  z171 := Tryz.sizeOf118
  v171 := Tryz.zeroValue118
  t173 := Tryz.underlying121
  a173 := Tryz.isAgg121
  z173 := Tryz.sizeOf121
  v173 := Tryz.zeroValue121
  t175 := Tryz.underlying113
  a175 := Tryz.isAgg113
  z175 := Tryz.sizeOf113
  v175 := Tryz.zeroValue113
  t210 := Tryz.underlying116
  a210 := Tryz.isAgg116
  z210 := Tryz.sizeOf116
  v210 := Tryz.zeroValue116
  t212 := Tryz.underlying141
  a212 := Tryz.isAgg141
  z212 := Tryz.sizeOf141
  v212 := Tryz.zeroValue141
  t213 := Tryz.underlying143
  a213 := Tryz.isAgg143
  z213 := Tryz.sizeOf143
  t232 := Tryz.underlying156
  a232 := Tryz.isAgg156
  z232 := Tryz.sizeOf156
  v232 := Tryz.zeroValue156
  t233 := Tryz.underlying157
  a233 := Tryz.isAgg157
  z233 := Tryz.sizeOf157
  v233 := Tryz.zeroValue157
  g15 := by kernel_rfl
  g16 := by kernel_rfl
  g17 := by kernel_rfl
  g18 := by kernel_rfl
  g19 := by kernel_rfl }
open Go.RowKit in
/-- strconv.Atoi: "Atoi is equivalent to ParseInt(s, 10, 0), converted to type int.": AT A DECIMAL NUMERAL OF AT MOST 18 BYTES: its value, and a nil error. The world behind the call: the one new row that the library's '[]byte(s)' lays. (LAID: no walk: one application.) -/
theorem Tryz.strconv_Atoi (s : ByteArray) (n : Int) (hl : s.size ≤ 18) (h : Lib.atoi s.data.toList = some n) (w : World) :
    Calls Tryz.prog 40 #[.string s] w fun e w' => e = .returned (.tuple #[.int .i64 n, .nilIface]) ∧ ∃ t, w' = Lib.bytesWorld w 5 t := Any.strconv_Atoi Tryz.lays172 s n hl h w
def Tryz.lays129_ren : Go.Shelf.Ren := ⟨fun | 129 => 122 | n => n, fun | 53 => 112 | 3 => 3 | 4 => 4 | 46 => 41 | 5 => 5 | 9 => 9 | n => n, fun | n => n⟩
theorem Tryz.lays129 : Go.Proofs.Lays.n129 Tryz.prog Tryz.lays129_ren := {
  mixed := by kernel_rfl
  f129 := Tryz.func122.trans (congrArg some (by kernel_rfl))
  t3 := Tryz.underlying3
  a3 := Tryz.isAgg3
  z3 := Tryz.sizeOf3
  v3 := Tryz.zeroValue3
  t4 := Tryz.underlying4
  a4 := Tryz.isAgg4
  z4 := Tryz.sizeOf4
  v4 := Tryz.zeroValue4
  t5 := Tryz.underlying5
  a5 := Tryz.isAgg5
  z5 := Tryz.sizeOf5
  v5 := Tryz.zeroValue5
  t9 := Tryz.underlying9
  a9 := Tryz.isAgg9
  z9 := Tryz.sizeOf9
  v9 := Tryz.zeroValue9
  t46 := Tryz.underlying41
  a46 := Tryz.isAgg41
  z46 := Tryz.sizeOf41
  v46 := Tryz.zeroValue41
  t53 := Tryz.underlying112
  a53 := Tryz.isAgg112
  z53 := Tryz.sizeOf112
  v53 := Tryz.zeroValue112 }
/-- bits.Len64: "Len64 returns the minimum number of bits required to represent x; the result is 0 for x == 0.": IT RETURNS 'Lib.bitLen x'; the world is as it was. ('h0', 'h1': x is a uint64.) (LAID: no walk: one application.) -/
theorem Tryz.bits_Len64 (x : Int) (w : World) (h0 : 0 ≤ x) (h1 : x ≤ 18446744073709551615) :
    Calls Tryz.prog 122 #[.int .u64 x] w fun e w' => e = .returned (.int .i64 (Lib.bitLen x.toNat)) ∧ w' = w := Any.bits_Len64 Tryz.lays129 x w h0 h1
def Tryz.lays317_ren : Go.Shelf.Ren := ⟨fun | 317 => 121 | n => n, fun | 3 => 3 | 46 => 41 | n => n, fun | n => n⟩
theorem Tryz.lays317 : Go.Proofs.Lays.n317 Tryz.prog Tryz.lays317_ren := {
  mixed := by kernel_rfl
  f317 := Tryz.func121.trans (congrArg some (by kernel_rfl))
  t3 := Tryz.underlying3
  a3 := Tryz.isAgg3
  z3 := Tryz.sizeOf3
  v3 := Tryz.zeroValue3
  t46 := Tryz.underlying41
  a46 := Tryz.isAgg41
  z46 := Tryz.sizeOf41
  v46 := Tryz.zeroValue41 }
open Go.Lib in
/-- internal/strconv.log10Pow2: "log10Pow2(x) returns ⌊log₁₀ 2**x⌋ = ⌊x * log₁₀ 2⌋.": '(x * 78913) >> 18', at an x up to 64 (a length in bits). The world is as it was. (LAID: no walk: one application.) -/
theorem Tryz.internal_strconv_log10Pow2 (x : Nat) (h : x ≤ 64) (w : World) :
    Calls Tryz.prog 121 #[.int .i64 x] w fun e w' => e = .returned (.int .i64 (Lib.l10 x)) ∧ w' = w := Any.internal_strconv_log10Pow2 Tryz.lays317 x h w
def Tryz.lays318_ren : Go.Shelf.Ren := ⟨fun | 318 => 123 | n => n, fun | 3 => 3 | 4 => 4 | n => n, fun | n => n⟩
theorem Tryz.lays318 : Go.Proofs.Lays.n318 Tryz.prog Tryz.lays318_ren := {
  mixed := by kernel_rfl
  f318 := Tryz.func123.trans (congrArg some (by kernel_rfl))
  t3 := Tryz.underlying3
  a3 := Tryz.isAgg3
  z3 := Tryz.sizeOf3
  v3 := Tryz.zeroValue3
  t4 := Tryz.underlying4
  a4 := Tryz.isAgg4
  z4 := Tryz.sizeOf4
  v4 := Tryz.zeroValue4 }
open Go.Lib in
/-- internal/strconv.bool2: "bool2 converts b to an integer: 1 for true, 0 for false." The world is as it was. (LAID: no walk: one application.) -/
theorem Tryz.internal_strconv_bool2_int (b : Bool) (w : World) :
    Calls Tryz.prog 123 #[.bool b] w fun e w' => e = .returned (.int .i64 (if b then 1 else 0)) ∧ w' = w := Any.internal_strconv_bool2_int Tryz.lays318 b w
def Tryz.lays283_ren : Go.Shelf.Ren := ⟨fun | 283 => 104 | n => n, fun | 3 => 3 | 9 => 9 | 4 => 4 | n => n, fun | n => n⟩
theorem Tryz.lays283 : Go.Proofs.Lays.n283 Tryz.prog Tryz.lays283_ren := {
  mixed := by kernel_rfl
  f283 := Tryz.func104.trans (congrArg some (by kernel_rfl))
  t3 := Tryz.underlying3
  a3 := Tryz.isAgg3
  z3 := Tryz.sizeOf3
  v3 := Tryz.zeroValue3
  t4 := Tryz.underlying4
  a4 := Tryz.isAgg4
  z4 := Tryz.sizeOf4
  v4 := Tryz.zeroValue4
  t9 := Tryz.underlying9
  a9 := Tryz.isAgg9
  z9 := Tryz.sizeOf9
  v9 := Tryz.zeroValue9 }
open Go.Lib in
/-- internal/strconv.small: "small returns the string for an i with 0 <= i < nSmalls.": i's decimal numeral. The world is as it was. (LAID: no walk: one application.) -/
theorem Tryz.internal_strconv_small (i : Nat) (h : i < 100) (w : World) :
    Calls Tryz.prog 104 #[.int .i64 i] w fun e w' => e = .returned (.string ⟨(Lib.decDigits i).toArray⟩) ∧ w' = w := Any.internal_strconv_small Tryz.lays283 i h w
def Tryz.laysM284_ren : Go.Shelf.Ren := ⟨fun | 284 => 105 | 129 => 122 | 317 => 121 | 318 => 123 | n => n, fun | 53 => 112 | 3 => 3 | 212 => 141 | 0 => 0 | 4 => 4 | 46 => 41 | 5 => 5 | 9 => 9 | n => n, fun | 17 => 5 | n => n⟩
theorem Tryz.laysM284 : Go.Proofs.LaysM.n284 Tryz.prog Tryz.laysM284_ren := {
  mixed := by kernel_rfl
  f129 := Tryz.func122.trans (congrArg some (by kernel_rfl))
  f284 := Tryz.func105.trans (congrArg some (by kernel_rfl))
  f317 := Tryz.func121.trans (congrArg some (by kernel_rfl))
  f318 := Tryz.func123.trans (congrArg some (by kernel_rfl))
  t0 := Tryz.underlying0
  a0 := Tryz.isAgg0
  z0 := Tryz.sizeOf0
  v0 := Tryz.zeroValue0
  t3 := Tryz.underlying3
  a3 := Tryz.isAgg3
  z3 := Tryz.sizeOf3
  v3 := Tryz.zeroValue3
  t4 := Tryz.underlying4
  a4 := Tryz.isAgg4
  z4 := Tryz.sizeOf4
  v4 := Tryz.zeroValue4
  t5 := Tryz.underlying5
  a5 := Tryz.isAgg5
  z5 := Tryz.sizeOf5
  v5 := Tryz.zeroValue5
  t9 := Tryz.underlying9
  a9 := Tryz.isAgg9
  z9 := Tryz.sizeOf9
  v9 := Tryz.zeroValue9
  t46 := Tryz.underlying41
  a46 := Tryz.isAgg41
  z46 := Tryz.sizeOf41
  v46 := Tryz.zeroValue41
  t53 := Tryz.underlying112
  a53 := Tryz.isAgg112
  z53 := Tryz.sizeOf112
  v53 := Tryz.zeroValue112
  t212 := Tryz.underlying141
  a212 := Tryz.isAgg141
  z212 := Tryz.sizeOf141
  v212 := Tryz.zeroValue141
  g17 := by kernel_rfl
  i0 := by kernel_rfl
  i3 := by kernel_rfl
  i4 := by kernel_rfl
  i5 := by kernel_rfl
  i9 := by kernel_rfl
  i46 := by kernel_rfl
  i53 := by kernel_rfl
  i212 := by kernel_rfl
  m17 := by kernel_rfl }
open Go.Lib in
/-- internal/strconv.numDigits, at a d that is not 0: THE NUMBER OF d's DECIMAL DIGITS. The world is as it was. (LAID: no walk: one application.) -/
theorem Tryz.internal_strconv_numDigits (u : Nat) (h1 : 1 ≤ u) (h2 : u < 18446744073709551616) (w : World) (htab : Lib.TabIs Tryz.prog w "internal/strconv.uint64pow10" .u64 Lib.pow10Tab) :
    Calls Tryz.prog 105 #[.int .u64 u] w fun e w' => e = .returned (.int .i64 (Lib.nDigits u)) ∧ w' = w := Any.internal_strconv_numDigits Tryz.laysM284 u h1 h2 w htab
def Tryz.lays285_ren : Go.Shelf.Ren := ⟨fun | 285 => 106 | n => n, fun | 37 => 37 | 53 => 112 | 3 => 3 | 4 => 4 | 51 => 142 | 9 => 9 | 5 => 5 | 0 => 0 | n => n, fun | n => n⟩
theorem Tryz.lays285 : Go.Proofs.Lays.n285 Tryz.prog Tryz.lays285_ren := {
  mixed := by kernel_rfl
  f285 := Tryz.func106.trans (congrArg some (by kernel_rfl))
  t0 := Tryz.underlying0
  a0 := Tryz.isAgg0
  z0 := Tryz.sizeOf0
  v0 := Tryz.zeroValue0
  t3 := Tryz.underlying3
  a3 := Tryz.isAgg3
  z3 := Tryz.sizeOf3
  v3 := Tryz.zeroValue3
  t4 := Tryz.underlying4
  a4 := Tryz.isAgg4
  z4 := Tryz.sizeOf4
  v4 := Tryz.zeroValue4
  t5 := Tryz.underlying5
  a5 := Tryz.isAgg5
  z5 := Tryz.sizeOf5
  v5 := Tryz.zeroValue5
  t9 := Tryz.underlying9
  a9 := Tryz.isAgg9
  z9 := Tryz.sizeOf9
  v9 := Tryz.zeroValue9
  t37 := Tryz.underlying37
  a37 := Tryz.isAgg37
  z37 := Tryz.sizeOf37
  v37 := Tryz.zeroValue37
  t51 := Tryz.underlying142
  a51 := Tryz.isAgg142
  z51 := Tryz.sizeOf142
  v51 := Tryz.zeroValue142
  t53 := Tryz.underlying112
  a53 := Tryz.isAgg112
  z53 := Tryz.sizeOf112
  v53 := Tryz.zeroValue112 }
open Go.RowKit Go.Sort Go.Lib in
/-- internal/strconv.formatBase10: "formatBase10 formats the decimal representation of u into a. The caller is responsible for ensuring that a is big enough to hold u. If a is too big, leading zeros will be filled in as needed.": THE ROW HOLDS u's DIGITS ('FmtInv .. 0 ..': every place t holds 'dg u (len - 1 - t)'); all else is as it was but for the count of draws. (LAID: no walk: one application.) -/
theorem Tryz.internal_strconv_formatBase10 (blk off cap : Nat) (u : Nat) (d : Array UInt8) (w : World) (hH : Holds (fun (b : UInt8) => Value.int .u8 (b.toNat : Int)) w blk off d) (hu : u < 10 ^ d.size) (hu64 : u < 18446744073709551616) (hsz : d.size < 4611686018427387904) :
    Calls Tryz.prog 106 #[.slice (some ⟨blk, off, none⟩) d.size cap, .int .u64 u] w fun e w' =>
      e = .returned (.tuple #[]) ∧ ∃ (n v' : Nat) (dk : Array UInt8), w' = (putRow (fun (b : UInt8) => Value.int .u8 (b.toNat : Int)) w blk off dk).drewN n ∧ FmtInv d.size u 0 v' dk := Any.internal_strconv_formatBase10 Tryz.lays285 blk off cap u d w hH hu hu64 hsz
def Tryz.laysM246_ren : Go.Shelf.Ren := ⟨fun | 246 => 87 | 283 => 104 | 284 => 105 | 285 => 106 | 286 => 107 | 129 => 122 | 317 => 121 | 318 => 123 | 319 => 124 | 320 => 125 | 337 => 135 | 338 => 136 | n => n, fun | 2 => 2 | 3 => 3 | 9 => 9 | 4 => 4 | 171 => 118 | 0 => 0 | 53 => 112 | 37 => 37 | 5 => 5 | 173 => 121 | 212 => 141 | 51 => 142 | 20 => 20 | 213 => 143 | 46 => 41 | 232 => 156 | 233 => 157 | n => n, fun | 17 => 5 | 18 => 9 | 19 => 10 | n => n⟩
theorem Tryz.laysM246 : Go.Proofs.LaysM.n246 Tryz.prog Tryz.laysM246_ren := {
  mixed := by kernel_rfl
  f129 := Tryz.func122.trans (congrArg some (by kernel_rfl))
  f246 := Tryz.func87.trans (congrArg some (by kernel_rfl))
  f283 := Tryz.func104.trans (congrArg some (by kernel_rfl))
  f284 := Tryz.func105.trans (congrArg some (by kernel_rfl))
  f285 := Tryz.func106.trans (congrArg some (by kernel_rfl))
  f286 := Tryz.func107.trans (congrArg some (by kernel_rfl))
  f317 := Tryz.func121.trans (congrArg some (by kernel_rfl))
  f318 := Tryz.func123.trans (congrArg some (by kernel_rfl))
  f319 := Tryz.func124.trans (congrArg some (by kernel_rfl))
  f320 := Tryz.func125.trans (congrArg some (by kernel_rfl))
  f337 := Tryz.func135.trans (congrArg some (by kernel_rfl))
  f338 := Tryz.func136.trans (congrArg some (by kernel_rfl))
  t0 := Tryz.underlying0
  a0 := Tryz.isAgg0
  z0 := Tryz.sizeOf0
  v0 := Tryz.zeroValue0
  t2 := Tryz.underlying2
  a2 := Tryz.isAgg2
  z2 := Tryz.sizeOf2
  v2 := Tryz.zeroValue2
  t3 := Tryz.underlying3
  a3 := Tryz.isAgg3
  z3 := Tryz.sizeOf3
  v3 := Tryz.zeroValue3
  t4 := Tryz.underlying4
  a4 := Tryz.isAgg4
  z4 := Tryz.sizeOf4
  v4 := Tryz.zeroValue4
  t5 := Tryz.underlying5
  a5 := Tryz.isAgg5
  z5 := Tryz.sizeOf5
  v5 := Tryz.zeroValue5
  t9 := Tryz.underlying9
  a9 := Tryz.isAgg9
  z9 := Tryz.sizeOf9
  v9 := Tryz.zeroValue9
  t20 := Tryz.underlying20
  a20 := Tryz.isAgg20
  z20 := Tryz.sizeOf20
  v20 := Tryz.zeroValue20
  t37 := Tryz.underlying37
  a37 := Tryz.isAgg37
  z37 := Tryz.sizeOf37
  v37 := Tryz.zeroValue37
  t46 := Tryz.underlying41
  a46 := Tryz.isAgg41
  z46 := Tryz.sizeOf41
  v46 := Tryz.zeroValue41
  t51 := Tryz.underlying142
  a51 := Tryz.isAgg142
  z51 := Tryz.sizeOf142
  v51 := Tryz.zeroValue142
  t53 := Tryz.underlying112
  a53 := Tryz.isAgg112
  z53 := Tryz.sizeOf112
  v53 := Tryz.zeroValue112
  t171 := Tryz.underlying118
  a171 := Tryz.isAgg118
  z171 := Tryz.sizeOf118
  v171 := Tryz.zeroValue118
  t173 := Tryz.underlying121
  a173 := Tryz.isAgg121
  z173 := Tryz.sizeOf121
  v173 := Tryz.zeroValue121
  t212 := Tryz.underlying141
  a212 := Tryz.isAgg141
  z212 := Tryz.sizeOf141
  v212 := Tryz.zeroValue141
  t213 := Tryz.underlying143
  a213 := Tryz.isAgg143
  z213 := Tryz.sizeOf143
  t232 := Tryz.underlying156
  a232 := Tryz.isAgg156
  z232 := Tryz.sizeOf156
  v232 := Tryz.zeroValue156
  t233 := Tryz.underlying157
  a233 := Tryz.isAgg157
  z233 := Tryz.sizeOf157
  v233 := Tryz.zeroValue157
  g17 := by kernel_rfl
  g18 := by kernel_rfl
  g19 := by kernel_rfl
  i0 := by kernel_rfl
  i2 := by kernel_rfl
  i3 := by kernel_rfl
  i4 := by kernel_rfl
  i5 := by kernel_rfl
  i9 := by kernel_rfl
  i20 := by kernel_rfl
  i37 := by kernel_rfl
  i46 := by kernel_rfl
  i51 := by kernel_rfl
  i53 := by kernel_rfl
  i171 := by kernel_rfl
  i173 := by kernel_rfl
  i212 := by kernel_rfl
  i232 := by kernel_rfl
  i233 := by kernel_rfl
  m17 := by kernel_rfl
  m18 := by kernel_rfl
  m19 := by kernel_rfl }
open Go.RowKit Go.Sort Go.Lib in
/-- internal/strconv.FormatInt: "FormatInt returns the string representation of i in the given base": AT BASE 10: i's decimal numeral, for every int64. The world behind the call: the world before it, new blocks behind the heap, draws. (LAID: no walk: one application.) -/
theorem Tryz.internal_strconv_FormatInt_10 (n : Int) (h0 : -9223372036854775808 ≤ n) (h1 : n ≤ 9223372036854775807) (w : World) (htab : Lib.TabIs Tryz.prog w "internal/strconv.uint64pow10" .u64 Lib.pow10Tab) :
    Calls Tryz.prog 87 #[.int .i64 n, .int .i64 10] w fun e w' => e = .returned (.string ⟨(Lib.itoa n).toArray⟩) ∧ ∃ k os, w' = grow (w.drewN k) os := Any.internal_strconv_FormatInt_10 Tryz.laysM246 n h0 h1 w htab
def Tryz.lays246_ren : Go.Shelf.Ren := ⟨fun | 246 => 87 | 283 => 104 | 284 => 105 | 285 => 106 | 286 => 107 | 129 => 122 | 317 => 121 | 318 => 123 | 319 => 124 | 320 => 125 | 337 => 135 | 338 => 136 | n => n, fun | 2 => 2 | 3 => 3 | 9 => 9 | 4 => 4 | 171 => 118 | 0 => 0 | 53 => 112 | 37 => 37 | 5 => 5 | 173 => 121 | 212 => 141 | 51 => 142 | 20 => 20 | 213 => 143 | 46 => 41 | 232 => 156 | 233 => 157 | n => n, fun | 17 => 5 | 18 => 9 | 19 => 10 | n => n⟩
theorem Tryz.lays246 : Go.Proofs.Lays.n246 Tryz.prog Tryz.lays246_ren := {
  mixed := by kernel_rfl
  f129 := Tryz.func122.trans (congrArg some (by kernel_rfl))
  f246 := Tryz.func87.trans (congrArg some (by kernel_rfl))
  f283 := Tryz.func104.trans (congrArg some (by kernel_rfl))
  f284 := Tryz.func105.trans (congrArg some (by kernel_rfl))
  f285 := Tryz.func106.trans (congrArg some (by kernel_rfl))
  f286 := Tryz.func107.trans (congrArg some (by kernel_rfl))
  f317 := Tryz.func121.trans (congrArg some (by kernel_rfl))
  f318 := Tryz.func123.trans (congrArg some (by kernel_rfl))
  f319 := Tryz.func124.trans (congrArg some (by kernel_rfl))
  f320 := Tryz.func125.trans (congrArg some (by kernel_rfl))
  f337 := Tryz.func135.trans (congrArg some (by kernel_rfl))
  f338 := Tryz.func136.trans (congrArg some (by kernel_rfl))
  t0 := Tryz.underlying0
  a0 := Tryz.isAgg0
  z0 := Tryz.sizeOf0
  v0 := Tryz.zeroValue0
  t2 := Tryz.underlying2
  a2 := Tryz.isAgg2
  z2 := Tryz.sizeOf2
  v2 := Tryz.zeroValue2
  t3 := Tryz.underlying3
  a3 := Tryz.isAgg3
  z3 := Tryz.sizeOf3
  v3 := Tryz.zeroValue3
  t4 := Tryz.underlying4
  a4 := Tryz.isAgg4
  z4 := Tryz.sizeOf4
  v4 := Tryz.zeroValue4
  t5 := Tryz.underlying5
  a5 := Tryz.isAgg5
  z5 := Tryz.sizeOf5
  v5 := Tryz.zeroValue5
  t9 := Tryz.underlying9
  a9 := Tryz.isAgg9
  z9 := Tryz.sizeOf9
  v9 := Tryz.zeroValue9
  t20 := Tryz.underlying20
  a20 := Tryz.isAgg20
  z20 := Tryz.sizeOf20
  v20 := Tryz.zeroValue20
  t37 := Tryz.underlying37
  a37 := Tryz.isAgg37
  z37 := Tryz.sizeOf37
  v37 := Tryz.zeroValue37
  t46 := Tryz.underlying41
  a46 := Tryz.isAgg41
  z46 := Tryz.sizeOf41
  v46 := Tryz.zeroValue41
  t51 := Tryz.underlying142
  a51 := Tryz.isAgg142
  z51 := Tryz.sizeOf142
  v51 := Tryz.zeroValue142
  t53 := Tryz.underlying112
  a53 := Tryz.isAgg112
  z53 := Tryz.sizeOf112
  v53 := Tryz.zeroValue112
  t171 := Tryz.underlying118
  a171 := Tryz.isAgg118
  z171 := Tryz.sizeOf118
  v171 := Tryz.zeroValue118
  t173 := Tryz.underlying121
  a173 := Tryz.isAgg121
  z173 := Tryz.sizeOf121
  v173 := Tryz.zeroValue121
  t212 := Tryz.underlying141
  a212 := Tryz.isAgg141
  z212 := Tryz.sizeOf141
  v212 := Tryz.zeroValue141
  t213 := Tryz.underlying143
  a213 := Tryz.isAgg143
  z213 := Tryz.sizeOf143
  t232 := Tryz.underlying156
  a232 := Tryz.isAgg156
  z232 := Tryz.sizeOf156
  v232 := Tryz.zeroValue156
  t233 := Tryz.underlying157
  a233 := Tryz.isAgg157
  z233 := Tryz.sizeOf157
  v233 := Tryz.zeroValue157
  g17 := by kernel_rfl
  g18 := by kernel_rfl
  g19 := by kernel_rfl }
open Go.RowKit Go.Sort Go.Lib in
/-- THE ROAD WITHOUT THE TABLE: 0 <= i < 100: two constants are read, nothing is laid: no premise on the world, and the world is as it was. (LAID: no walk: one application.) -/
theorem Tryz.internal_strconv_FormatInt_10_small (i : Nat) (hi : i < 100) (w : World) :
    Calls Tryz.prog 87 #[.int .i64 i, .int .i64 10] w fun e w' => e = .returned (.string ⟨(Lib.decDigits i).toArray⟩) ∧ w' = w := Any.internal_strconv_FormatInt_10_small Tryz.lays246 i hi w
def Tryz.laysM243_ren : Go.Shelf.Ren := ⟨fun | 243 => 64 | 246 => 87 | 283 => 104 | 284 => 105 | 285 => 106 | 286 => 107 | 129 => 122 | 317 => 121 | 318 => 123 | 319 => 124 | 320 => 125 | 337 => 135 | 338 => 136 | n => n, fun | 3 => 3 | 9 => 9 | 2 => 2 | 4 => 4 | 171 => 118 | 0 => 0 | 53 => 112 | 37 => 37 | 5 => 5 | 173 => 121 | 212 => 141 | 51 => 142 | 20 => 20 | 213 => 143 | 46 => 41 | 232 => 156 | 233 => 157 | n => n, fun | 17 => 5 | 18 => 9 | 19 => 10 | n => n⟩
theorem Tryz.laysM243 : Go.Proofs.LaysM.n243 Tryz.prog Tryz.laysM243_ren := {
  mixed := by kernel_rfl
  f129 := Tryz.func122.trans (congrArg some (by kernel_rfl))
  f243 := Tryz.func64.trans (congrArg some (by kernel_rfl))
  f246 := Tryz.func87.trans (congrArg some (by kernel_rfl))
  f283 := Tryz.func104.trans (congrArg some (by kernel_rfl))
  f284 := Tryz.func105.trans (congrArg some (by kernel_rfl))
  f285 := Tryz.func106.trans (congrArg some (by kernel_rfl))
  f286 := Tryz.func107.trans (congrArg some (by kernel_rfl))
  f317 := Tryz.func121.trans (congrArg some (by kernel_rfl))
  f318 := Tryz.func123.trans (congrArg some (by kernel_rfl))
  f319 := Tryz.func124.trans (congrArg some (by kernel_rfl))
  f320 := Tryz.func125.trans (congrArg some (by kernel_rfl))
  f337 := Tryz.func135.trans (congrArg some (by kernel_rfl))
  f338 := Tryz.func136.trans (congrArg some (by kernel_rfl))
  t0 := Tryz.underlying0
  a0 := Tryz.isAgg0
  z0 := Tryz.sizeOf0
  v0 := Tryz.zeroValue0
  t2 := Tryz.underlying2
  a2 := Tryz.isAgg2
  z2 := Tryz.sizeOf2
  v2 := Tryz.zeroValue2
  t3 := Tryz.underlying3
  a3 := Tryz.isAgg3
  z3 := Tryz.sizeOf3
  v3 := Tryz.zeroValue3
  t4 := Tryz.underlying4
  a4 := Tryz.isAgg4
  z4 := Tryz.sizeOf4
  v4 := Tryz.zeroValue4
  t5 := Tryz.underlying5
  a5 := Tryz.isAgg5
  z5 := Tryz.sizeOf5
  v5 := Tryz.zeroValue5
  t9 := Tryz.underlying9
  a9 := Tryz.isAgg9
  z9 := Tryz.sizeOf9
  v9 := Tryz.zeroValue9
  t20 := Tryz.underlying20
  a20 := Tryz.isAgg20
  z20 := Tryz.sizeOf20
  v20 := Tryz.zeroValue20
  t37 := Tryz.underlying37
  a37 := Tryz.isAgg37
  z37 := Tryz.sizeOf37
  v37 := Tryz.zeroValue37
  t46 := Tryz.underlying41
  a46 := Tryz.isAgg41
  z46 := Tryz.sizeOf41
  v46 := Tryz.zeroValue41
  t51 := Tryz.underlying142
  a51 := Tryz.isAgg142
  z51 := Tryz.sizeOf142
  v51 := Tryz.zeroValue142
  t53 := Tryz.underlying112
  a53 := Tryz.isAgg112
  z53 := Tryz.sizeOf112
  v53 := Tryz.zeroValue112
  t171 := Tryz.underlying118
  a171 := Tryz.isAgg118
  z171 := Tryz.sizeOf118
  v171 := Tryz.zeroValue118
  t173 := Tryz.underlying121
  a173 := Tryz.isAgg121
  z173 := Tryz.sizeOf121
  v173 := Tryz.zeroValue121
  t212 := Tryz.underlying141
  a212 := Tryz.isAgg141
  z212 := Tryz.sizeOf141
  v212 := Tryz.zeroValue141
  t213 := Tryz.underlying143
  a213 := Tryz.isAgg143
  z213 := Tryz.sizeOf143
  t232 := Tryz.underlying156
  a232 := Tryz.isAgg156
  z232 := Tryz.sizeOf156
  v232 := Tryz.zeroValue156
  t233 := Tryz.underlying157
  a233 := Tryz.isAgg157
  z233 := Tryz.sizeOf157
  v233 := Tryz.zeroValue157
  g17 := by kernel_rfl
  g18 := by kernel_rfl
  g19 := by kernel_rfl
  i0 := by kernel_rfl
  i2 := by kernel_rfl
  i3 := by kernel_rfl
  i4 := by kernel_rfl
  i5 := by kernel_rfl
  i9 := by kernel_rfl
  i20 := by kernel_rfl
  i37 := by kernel_rfl
  i46 := by kernel_rfl
  i51 := by kernel_rfl
  i53 := by kernel_rfl
  i171 := by kernel_rfl
  i173 := by kernel_rfl
  i212 := by kernel_rfl
  i232 := by kernel_rfl
  i233 := by kernel_rfl
  m17 := by kernel_rfl
  m18 := by kernel_rfl
  m19 := by kernel_rfl }
open Go.RowKit Go.Sort Go.Lib in
/-- internal/strconv.Itoa: "Itoa is equivalent to FormatInt(int64(i), 10).": i's decimal numeral, for every int. (LAID: no walk: one application.) -/
theorem Tryz.internal_strconv_Itoa (n : Int) (h0 : -9223372036854775808 ≤ n) (h1 : n ≤ 9223372036854775807) (w : World) (htab : Lib.TabIs Tryz.prog w "internal/strconv.uint64pow10" .u64 Lib.pow10Tab) :
    Calls Tryz.prog 64 #[.int .i64 n] w fun e w' => e = .returned (.string ⟨(Lib.itoa n).toArray⟩) ∧ ∃ k os, w' = grow (w.drewN k) os := Any.internal_strconv_Itoa Tryz.laysM243 n h0 h1 w htab
def Tryz.lays243_ren : Go.Shelf.Ren := ⟨fun | 243 => 64 | 246 => 87 | 283 => 104 | 284 => 105 | 285 => 106 | 286 => 107 | 129 => 122 | 317 => 121 | 318 => 123 | 319 => 124 | 320 => 125 | 337 => 135 | 338 => 136 | n => n, fun | 3 => 3 | 9 => 9 | 2 => 2 | 4 => 4 | 171 => 118 | 0 => 0 | 53 => 112 | 37 => 37 | 5 => 5 | 173 => 121 | 212 => 141 | 51 => 142 | 20 => 20 | 213 => 143 | 46 => 41 | 232 => 156 | 233 => 157 | n => n, fun | 17 => 5 | 18 => 9 | 19 => 10 | n => n⟩
theorem Tryz.lays243 : Go.Proofs.Lays.n243 Tryz.prog Tryz.lays243_ren := {
  mixed := by kernel_rfl
  f129 := Tryz.func122.trans (congrArg some (by kernel_rfl))
  f243 := Tryz.func64.trans (congrArg some (by kernel_rfl))
  f246 := Tryz.func87.trans (congrArg some (by kernel_rfl))
  f283 := Tryz.func104.trans (congrArg some (by kernel_rfl))
  f284 := Tryz.func105.trans (congrArg some (by kernel_rfl))
  f285 := Tryz.func106.trans (congrArg some (by kernel_rfl))
  f286 := Tryz.func107.trans (congrArg some (by kernel_rfl))
  f317 := Tryz.func121.trans (congrArg some (by kernel_rfl))
  f318 := Tryz.func123.trans (congrArg some (by kernel_rfl))
  f319 := Tryz.func124.trans (congrArg some (by kernel_rfl))
  f320 := Tryz.func125.trans (congrArg some (by kernel_rfl))
  f337 := Tryz.func135.trans (congrArg some (by kernel_rfl))
  f338 := Tryz.func136.trans (congrArg some (by kernel_rfl))
  t0 := Tryz.underlying0
  a0 := Tryz.isAgg0
  z0 := Tryz.sizeOf0
  v0 := Tryz.zeroValue0
  t2 := Tryz.underlying2
  a2 := Tryz.isAgg2
  z2 := Tryz.sizeOf2
  v2 := Tryz.zeroValue2
  t3 := Tryz.underlying3
  a3 := Tryz.isAgg3
  z3 := Tryz.sizeOf3
  v3 := Tryz.zeroValue3
  t4 := Tryz.underlying4
  a4 := Tryz.isAgg4
  z4 := Tryz.sizeOf4
  v4 := Tryz.zeroValue4
  t5 := Tryz.underlying5
  a5 := Tryz.isAgg5
  z5 := Tryz.sizeOf5
  v5 := Tryz.zeroValue5
  t9 := Tryz.underlying9
  a9 := Tryz.isAgg9
  z9 := Tryz.sizeOf9
  v9 := Tryz.zeroValue9
  t20 := Tryz.underlying20
  a20 := Tryz.isAgg20
  z20 := Tryz.sizeOf20
  v20 := Tryz.zeroValue20
  t37 := Tryz.underlying37
  a37 := Tryz.isAgg37
  z37 := Tryz.sizeOf37
  v37 := Tryz.zeroValue37
  t46 := Tryz.underlying41
  a46 := Tryz.isAgg41
  z46 := Tryz.sizeOf41
  v46 := Tryz.zeroValue41
  t51 := Tryz.underlying142
  a51 := Tryz.isAgg142
  z51 := Tryz.sizeOf142
  v51 := Tryz.zeroValue142
  t53 := Tryz.underlying112
  a53 := Tryz.isAgg112
  z53 := Tryz.sizeOf112
  v53 := Tryz.zeroValue112
  t171 := Tryz.underlying118
  a171 := Tryz.isAgg118
  z171 := Tryz.sizeOf118
  v171 := Tryz.zeroValue118
  t173 := Tryz.underlying121
  a173 := Tryz.isAgg121
  z173 := Tryz.sizeOf121
  v173 := Tryz.zeroValue121
  t212 := Tryz.underlying141
  a212 := Tryz.isAgg141
  z212 := Tryz.sizeOf141
  v212 := Tryz.zeroValue141
  t213 := Tryz.underlying143
  a213 := Tryz.isAgg143
  z213 := Tryz.sizeOf143
  t232 := Tryz.underlying156
  a232 := Tryz.isAgg156
  z232 := Tryz.sizeOf156
  v232 := Tryz.zeroValue156
  t233 := Tryz.underlying157
  a233 := Tryz.isAgg157
  z233 := Tryz.sizeOf157
  v233 := Tryz.zeroValue157
  g17 := by kernel_rfl
  g18 := by kernel_rfl
  g19 := by kernel_rfl }
open Go.RowKit Go.Sort Go.Lib in
/-- THE ROAD WITHOUT THE TABLE: 0 <= i < 100. (LAID: no walk: one application.) -/
theorem Tryz.internal_strconv_Itoa_small (i : Nat) (hi : i < 100) (w : World) :
    Calls Tryz.prog 64 #[.int .i64 i] w fun e w' => e = .returned (.string ⟨(Lib.decDigits i).toArray⟩) ∧ w' = w := Any.internal_strconv_Itoa_small Tryz.lays243 i hi w
def Tryz.laysM171_ren : Go.Shelf.Ren := ⟨fun | 171 => 41 | 243 => 64 | 246 => 87 | 283 => 104 | 284 => 105 | 285 => 106 | 286 => 107 | 129 => 122 | 317 => 121 | 318 => 123 | 319 => 124 | 320 => 125 | 337 => 135 | 338 => 136 | n => n, fun | 3 => 3 | 9 => 9 | 2 => 2 | 4 => 4 | 171 => 118 | 0 => 0 | 53 => 112 | 37 => 37 | 5 => 5 | 173 => 121 | 212 => 141 | 51 => 142 | 20 => 20 | 213 => 143 | 46 => 41 | 232 => 156 | 233 => 157 | n => n, fun | 17 => 5 | 18 => 9 | 19 => 10 | n => n⟩
theorem Tryz.laysM171 : Go.Proofs.LaysM.n171 Tryz.prog Tryz.laysM171_ren := {
  mixed := by kernel_rfl
  f129 := Tryz.func122.trans (congrArg some (by kernel_rfl))
  f171 := Tryz.func41.trans (congrArg some (by kernel_rfl))
  f243 := Tryz.func64.trans (congrArg some (by kernel_rfl))
  f246 := Tryz.func87.trans (congrArg some (by kernel_rfl))
  f283 := Tryz.func104.trans (congrArg some (by kernel_rfl))
  f284 := Tryz.func105.trans (congrArg some (by kernel_rfl))
  f285 := Tryz.func106.trans (congrArg some (by kernel_rfl))
  f286 := Tryz.func107.trans (congrArg some (by kernel_rfl))
  f317 := Tryz.func121.trans (congrArg some (by kernel_rfl))
  f318 := Tryz.func123.trans (congrArg some (by kernel_rfl))
  f319 := Tryz.func124.trans (congrArg some (by kernel_rfl))
  f320 := Tryz.func125.trans (congrArg some (by kernel_rfl))
  f337 := Tryz.func135.trans (congrArg some (by kernel_rfl))
  f338 := Tryz.func136.trans (congrArg some (by kernel_rfl))
  t0 := Tryz.underlying0
  a0 := Tryz.isAgg0
  z0 := Tryz.sizeOf0
  v0 := Tryz.zeroValue0
  t2 := Tryz.underlying2
  a2 := Tryz.isAgg2
  z2 := Tryz.sizeOf2
  v2 := Tryz.zeroValue2
  t3 := Tryz.underlying3
  a3 := Tryz.isAgg3
  z3 := Tryz.sizeOf3
  v3 := Tryz.zeroValue3
  t4 := Tryz.underlying4
  a4 := Tryz.isAgg4
  z4 := Tryz.sizeOf4
  v4 := Tryz.zeroValue4
  t5 := Tryz.underlying5
  a5 := Tryz.isAgg5
  z5 := Tryz.sizeOf5
  v5 := Tryz.zeroValue5
  t9 := Tryz.underlying9
  a9 := Tryz.isAgg9
  z9 := Tryz.sizeOf9
  v9 := Tryz.zeroValue9
  t20 := Tryz.underlying20
  a20 := Tryz.isAgg20
  z20 := Tryz.sizeOf20
  v20 := Tryz.zeroValue20
  t37 := Tryz.underlying37
  a37 := Tryz.isAgg37
  z37 := Tryz.sizeOf37
  v37 := Tryz.zeroValue37
  t46 := Tryz.underlying41
  a46 := Tryz.isAgg41
  z46 := Tryz.sizeOf41
  v46 := Tryz.zeroValue41
  t51 := Tryz.underlying142
  a51 := Tryz.isAgg142
  z51 := Tryz.sizeOf142
  v51 := Tryz.zeroValue142
  t53 := Tryz.underlying112
  a53 := Tryz.isAgg112
  z53 := Tryz.sizeOf112
  v53 := Tryz.zeroValue112
  t171 := Tryz.underlying118
  a171 := Tryz.isAgg118
  z171 := Tryz.sizeOf118
  v171 := Tryz.zeroValue118
  t173 := Tryz.underlying121
  a173 := Tryz.isAgg121
  z173 := Tryz.sizeOf121
  v173 := Tryz.zeroValue121
  t212 := Tryz.underlying141
  a212 := Tryz.isAgg141
  z212 := Tryz.sizeOf141
  v212 := Tryz.zeroValue141
  t213 := Tryz.underlying143
  a213 := Tryz.isAgg143
  z213 := Tryz.sizeOf143
  t232 := Tryz.underlying156
  a232 := Tryz.isAgg156
  z232 := Tryz.sizeOf156
  v232 := Tryz.zeroValue156
  t233 := Tryz.underlying157
  a233 := Tryz.isAgg157
  z233 := Tryz.sizeOf157
  v233 := Tryz.zeroValue157
  g17 := by kernel_rfl
  g18 := by kernel_rfl
  g19 := by kernel_rfl
  i0 := by kernel_rfl
  i2 := by kernel_rfl
  i3 := by kernel_rfl
  i4 := by kernel_rfl
  i5 := by kernel_rfl
  i9 := by kernel_rfl
  i20 := by kernel_rfl
  i37 := by kernel_rfl
  i46 := by kernel_rfl
  i51 := by kernel_rfl
  i53 := by kernel_rfl
  i171 := by kernel_rfl
  i173 := by kernel_rfl
  i212 := by kernel_rfl
  i232 := by kernel_rfl
  i233 := by kernel_rfl
  m17 := by kernel_rfl
  m18 := by kernel_rfl
  m19 := by kernel_rfl }
open Go.RowKit Go.Sort Go.Lib in
/-- strconv.Itoa: "Itoa is equivalent to FormatInt(int64(i), 10).": i's DECIMAL NUMERAL ('Lib.itoa': a '-' where i is negative, then the digits), FOR EVERY int. The world behind the call: the world before it, new blocks behind the heap (the library's 'var a [24]byte'), draws. (LAID: no walk: one application.) -/
theorem Tryz.strconv_Itoa (n : Int) (h0 : -9223372036854775808 ≤ n) (h1 : n ≤ 9223372036854775807) (w : World) (htab : Lib.TabIs Tryz.prog w "internal/strconv.uint64pow10" .u64 Lib.pow10Tab) :
    Calls Tryz.prog 41 #[.int .i64 n] w fun e w' => e = .returned (.string ⟨(Lib.itoa n).toArray⟩) ∧ ∃ k os, w' = grow (w.drewN k) os := Any.strconv_Itoa Tryz.laysM171 n h0 h1 w htab
def Tryz.lays171_ren : Go.Shelf.Ren := ⟨fun | 171 => 41 | 243 => 64 | 246 => 87 | 283 => 104 | 284 => 105 | 285 => 106 | 286 => 107 | 129 => 122 | 317 => 121 | 318 => 123 | 319 => 124 | 320 => 125 | 337 => 135 | 338 => 136 | n => n, fun | 3 => 3 | 9 => 9 | 2 => 2 | 4 => 4 | 171 => 118 | 0 => 0 | 53 => 112 | 37 => 37 | 5 => 5 | 173 => 121 | 212 => 141 | 51 => 142 | 20 => 20 | 213 => 143 | 46 => 41 | 232 => 156 | 233 => 157 | n => n, fun | 17 => 5 | 18 => 9 | 19 => 10 | n => n⟩
theorem Tryz.lays171 : Go.Proofs.Lays.n171 Tryz.prog Tryz.lays171_ren := {
  mixed := by kernel_rfl
  f129 := Tryz.func122.trans (congrArg some (by kernel_rfl))
  f171 := Tryz.func41.trans (congrArg some (by kernel_rfl))
  f243 := Tryz.func64.trans (congrArg some (by kernel_rfl))
  f246 := Tryz.func87.trans (congrArg some (by kernel_rfl))
  f283 := Tryz.func104.trans (congrArg some (by kernel_rfl))
  f284 := Tryz.func105.trans (congrArg some (by kernel_rfl))
  f285 := Tryz.func106.trans (congrArg some (by kernel_rfl))
  f286 := Tryz.func107.trans (congrArg some (by kernel_rfl))
  f317 := Tryz.func121.trans (congrArg some (by kernel_rfl))
  f318 := Tryz.func123.trans (congrArg some (by kernel_rfl))
  f319 := Tryz.func124.trans (congrArg some (by kernel_rfl))
  f320 := Tryz.func125.trans (congrArg some (by kernel_rfl))
  f337 := Tryz.func135.trans (congrArg some (by kernel_rfl))
  f338 := Tryz.func136.trans (congrArg some (by kernel_rfl))
  t0 := Tryz.underlying0
  a0 := Tryz.isAgg0
  z0 := Tryz.sizeOf0
  v0 := Tryz.zeroValue0
  t2 := Tryz.underlying2
  a2 := Tryz.isAgg2
  z2 := Tryz.sizeOf2
  v2 := Tryz.zeroValue2
  t3 := Tryz.underlying3
  a3 := Tryz.isAgg3
  z3 := Tryz.sizeOf3
  v3 := Tryz.zeroValue3
  t4 := Tryz.underlying4
  a4 := Tryz.isAgg4
  z4 := Tryz.sizeOf4
  v4 := Tryz.zeroValue4
  t5 := Tryz.underlying5
  a5 := Tryz.isAgg5
  z5 := Tryz.sizeOf5
  v5 := Tryz.zeroValue5
  t9 := Tryz.underlying9
  a9 := Tryz.isAgg9
  z9 := Tryz.sizeOf9
  v9 := Tryz.zeroValue9
  t20 := Tryz.underlying20
  a20 := Tryz.isAgg20
  z20 := Tryz.sizeOf20
  v20 := Tryz.zeroValue20
  t37 := Tryz.underlying37
  a37 := Tryz.isAgg37
  z37 := Tryz.sizeOf37
  v37 := Tryz.zeroValue37
  t46 := Tryz.underlying41
  a46 := Tryz.isAgg41
  z46 := Tryz.sizeOf41
  v46 := Tryz.zeroValue41
  t51 := Tryz.underlying142
  a51 := Tryz.isAgg142
  z51 := Tryz.sizeOf142
  v51 := Tryz.zeroValue142
  t53 := Tryz.underlying112
  a53 := Tryz.isAgg112
  z53 := Tryz.sizeOf112
  v53 := Tryz.zeroValue112
  t171 := Tryz.underlying118
  a171 := Tryz.isAgg118
  z171 := Tryz.sizeOf118
  v171 := Tryz.zeroValue118
  t173 := Tryz.underlying121
  a173 := Tryz.isAgg121
  z173 := Tryz.sizeOf121
  v173 := Tryz.zeroValue121
  t212 := Tryz.underlying141
  a212 := Tryz.isAgg141
  z212 := Tryz.sizeOf141
  v212 := Tryz.zeroValue141
  t213 := Tryz.underlying143
  a213 := Tryz.isAgg143
  z213 := Tryz.sizeOf143
  t232 := Tryz.underlying156
  a232 := Tryz.isAgg156
  z232 := Tryz.sizeOf156
  v232 := Tryz.zeroValue156
  t233 := Tryz.underlying157
  a233 := Tryz.isAgg157
  z233 := Tryz.sizeOf157
  v233 := Tryz.zeroValue157
  g17 := by kernel_rfl
  g18 := by kernel_rfl
  g19 := by kernel_rfl }
open Go.RowKit Go.Sort Go.Lib in
/-- THE ROAD WITHOUT THE TABLE: 0 <= i < 100: NO PREMISE ON THE WORLD, AND THE WORLD IS AS IT WAS: a row that keeps its argument in that range need list no table ('laid = []'). (LAID: no walk: one application.) -/
theorem Tryz.strconv_Itoa_small (i : Nat) (hi : i < 100) (w : World) :
    Calls Tryz.prog 41 #[.int .i64 i] w fun e w' => e = .returned (.string ⟨(Lib.decDigits i).toArray⟩) ∧ w' = w := Any.strconv_Itoa_small Tryz.lays171 i hi w
open Go.RowKit in
/-- internal/strconv.Atoi, at a string of 1 to 18 bytes THAT IS NO DECIMAL NUMERAL: 0, AND ErrSyntax (the package's own error number 2). The world behind the call: as it was, or with the one new row that '[]byte(s)' lays. (LAID: no walk: one application.) -/
theorem Tryz.internal_strconv_Atoi_err (s : ByteArray) (hl0 : 1 ≤ s.size) (hl : s.size ≤ 18) (h : Lib.atoi s.data.toList = none) (w : World) :
    Calls Tryz.prog 62 #[.string s] w fun e w' => e = .returned (.tuple #[.int .i64 0, (.iface 97 (.int .i64 2))]) ∧ (w' = w ∨ ∃ t, w' = Lib.bytesWorld w 5 t) := Any.internal_strconv_Atoi_err Tryz.lays244 s hl0 hl h w
def Tryz.lays247_ren : Go.Shelf.Ren := ⟨fun | 247 => 82 | 287 => 101 | 321 => 119 | 322 => 120 | n => n, fun | 9 => 9 | 3 => 3 | 2 => 2 | 75 => 68 | 4 => 4 | 167 => 97 | 5 => 5 | 53 => 112 | 175 => 113 | 46 => 41 | 37 => 37 | 0 => 0 | 21 => 21 | 80 => 130 | n => n, fun | n => n⟩
theorem Tryz.lays247 : Go.Proofs.Lays.n247 Tryz.prog Tryz.lays247_ren := {
  mixed := by kernel_rfl
  f247 := Tryz.func82.trans (congrArg some (by kernel_rfl))
  f287 := Tryz.func101.trans (congrArg some (by kernel_rfl))
  f321 := Tryz.func119.trans (congrArg some (by kernel_rfl))
  f322 := Tryz.func120.trans (congrArg some (by kernel_rfl))
  t0 := Tryz.underlying0
  a0 := Tryz.isAgg0
  z0 := Tryz.sizeOf0
  v0 := Tryz.zeroValue0
  t2 := Tryz.underlying2
  a2 := Tryz.isAgg2
  z2 := Tryz.sizeOf2
  v2 := Tryz.zeroValue2
  t3 := Tryz.underlying3
  a3 := Tryz.isAgg3
  z3 := Tryz.sizeOf3
  v3 := Tryz.zeroValue3
  t4 := Tryz.underlying4
  a4 := Tryz.isAgg4
  z4 := Tryz.sizeOf4
  v4 := Tryz.zeroValue4
  t5 := Tryz.underlying5
  a5 := Tryz.isAgg5
  z5 := Tryz.sizeOf5
  v5 := Tryz.zeroValue5
  t9 := Tryz.underlying9
  a9 := Tryz.isAgg9
  z9 := Tryz.sizeOf9
  v9 := Tryz.zeroValue9
  t21 := Tryz.underlying21
  a21 := Tryz.isAgg21
  z21 := Tryz.sizeOf21
  v21 := Tryz.zeroValue21
  t37 := Tryz.underlying37
  a37 := Tryz.isAgg37
  z37 := Tryz.sizeOf37
  v37 := Tryz.zeroValue37
  t46 := Tryz.underlying41
  a46 := Tryz.isAgg41
  z46 := Tryz.sizeOf41
  v46 := Tryz.zeroValue41
  t53 := Tryz.underlying112
  a53 := Tryz.isAgg112
  z53 := Tryz.sizeOf112
  v53 := Tryz.zeroValue112
  t75 := Tryz.underlying68
  a75 := Tryz.isAgg68
  z75 := Tryz.sizeOf68
  v75 := Tryz.zeroValue68
  t167 := Tryz.underlying97
  a167 := Tryz.isAgg97
  z167 := Tryz.sizeOf97
  v167 := Tryz.zeroValue97
  t175 := Tryz.underlying113
  a175 := Tryz.isAgg113
  z175 := Tryz.sizeOf113
  v175 := Tryz.zeroValue113 }
open Go.RowKit in
/-- internal/strconv.ParseInt at "": 'if s == "" { return 0, ErrSyntax }'. The world is as it was. (LAID: no walk: one application.) -/
theorem Tryz.internal_strconv_ParseInt_empty (base bits : Int) (w : World) :
    Calls Tryz.prog 82 #[.string ⟨#[]⟩, .int .i64 base, .int .i64 bits] w fun e w' => e = .returned (.tuple #[.int .i64 0, (.iface 97 (.int .i64 2))]) ∧ w' = w := Any.internal_strconv_ParseInt_empty Tryz.lays247 base bits w
open Go.RowKit in
/-- internal/strconv.Atoi at "". (LAID: no walk: one application.) -/
theorem Tryz.internal_strconv_Atoi_empty (w : World) :
    Calls Tryz.prog 62 #[.string ⟨#[]⟩] w fun e w' => e = .returned (.tuple #[.int .i64 0, (.iface 97 (.int .i64 2))]) ∧ w' = w := Any.internal_strconv_Atoi_empty Tryz.lays244 w
open Go.RowKit in
/-- internal/strconv.Atoi, AT EVERY STRING OF AT MOST 18 BYTES THAT IS NO DECIMAL NUMERAL: 0, and ErrSyntax. (LAID: no walk: one application.) -/
theorem Tryz.internal_strconv_Atoi_fail (s : ByteArray) (hl : s.size ≤ 18) (h : Lib.atoi s.data.toList = none) (w : World) :
    Calls Tryz.prog 62 #[.string s] w fun e w' => e = .returned (.tuple #[.int .i64 0, (.iface 97 (.int .i64 2))]) ∧ (w' = w ∨ ∃ t, w' = Lib.bytesWorld w 5 t) := Any.internal_strconv_Atoi_fail Tryz.lays244 s hl h w
def Tryz.laysM316_ren : Go.Shelf.Ren := ⟨fun | 316 => 102 | n => n, fun | 9 => 9 | 3 => 3 | 4 => 4 | 37 => 37 | 0 => 0 | 127 => 135 | 5 => 5 | n => n, fun | n => n⟩
theorem Tryz.laysM316 : Go.Proofs.LaysM.n316 Tryz.prog Tryz.laysM316_ren := {
  mixed := by kernel_rfl
  f316 := Tryz.func102.trans (congrArg some (by kernel_rfl))
  t0 := Tryz.underlying0
  a0 := Tryz.isAgg0
  z0 := Tryz.sizeOf0
  v0 := Tryz.zeroValue0
  t3 := Tryz.underlying3
  a3 := Tryz.isAgg3
  z3 := Tryz.sizeOf3
  v3 := Tryz.zeroValue3
  t4 := Tryz.underlying4
  a4 := Tryz.isAgg4
  z4 := Tryz.sizeOf4
  v4 := Tryz.zeroValue4
  t9 := Tryz.underlying9
  a9 := Tryz.isAgg9
  z9 := Tryz.sizeOf9
  v9 := Tryz.zeroValue9
  t37 := Tryz.underlying37
  a37 := Tryz.isAgg37
  z37 := Tryz.sizeOf37
  v37 := Tryz.zeroValue37
  t127 := Tryz.underlying135
  a127 := Tryz.isAgg135
  z127 := Tryz.sizeOf135
  v127 := Tryz.zeroValue135
  t5 := Tryz.underlying5
  a5 := Tryz.isAgg5
  z5 := Tryz.sizeOf5
  v5 := Tryz.zeroValue5
  i0 := by kernel_rfl
  i3 := by kernel_rfl
  i4 := by kernel_rfl
  i5 := by kernel_rfl
  i9 := by kernel_rfl
  i37 := by kernel_rfl
  i127 := by kernel_rfl }
open Go.RowKit in
/-- internal/stringslite.Clone (what strings.Clone calls): "Clone returns a fresh copy of s.": THE SAME BYTES. Of what was there nothing has turned (a new row is laid, and frozen, where s is not empty). (LAID: no walk: one application.) -/
theorem Tryz.stringslite_Clone (s : ByteArray) (w : World) (hlim : s.size ≤ 281474976710656) :
    Calls Tryz.prog 102 #[.string s] w fun e w' => e = .returned (.string s) ∧ Below w.heap.size w w' := Any.stringslite_Clone Tryz.laysM316 s w hlim
def Tryz.laysM279_ren : Go.Shelf.Ren := ⟨fun | 279 => 83 | 316 => 102 | n => n, fun | 9 => 9 | 168 => 100 | 75 => 68 | 210 => 116 | 3 => 3 | 4 => 4 | 37 => 37 | 0 => 0 | 127 => 135 | 80 => 130 | 5 => 5 | n => n, fun | 15 => 3 | n => n⟩
theorem Tryz.laysM279 : Go.Proofs.LaysM.n279 Tryz.prog Tryz.laysM279_ren := {
  mixed := by kernel_rfl
  f279 := Tryz.func83.trans (congrArg some (by kernel_rfl))
  f316 := Tryz.func102.trans (congrArg some (by kernel_rfl))
  t0 := Tryz.underlying0
  a0 := Tryz.isAgg0
  z0 := Tryz.sizeOf0
  v0 := Tryz.zeroValue0
  t3 := Tryz.underlying3
  a3 := Tryz.isAgg3
  z3 := Tryz.sizeOf3
  v3 := Tryz.zeroValue3
  t4 := Tryz.underlying4
  a4 := Tryz.isAgg4
  z4 := Tryz.sizeOf4
  v4 := Tryz.zeroValue4
  t9 := Tryz.underlying9
  a9 := Tryz.isAgg9
  z9 := Tryz.sizeOf9
  v9 := Tryz.zeroValue9
  t37 := Tryz.underlying37
  a37 := Tryz.isAgg37
  z37 := Tryz.sizeOf37
  v37 := Tryz.zeroValue37
  t75 := Tryz.underlying68
  a75 := Tryz.isAgg68
  z75 := Tryz.sizeOf68
  v75 := Tryz.zeroValue68
  t127 := Tryz.underlying135
  a127 := Tryz.isAgg135
  z127 := Tryz.sizeOf135
  v127 := Tryz.zeroValue135
  t168 := Tryz.underlying100
  a168 := Tryz.isAgg100
  z168 := Tryz.sizeOf100
  v168 := Tryz.zeroValue100
  t210 := Tryz.underlying116
  a210 := Tryz.isAgg116
  z210 := Tryz.sizeOf116
  v210 := Tryz.zeroValue116
  g15 := by kernel_rfl
  t5 := Tryz.underlying5
  a5 := Tryz.isAgg5
  z5 := Tryz.sizeOf5
  v5 := Tryz.zeroValue5
  t80 := Tryz.underlying130
  a80 := Tryz.isAgg130
  z80 := Tryz.sizeOf130
  v80 := Tryz.zeroValue130
  i0 := by kernel_rfl
  i3 := by kernel_rfl
  i4 := by kernel_rfl
  i5 := by kernel_rfl
  i9 := by kernel_rfl
  i37 := by kernel_rfl
  i75 := by kernel_rfl
  i80 := by kernel_rfl
  i127 := by kernel_rfl
  i168 := by kernel_rfl
  i210 := by kernel_rfl
  m15 := by kernel_rfl }
open Go.RowKit in
/-- strconv.syntaxError: '&NumError{fn, stringslite.Clone(str), ErrSyntax}': A POINTER TO A NEW BLOCK that holds fn, str's bytes, and what the variable ErrSyntax holds. Of what was there nothing has turned. (LAID: no walk: one application.) -/
theorem Tryz.strconv_syntaxError (fn s : ByteArray) (ev : Value) (w : World) (hlim : s.size ≤ 281474976710656) (hv : w.cell? ⟨3, 0, none⟩ = some ev) (hev : ev = .nilIface ∨ ∃ te pe, ev = .iface te pe) :
    Calls Tryz.prog 83 #[.string fn, .string s] w fun e w' => ∃ N, e = .returned (.pointer (some ⟨N, 0, none⟩)) ∧ w.heap.size ≤ N ∧ w'.heap[N]? = some (.cells #[.string fn, .string s, ev] 116 (0, 0)) ∧ Below w.heap.size w w' := Any.strconv_syntaxError Tryz.laysM279 fn s ev w hlim hv hev
def Tryz.laysC245_ren : Go.Shelf.Ren := ⟨fun | 245 => 63 | 279 => 83 | 280 => 84 | 281 => 85 | 282 => 86 | 316 => 102 | 171 => 41 | 205 => 103 | 243 => 64 | 246 => 87 | 283 => 104 | 284 => 105 | 285 => 106 | 286 => 107 | 129 => 122 | 317 => 121 | 318 => 123 | 319 => 124 | 320 => 125 | 337 => 135 | 338 => 136 | n => n, fun | 9 => 9 | 3 => 3 | 75 => 68 | 167 => 97 | 4 => 4 | 168 => 100 | 210 => 116 | 37 => 37 | 0 => 0 | 127 => 135 | 145 => 138 | 143 => 136 | 2 => 2 | 171 => 118 | 53 => 112 | 5 => 5 | 173 => 121 | 212 => 141 | 51 => 142 | 20 => 20 | 213 => 143 | 46 => 41 | 232 => 156 | 233 => 157 | 80 => 130 | n => n, fun | 15 => 3 | 16 => 4 | 17 => 5 | 18 => 9 | 19 => 10 | n => n⟩
theorem Tryz.laysC245 : Go.Proofs.LaysC.n245 Tryz.prog Tryz.laysC245_ren := {
  mixed := by kernel_rfl
  f129 := Tryz.func122.trans (congrArg some (by kernel_rfl))
  f171 := Tryz.func41.trans (congrArg some (by kernel_rfl))
  f205 := Tryz.func103.trans (congrArg some (by kernel_rfl))
  f243 := Tryz.func64.trans (congrArg some (by kernel_rfl))
  f245 := Tryz.func63.trans (congrArg some (by kernel_rfl))
  f246 := Tryz.func87.trans (congrArg some (by kernel_rfl))
  f279 := Tryz.func83.trans (congrArg some (by kernel_rfl))
  f280 := Tryz.func84.trans (congrArg some (by kernel_rfl))
  f281 := Tryz.func85.trans (congrArg some (by kernel_rfl))
  f282 := Tryz.func86.trans (congrArg some (by kernel_rfl))
  f283 := Tryz.func104.trans (congrArg some (by kernel_rfl))
  f284 := Tryz.func105.trans (congrArg some (by kernel_rfl))
  f285 := Tryz.func106.trans (congrArg some (by kernel_rfl))
  f286 := Tryz.func107.trans (congrArg some (by kernel_rfl))
  f316 := Tryz.func102.trans (congrArg some (by kernel_rfl))
  f317 := Tryz.func121.trans (congrArg some (by kernel_rfl))
  f318 := Tryz.func123.trans (congrArg some (by kernel_rfl))
  f319 := Tryz.func124.trans (congrArg some (by kernel_rfl))
  f320 := Tryz.func125.trans (congrArg some (by kernel_rfl))
  f337 := Tryz.func135.trans (congrArg some (by kernel_rfl))
  f338 := Tryz.func136.trans (congrArg some (by kernel_rfl))
  t0 := Tryz.underlying0
  a0 := Tryz.isAgg0
  z0 := Tryz.sizeOf0
  v0 := Tryz.zeroValue0
  t2 := Tryz.underlying2
  a2 := Tryz.isAgg2
  z2 := Tryz.sizeOf2
  v2 := Tryz.zeroValue2
  t3 := Tryz.underlying3
  a3 := Tryz.isAgg3
  z3 := Tryz.sizeOf3
  v3 := Tryz.zeroValue3
  t4 := Tryz.underlying4
  a4 := Tryz.isAgg4
  z4 := Tryz.sizeOf4
  v4 := Tryz.zeroValue4
  t5 := Tryz.underlying5
  a5 := Tryz.isAgg5
  z5 := Tryz.sizeOf5
  v5 := Tryz.zeroValue5
  t9 := Tryz.underlying9
  a9 := Tryz.isAgg9
  z9 := Tryz.sizeOf9
  v9 := Tryz.zeroValue9
  t20 := Tryz.underlying20
  a20 := Tryz.isAgg20
  z20 := Tryz.sizeOf20
  v20 := Tryz.zeroValue20
  t37 := Tryz.underlying37
  a37 := Tryz.isAgg37
  z37 := Tryz.sizeOf37
  v37 := Tryz.zeroValue37
  t46 := Tryz.underlying41
  a46 := Tryz.isAgg41
  z46 := Tryz.sizeOf41
  v46 := Tryz.zeroValue41
  t51 := Tryz.underlying142
  a51 := Tryz.isAgg142
  z51 := Tryz.sizeOf142
  v51 := Tryz.zeroValue142
  t53 := Tryz.underlying112
  a53 := Tryz.isAgg112
  z53 := Tryz.sizeOf112
  v53 := Tryz.zeroValue112
  t75 := Tryz.underlying68
  a75 := Tryz.isAgg68
  z75 := Tryz.sizeOf68
  v75 := Tryz.zeroValue68
  t127 := Tryz.underlying135
  a127 := Tryz.isAgg135
  z127 := Tryz.sizeOf135
  v127 := Tryz.zeroValue135
  t143 := Tryz.underlying136
  a143 := Tryz.isAgg136
  z143 := Tryz.sizeOf136
  v143 := Tryz.zeroValue136
  t145 := Tryz.underlying138
  a145 := Tryz.isAgg138
  z145 := Tryz.sizeOf138
  v145 := Tryz.zeroValue138
  t167 := Tryz.underlying97
  a167 := Tryz.isAgg97
  z167 := Tryz.sizeOf97
  v167 := Tryz.zeroValue97
  t168 := Tryz.underlying100
  a168 := Tryz.isAgg100
  z168 := Tryz.sizeOf100
  v168 := Tryz.zeroValue100
  t171 := Tryz.underlying118
  a171 := Tryz.isAgg118
  z171 := Tryz.sizeOf118
  v171 := Tryz.zeroValue118
  t173 := Tryz.underlying121
  a173 := Tryz.isAgg121
  z173 := Tryz.sizeOf121
  v173 := Tryz.zeroValue121
  t210 := Tryz.underlying116
  a210 := Tryz.isAgg116
  z210 := Tryz.sizeOf116
  v210 := Tryz.zeroValue116
  t212 := Tryz.underlying141
  a212 := Tryz.isAgg141
  z212 := Tryz.sizeOf141
  v212 := Tryz.zeroValue141
  t213 := Tryz.underlying143
  a213 := Tryz.isAgg143
  z213 := Tryz.sizeOf143
  t232 := Tryz.underlying156
  a232 := Tryz.isAgg156
  z232 := Tryz.sizeOf156
  v232 := Tryz.zeroValue156
  t233 := Tryz.underlying157
  a233 := Tryz.isAgg157
  z233 := Tryz.sizeOf157
  v233 := Tryz.zeroValue157
  g15 := by kernel_rfl
  g16 := by kernel_rfl
  g17 := by kernel_rfl
  g18 := by kernel_rfl
  g19 := by kernel_rfl
  t80 := Tryz.underlying130
  a80 := Tryz.isAgg130
  z80 := Tryz.sizeOf130
  v80 := Tryz.zeroValue130
  i0 := by kernel_rfl
  i2 := by kernel_rfl
  i3 := by kernel_rfl
  i4 := by kernel_rfl
  i5 := by kernel_rfl
  i9 := by kernel_rfl
  i20 := by kernel_rfl
  i37 := by kernel_rfl
  i46 := by kernel_rfl
  i51 := by kernel_rfl
  i53 := by kernel_rfl
  i75 := by kernel_rfl
  i80 := by kernel_rfl
  i127 := by kernel_rfl
  i143 := by kernel_rfl
  i145 := by kernel_rfl
  i167 := by kernel_rfl
  i168 := by kernel_rfl
  i171 := by kernel_rfl
  i173 := by kernel_rfl
  i210 := by kernel_rfl
  i212 := by kernel_rfl
  i232 := by kernel_rfl
  i233 := by kernel_rfl
  m15 := by kernel_rfl
  m16 := by kernel_rfl
  m17 := by kernel_rfl
  m18 := by kernel_rfl
  m19 := by kernel_rfl
  c0 := by kernel_rfl
  c2 := by kernel_rfl
  c3 := by kernel_rfl
  c4 := by kernel_rfl
  c5 := by kernel_rfl
  c9 := by kernel_rfl
  c20 := by kernel_rfl
  c37 := by kernel_rfl
  c46 := by kernel_rfl
  c51 := by kernel_rfl
  c53 := by kernel_rfl
  c75 := by kernel_rfl
  c80 := by kernel_rfl
  c127 := by kernel_rfl
  c143 := by kernel_rfl
  c145 := by kernel_rfl
  c167 := by kernel_rfl
  c168 := by kernel_rfl
  c171 := by kernel_rfl
  c173 := by kernel_rfl
  c210 := by kernel_rfl
  c212 := by kernel_rfl
  c213 := by kernel_rfl
  c232 := by kernel_rfl
  c233 := by kernel_rfl }
open Go.RowKit in
/-- strconv.toError, at the inner package's ErrSyntax: 'syntaxError(fn, s)' as an error: A *NumError IN A NEW BLOCK. (LAID: no walk: one application.) -/
theorem Tryz.strconv_toError_syntax (fn s : ByteArray) (base bits : Int) (ev : Value) (w : World) (hlim : s.size ≤ 281474976710656) (hv : w.cell? ⟨3, 0, none⟩ = some ev) (hev : ev = .nilIface ∨ ∃ te pe, ev = .iface te pe) :
    Calls Tryz.prog 63 #[.string fn, .string s, .int .i64 base, .int .i64 bits, .iface 97 (.int .i64 2)] w fun e w' => ∃ N, e = .returned (.iface 100 (.pointer (some ⟨N, 0, none⟩))) ∧ w.heap.size ≤ N ∧ w'.heap[N]? = some (.cells #[.string fn, .string s, ev] 116 (0, 0)) ∧ Below w.heap.size w w' := Any.strconv_toError_syntax Tryz.laysC245 fn s base bits ev w hlim hv hev
def Tryz.lays321_ren : Go.Shelf.Ren := ⟨fun | 321 => 119 | n => n, fun | 5 => 5 | n => n, fun | n => n⟩
theorem Tryz.lays321 : Go.Proofs.Lays.n321 Tryz.prog Tryz.lays321_ren := {
  mixed := by kernel_rfl
  f321 := Tryz.func119.trans (congrArg some (by kernel_rfl))
  t5 := Tryz.underlying5
  a5 := Tryz.isAgg5
  z5 := Tryz.sizeOf5
  v5 := Tryz.zeroValue5 }
open Go.RowKit in
/-- internal/strconv.lower: 'c | ('x' - 'X')': the bit 32 set. The world is as it was. (LAID: no walk: one application.) -/
theorem Tryz.internal_strconv_lower (c : Int) (w : World) :
    Calls Tryz.prog 119 #[.int .u8 c] w fun e w' => e = .returned (.int .u8 (bits .or .u8 c 32)) ∧ w' = w := Any.internal_strconv_lower Tryz.lays321 c w
def Tryz.lays287_ren : Go.Shelf.Ren := ⟨fun | 287 => 101 | 321 => 119 | 322 => 120 | n => n, fun | 9 => 9 | 3 => 3 | 53 => 112 | 75 => 68 | 4 => 4 | 167 => 97 | 5 => 5 | 46 => 41 | 37 => 37 | 0 => 0 | 21 => 21 | 80 => 130 | n => n, fun | n => n⟩
theorem Tryz.lays287 : Go.Proofs.Lays.n287 Tryz.prog Tryz.lays287_ren := {
  mixed := by kernel_rfl
  f287 := Tryz.func101.trans (congrArg some (by kernel_rfl))
  f321 := Tryz.func119.trans (congrArg some (by kernel_rfl))
  f322 := Tryz.func120.trans (congrArg some (by kernel_rfl))
  t0 := Tryz.underlying0
  a0 := Tryz.isAgg0
  z0 := Tryz.sizeOf0
  v0 := Tryz.zeroValue0
  t3 := Tryz.underlying3
  a3 := Tryz.isAgg3
  z3 := Tryz.sizeOf3
  v3 := Tryz.zeroValue3
  t4 := Tryz.underlying4
  a4 := Tryz.isAgg4
  z4 := Tryz.sizeOf4
  v4 := Tryz.zeroValue4
  t5 := Tryz.underlying5
  a5 := Tryz.isAgg5
  z5 := Tryz.sizeOf5
  v5 := Tryz.zeroValue5
  t9 := Tryz.underlying9
  a9 := Tryz.isAgg9
  z9 := Tryz.sizeOf9
  v9 := Tryz.zeroValue9
  t21 := Tryz.underlying21
  a21 := Tryz.isAgg21
  z21 := Tryz.sizeOf21
  v21 := Tryz.zeroValue21
  t37 := Tryz.underlying37
  a37 := Tryz.isAgg37
  z37 := Tryz.sizeOf37
  v37 := Tryz.zeroValue37
  t46 := Tryz.underlying41
  a46 := Tryz.isAgg41
  z46 := Tryz.sizeOf41
  v46 := Tryz.zeroValue41
  t53 := Tryz.underlying112
  a53 := Tryz.isAgg112
  z53 := Tryz.sizeOf112
  v53 := Tryz.zeroValue112
  t75 := Tryz.underlying68
  a75 := Tryz.isAgg68
  z75 := Tryz.sizeOf68
  v75 := Tryz.zeroValue68
  t167 := Tryz.underlying97
  a167 := Tryz.isAgg97
  z167 := Tryz.sizeOf97
  v167 := Tryz.zeroValue97 }
open Go.RowKit in
/-- internal/strconv.ParseUint(s, 10, 0), s NOT EMPTY: 'Lib.parseUint10 0' OF ITS BYTES: the number; or (0, ErrSyntax); or (the greatest uint64, ErrRange). The world behind the call: the one new row that '[]byte(s)' lays. (LAID: no walk: one application.) -/
theorem Tryz.internal_strconv_ParseUint_10 (t : ByteArray) (hne : t.size ≠ 0) (hmax : t.size ≤ 9223372036854775806) (w : World) :
    Calls Tryz.prog 101 #[.string t, .int .i64 10, .int .i64 0] w fun e w' => e = .returned (Lib.uintTuple 97 (Lib.parseUint10 0 t.data.toList)) ∧ w' = Lib.bytesWorld w 5 t := Any.internal_strconv_ParseUint_10 Tryz.lays287 t hne hmax w
open Go.RowKit in
/-- internal/strconv.ParseUint("", 10, 0): (0, ErrSyntax). The world is as it was. (LAID: no walk: one application.) -/
theorem Tryz.internal_strconv_ParseUint_10_empty (w : World) :
    Calls Tryz.prog 101 #[.string ⟨#[]⟩, .int .i64 10, .int .i64 0] w fun e w' => e = .returned (Lib.uintTuple 97 .syntax) ∧ w' = w := Any.internal_strconv_ParseUint_10_empty Tryz.lays287 w
open Go.RowKit in
/-- internal/strconv.ParseUint(s, 10, 0): 'Lib.parseMag' OF ITS BYTES. The world: as it was (the empty string), or with the one new row that '[]byte(s)' lays. (LAID: no walk: one application.) -/
theorem Tryz.internal_strconv_ParseUint_10_any (t : ByteArray) (hmax : t.size ≤ 9223372036854775806) (w : World) :
    Calls Tryz.prog 101 #[.string t, .int .i64 10, .int .i64 0] w fun e w' => e = .returned (Lib.uintTuple 97 (Lib.parseMag t.data.toList)) ∧ (w' = w ∨ w' = Lib.bytesWorld w 5 t) := Any.internal_strconv_ParseUint_10_any Tryz.lays287 t hmax w
def Tryz.laysC247_ren : Go.Shelf.Ren := ⟨fun | 247 => 82 | 287 => 101 | 321 => 119 | 322 => 120 | n => n, fun | 9 => 9 | 3 => 3 | 2 => 2 | 75 => 68 | 4 => 4 | 167 => 97 | 5 => 5 | 53 => 112 | 175 => 113 | 46 => 41 | 37 => 37 | 0 => 0 | 21 => 21 | 80 => 130 | n => n, fun | n => n⟩
theorem Tryz.laysC247 : Go.Proofs.LaysC.n247 Tryz.prog Tryz.laysC247_ren := {
  mixed := by kernel_rfl
  f247 := Tryz.func82.trans (congrArg some (by kernel_rfl))
  f287 := Tryz.func101.trans (congrArg some (by kernel_rfl))
  f321 := Tryz.func119.trans (congrArg some (by kernel_rfl))
  f322 := Tryz.func120.trans (congrArg some (by kernel_rfl))
  t0 := Tryz.underlying0
  a0 := Tryz.isAgg0
  z0 := Tryz.sizeOf0
  v0 := Tryz.zeroValue0
  t2 := Tryz.underlying2
  a2 := Tryz.isAgg2
  z2 := Tryz.sizeOf2
  v2 := Tryz.zeroValue2
  t3 := Tryz.underlying3
  a3 := Tryz.isAgg3
  z3 := Tryz.sizeOf3
  v3 := Tryz.zeroValue3
  t4 := Tryz.underlying4
  a4 := Tryz.isAgg4
  z4 := Tryz.sizeOf4
  v4 := Tryz.zeroValue4
  t5 := Tryz.underlying5
  a5 := Tryz.isAgg5
  z5 := Tryz.sizeOf5
  v5 := Tryz.zeroValue5
  t9 := Tryz.underlying9
  a9 := Tryz.isAgg9
  z9 := Tryz.sizeOf9
  v9 := Tryz.zeroValue9
  t21 := Tryz.underlying21
  a21 := Tryz.isAgg21
  z21 := Tryz.sizeOf21
  v21 := Tryz.zeroValue21
  t37 := Tryz.underlying37
  a37 := Tryz.isAgg37
  z37 := Tryz.sizeOf37
  v37 := Tryz.zeroValue37
  t46 := Tryz.underlying41
  a46 := Tryz.isAgg41
  z46 := Tryz.sizeOf41
  v46 := Tryz.zeroValue41
  t53 := Tryz.underlying112
  a53 := Tryz.isAgg112
  z53 := Tryz.sizeOf112
  v53 := Tryz.zeroValue112
  t75 := Tryz.underlying68
  a75 := Tryz.isAgg68
  z75 := Tryz.sizeOf68
  v75 := Tryz.zeroValue68
  t167 := Tryz.underlying97
  a167 := Tryz.isAgg97
  z167 := Tryz.sizeOf97
  v167 := Tryz.zeroValue97
  t175 := Tryz.underlying113
  a175 := Tryz.isAgg113
  z175 := Tryz.sizeOf113
  v175 := Tryz.zeroValue113
  t80 := Tryz.underlying130
  a80 := Tryz.isAgg130
  z80 := Tryz.sizeOf130
  v80 := Tryz.zeroValue130
  i0 := by kernel_rfl
  i2 := by kernel_rfl
  i3 := by kernel_rfl
  i4 := by kernel_rfl
  i5 := by kernel_rfl
  i9 := by kernel_rfl
  i21 := by kernel_rfl
  i37 := by kernel_rfl
  i46 := by kernel_rfl
  i53 := by kernel_rfl
  i75 := by kernel_rfl
  i80 := by kernel_rfl
  i167 := by kernel_rfl
  i175 := by kernel_rfl
  c0 := by kernel_rfl
  c2 := by kernel_rfl
  c3 := by kernel_rfl
  c4 := by kernel_rfl
  c5 := by kernel_rfl
  c9 := by kernel_rfl
  c21 := by kernel_rfl
  c37 := by kernel_rfl
  c46 := by kernel_rfl
  c53 := by kernel_rfl
  c75 := by kernel_rfl
  c80 := by kernel_rfl
  c167 := by kernel_rfl
  c175 := by kernel_rfl }
open Go.RowKit in
/-- internal/strconv.ParseInt(s, 10, 0), s NOT EMPTY: 'Lib.atoiAll' OF ITS BYTES: (the number, nil); (0, ErrSyntax); (the greatest or the least int64 by the sign, ErrRange). The world: as it was, or with the one new row that '[]byte(..)' lays. (LAID: no walk: one application.) -/
theorem Tryz.internal_strconv_ParseInt_10 (s : ByteArray) (hne : s.size ≠ 0) (hmax : s.size ≤ 9223372036854775806) (w : World) :
    Calls Tryz.prog 82 #[.string s, .int .i64 10, .int .i64 0] w fun e w' => e = .returned (Lib.intTuple 97 (Lib.atoiSat s.data.toList) (Lib.atoiAll s.data.toList)) ∧ (w' = w ∨ ∃ t, w' = Lib.bytesWorld w 5 t) := Any.internal_strconv_ParseInt_10 Tryz.laysC247 s hne hmax w
def Tryz.laysC244_ren : Go.Shelf.Ren := ⟨fun | 244 => 62 | 247 => 82 | 287 => 101 | 321 => 119 | 322 => 120 | n => n, fun | 9 => 9 | 3 => 3 | 75 => 68 | 4 => 4 | 5 => 5 | 167 => 97 | 37 => 37 | 0 => 0 | 85 => 98 | 2 => 2 | 53 => 112 | 175 => 113 | 46 => 41 | 21 => 21 | 80 => 130 | n => n, fun | n => n⟩
theorem Tryz.laysC244 : Go.Proofs.LaysC.n244 Tryz.prog Tryz.laysC244_ren := {
  mixed := by kernel_rfl
  f244 := Tryz.func62.trans (congrArg some (by kernel_rfl))
  f247 := Tryz.func82.trans (congrArg some (by kernel_rfl))
  f287 := Tryz.func101.trans (congrArg some (by kernel_rfl))
  f321 := Tryz.func119.trans (congrArg some (by kernel_rfl))
  f322 := Tryz.func120.trans (congrArg some (by kernel_rfl))
  t0 := Tryz.underlying0
  a0 := Tryz.isAgg0
  z0 := Tryz.sizeOf0
  v0 := Tryz.zeroValue0
  t2 := Tryz.underlying2
  a2 := Tryz.isAgg2
  z2 := Tryz.sizeOf2
  v2 := Tryz.zeroValue2
  t3 := Tryz.underlying3
  a3 := Tryz.isAgg3
  z3 := Tryz.sizeOf3
  v3 := Tryz.zeroValue3
  t4 := Tryz.underlying4
  a4 := Tryz.isAgg4
  z4 := Tryz.sizeOf4
  v4 := Tryz.zeroValue4
  t5 := Tryz.underlying5
  a5 := Tryz.isAgg5
  z5 := Tryz.sizeOf5
  v5 := Tryz.zeroValue5
  t9 := Tryz.underlying9
  a9 := Tryz.isAgg9
  z9 := Tryz.sizeOf9
  v9 := Tryz.zeroValue9
  t21 := Tryz.underlying21
  a21 := Tryz.isAgg21
  z21 := Tryz.sizeOf21
  v21 := Tryz.zeroValue21
  t37 := Tryz.underlying37
  a37 := Tryz.isAgg37
  z37 := Tryz.sizeOf37
  v37 := Tryz.zeroValue37
  t46 := Tryz.underlying41
  a46 := Tryz.isAgg41
  z46 := Tryz.sizeOf41
  v46 := Tryz.zeroValue41
  t53 := Tryz.underlying112
  a53 := Tryz.isAgg112
  z53 := Tryz.sizeOf112
  v53 := Tryz.zeroValue112
  t75 := Tryz.underlying68
  a75 := Tryz.isAgg68
  z75 := Tryz.sizeOf68
  v75 := Tryz.zeroValue68
  t85 := Tryz.underlying98
  a85 := Tryz.isAgg98
  z85 := Tryz.sizeOf98
  v85 := Tryz.zeroValue98
  t167 := Tryz.underlying97
  a167 := Tryz.isAgg97
  z167 := Tryz.sizeOf97
  v167 := Tryz.zeroValue97
  t175 := Tryz.underlying113
  a175 := Tryz.isAgg113
  z175 := Tryz.sizeOf113
  v175 := Tryz.zeroValue113
  t80 := Tryz.underlying130
  a80 := Tryz.isAgg130
  z80 := Tryz.sizeOf130
  v80 := Tryz.zeroValue130
  i0 := by kernel_rfl
  i2 := by kernel_rfl
  i3 := by kernel_rfl
  i4 := by kernel_rfl
  i5 := by kernel_rfl
  i9 := by kernel_rfl
  i21 := by kernel_rfl
  i37 := by kernel_rfl
  i46 := by kernel_rfl
  i53 := by kernel_rfl
  i75 := by kernel_rfl
  i80 := by kernel_rfl
  i85 := by kernel_rfl
  i167 := by kernel_rfl
  i175 := by kernel_rfl
  c0 := by kernel_rfl
  c2 := by kernel_rfl
  c3 := by kernel_rfl
  c4 := by kernel_rfl
  c5 := by kernel_rfl
  c9 := by kernel_rfl
  c21 := by kernel_rfl
  c37 := by kernel_rfl
  c46 := by kernel_rfl
  c53 := by kernel_rfl
  c75 := by kernel_rfl
  c80 := by kernel_rfl
  c85 := by kernel_rfl
  c167 := by kernel_rfl
  c175 := by kernel_rfl }
open Go.RowKit in
/-- internal/strconv.Atoi, AT EVERY STRING OF 19 BYTES OR MORE: 'Lib.atoiAll' OF ITS BYTES: (the number, nil); (0, ErrSyntax); (the greatest or the least int by the sign, ErrRange). (LAID: no walk: one application.) -/
theorem Tryz.internal_strconv_Atoi_long (s : ByteArray) (h19 : 19 ≤ s.size) (hmax : s.size ≤ 9223372036854775806) (w : World) :
    Calls Tryz.prog 62 #[.string s] w fun e w' => e = .returned (Lib.intTuple 97 (Lib.atoiSat s.data.toList) (Lib.atoiAll s.data.toList)) ∧ (w' = w ∨ ∃ t, w' = Lib.bytesWorld w 5 t) := Any.internal_strconv_Atoi_long Tryz.laysC244 s h19 hmax w
open Go.RowKit in
/-- internal/strconv.Atoi, AT EVERY STRING: 'Lib.atoiAll' OF ITS BYTES: (the number, nil); (0, ErrSyntax); (the greatest or the least int by the sign, ErrRange). The world: as it was, or with the one new row that '[]byte(..)' lays. (LAID: no walk: one application.) -/
theorem Tryz.internal_strconv_Atoi_all (s : ByteArray) (hmax : s.size ≤ 9223372036854775806) (w : World) :
    Calls Tryz.prog 62 #[.string s] w fun e w' => e = .returned (Lib.intTuple 97 (Lib.atoiSat s.data.toList) (Lib.atoiAll s.data.toList)) ∧ (w' = w ∨ ∃ t, w' = Lib.bytesWorld w 5 t) := Any.internal_strconv_Atoi_all Tryz.laysC244 s hmax w
def Tryz.laysM280_ren : Go.Shelf.Ren := ⟨fun | 280 => 84 | 316 => 102 | n => n, fun | 9 => 9 | 168 => 100 | 75 => 68 | 210 => 116 | 3 => 3 | 4 => 4 | 37 => 37 | 0 => 0 | 127 => 135 | 80 => 130 | 5 => 5 | n => n, fun | 16 => 4 | n => n⟩
theorem Tryz.laysM280 : Go.Proofs.LaysM.n280 Tryz.prog Tryz.laysM280_ren := {
  mixed := by kernel_rfl
  f280 := Tryz.func84.trans (congrArg some (by kernel_rfl))
  f316 := Tryz.func102.trans (congrArg some (by kernel_rfl))
  t0 := Tryz.underlying0
  a0 := Tryz.isAgg0
  z0 := Tryz.sizeOf0
  v0 := Tryz.zeroValue0
  t3 := Tryz.underlying3
  a3 := Tryz.isAgg3
  z3 := Tryz.sizeOf3
  v3 := Tryz.zeroValue3
  t4 := Tryz.underlying4
  a4 := Tryz.isAgg4
  z4 := Tryz.sizeOf4
  v4 := Tryz.zeroValue4
  t9 := Tryz.underlying9
  a9 := Tryz.isAgg9
  z9 := Tryz.sizeOf9
  v9 := Tryz.zeroValue9
  t37 := Tryz.underlying37
  a37 := Tryz.isAgg37
  z37 := Tryz.sizeOf37
  v37 := Tryz.zeroValue37
  t75 := Tryz.underlying68
  a75 := Tryz.isAgg68
  z75 := Tryz.sizeOf68
  v75 := Tryz.zeroValue68
  t127 := Tryz.underlying135
  a127 := Tryz.isAgg135
  z127 := Tryz.sizeOf135
  v127 := Tryz.zeroValue135
  t168 := Tryz.underlying100
  a168 := Tryz.isAgg100
  z168 := Tryz.sizeOf100
  v168 := Tryz.zeroValue100
  t210 := Tryz.underlying116
  a210 := Tryz.isAgg116
  z210 := Tryz.sizeOf116
  v210 := Tryz.zeroValue116
  g16 := by kernel_rfl
  t5 := Tryz.underlying5
  a5 := Tryz.isAgg5
  z5 := Tryz.sizeOf5
  v5 := Tryz.zeroValue5
  t80 := Tryz.underlying130
  a80 := Tryz.isAgg130
  z80 := Tryz.sizeOf130
  v80 := Tryz.zeroValue130
  i0 := by kernel_rfl
  i3 := by kernel_rfl
  i4 := by kernel_rfl
  i5 := by kernel_rfl
  i9 := by kernel_rfl
  i37 := by kernel_rfl
  i75 := by kernel_rfl
  i80 := by kernel_rfl
  i127 := by kernel_rfl
  i168 := by kernel_rfl
  i210 := by kernel_rfl
  m16 := by kernel_rfl }
open Go.RowKit in
/-- strconv.rangeError: '&NumError{fn, stringslite.Clone(str), ErrRange}': A POINTER TO A NEW BLOCK that holds fn, str's bytes, and what the variable ErrRange holds. Of what was there nothing has turned. (LAID: no walk: one application.) -/
theorem Tryz.strconv_rangeError (fn s : ByteArray) (ev : Value) (w : World) (hlim : s.size ≤ 281474976710656) (hv : w.cell? ⟨4, 0, none⟩ = some ev) (hev : ev = .nilIface ∨ ∃ te pe, ev = .iface te pe) :
    Calls Tryz.prog 84 #[.string fn, .string s] w fun e w' => ∃ N, e = .returned (.pointer (some ⟨N, 0, none⟩)) ∧ w.heap.size ≤ N ∧ w'.heap[N]? = some (.cells #[.string fn, .string s, ev] 116 (0, 0)) ∧ Below w.heap.size w w' := Any.strconv_rangeError Tryz.laysM280 fn s ev w hlim hv hev
open Go.RowKit in
/-- strconv.toError, at the inner package's ErrRange: 'rangeError(fn, s)' as an error: A *NumError IN A NEW BLOCK. (LAID: no walk: one application.) -/
theorem Tryz.strconv_toError_range (fn s : ByteArray) (base bits : Int) (ev : Value) (w : World) (hlim : s.size ≤ 281474976710656) (hv : w.cell? ⟨4, 0, none⟩ = some ev) (hev : ev = .nilIface ∨ ∃ te pe, ev = .iface te pe) :
    Calls Tryz.prog 63 #[.string fn, .string s, .int .i64 base, .int .i64 bits, .iface 97 (.int .i64 1)] w fun e w' => ∃ N, e = .returned (.iface 100 (.pointer (some ⟨N, 0, none⟩))) ∧ w.heap.size ≤ N ∧ w'.heap[N]? = some (.cells #[.string fn, .string s, ev] 116 (0, 0)) ∧ Below w.heap.size w w' := Any.strconv_toError_range Tryz.laysC245 fn s base bits ev w hlim hv hev
def Tryz.laysC172_ren : Go.Shelf.Ren := ⟨fun | 172 => 40 | 244 => 62 | 245 => 63 | 247 => 82 | 279 => 83 | 280 => 84 | 281 => 85 | 282 => 86 | 287 => 101 | 316 => 102 | 171 => 41 | 205 => 103 | 321 => 119 | 322 => 120 | 243 => 64 | 246 => 87 | 283 => 104 | 284 => 105 | 285 => 106 | 286 => 107 | 129 => 122 | 317 => 121 | 318 => 123 | 319 => 124 | 320 => 125 | 337 => 135 | 338 => 136 | n => n, fun | 9 => 9 | 3 => 3 | 75 => 68 | 76 => 69 | 4 => 4 | 5 => 5 | 167 => 97 | 37 => 37 | 0 => 0 | 85 => 98 | 2 => 2 | 168 => 100 | 53 => 112 | 175 => 113 | 46 => 41 | 210 => 116 | 127 => 135 | 145 => 138 | 143 => 136 | 21 => 21 | 171 => 118 | 173 => 121 | 212 => 141 | 51 => 142 | 20 => 20 | 213 => 143 | 232 => 156 | 233 => 157 | 80 => 130 | n => n, fun | 15 => 3 | 16 => 4 | 17 => 5 | 18 => 9 | 19 => 10 | n => n⟩
theorem Tryz.laysC172 : Go.Proofs.LaysC.n172 Tryz.prog Tryz.laysC172_ren := {
  mixed := by kernel_rfl
  f129 := Tryz.func122.trans (congrArg some (by kernel_rfl))
  f171 := Tryz.func41.trans (congrArg some (by kernel_rfl))
  f172 := Tryz.func40.trans (congrArg some (by kernel_rfl))
  f205 := Tryz.func103.trans (congrArg some (by kernel_rfl))
  f243 := Tryz.func64.trans (congrArg some (by kernel_rfl))
  f244 := Tryz.func62.trans (congrArg some (by kernel_rfl))
  f245 := Tryz.func63.trans (congrArg some (by kernel_rfl))
  f246 := Tryz.func87.trans (congrArg some (by kernel_rfl))
  f247 := Tryz.func82.trans (congrArg some (by kernel_rfl))
  f279 := Tryz.func83.trans (congrArg some (by kernel_rfl))
  f280 := Tryz.func84.trans (congrArg some (by kernel_rfl))
  f281 := Tryz.func85.trans (congrArg some (by kernel_rfl))
  f282 := Tryz.func86.trans (congrArg some (by kernel_rfl))
  f283 := Tryz.func104.trans (congrArg some (by kernel_rfl))
  f284 := Tryz.func105.trans (congrArg some (by kernel_rfl))
  f285 := Tryz.func106.trans (congrArg some (by kernel_rfl))
  f286 := Tryz.func107.trans (congrArg some (by kernel_rfl))
  f287 := Tryz.func101.trans (congrArg some (by kernel_rfl))
  f316 := Tryz.func102.trans (congrArg some (by kernel_rfl))
  f317 := Tryz.func121.trans (congrArg some (by kernel_rfl))
  f318 := Tryz.func123.trans (congrArg some (by kernel_rfl))
  f319 := Tryz.func124.trans (congrArg some (by kernel_rfl))
  f320 := Tryz.func125.trans (congrArg some (by kernel_rfl))
  f321 := Tryz.func119.trans (congrArg some (by kernel_rfl))
  f322 := Tryz.func120.trans (congrArg some (by kernel_rfl))
  f337 := Tryz.func135.trans (congrArg some (by kernel_rfl))
  f338 := Tryz.func136.trans (congrArg some (by kernel_rfl))
  t0 := Tryz.underlying0
  a0 := Tryz.isAgg0
  z0 := Tryz.sizeOf0
  v0 := Tryz.zeroValue0
  t2 := Tryz.underlying2
  a2 := Tryz.isAgg2
  z2 := Tryz.sizeOf2
  v2 := Tryz.zeroValue2
  t3 := Tryz.underlying3
  a3 := Tryz.isAgg3
  z3 := Tryz.sizeOf3
  v3 := Tryz.zeroValue3
  t4 := Tryz.underlying4
  a4 := Tryz.isAgg4
  z4 := Tryz.sizeOf4
  v4 := Tryz.zeroValue4
  t5 := Tryz.underlying5
  a5 := Tryz.isAgg5
  z5 := Tryz.sizeOf5
  v5 := Tryz.zeroValue5
  t9 := Tryz.underlying9
  a9 := Tryz.isAgg9
  z9 := Tryz.sizeOf9
  v9 := Tryz.zeroValue9
  t20 := Tryz.underlying20
  a20 := Tryz.isAgg20
  z20 := Tryz.sizeOf20
  v20 := Tryz.zeroValue20
  t21 := Tryz.underlying21
  a21 := Tryz.isAgg21
  z21 := Tryz.sizeOf21
  v21 := Tryz.zeroValue21
  t37 := Tryz.underlying37
  a37 := Tryz.isAgg37
  z37 := Tryz.sizeOf37
  v37 := Tryz.zeroValue37
  t46 := Tryz.underlying41
  a46 := Tryz.isAgg41
  z46 := Tryz.sizeOf41
  v46 := Tryz.zeroValue41
  t51 := Tryz.underlying142
  a51 := Tryz.isAgg142
  z51 := Tryz.sizeOf142
  v51 := Tryz.zeroValue142
  t53 := Tryz.underlying112
  a53 := Tryz.isAgg112
  z53 := Tryz.sizeOf112
  v53 := Tryz.zeroValue112
  t75 := Tryz.underlying68
  a75 := Tryz.isAgg68
  z75 := Tryz.sizeOf68
  v75 := Tryz.zeroValue68
  t76 := Tryz.underlying69
  a76 := Tryz.isAgg69
  z76 := Tryz.sizeOf69
  v76 := Tryz.zeroValue69
  t85 := Tryz.underlying98
  a85 := Tryz.isAgg98
  z85 := Tryz.sizeOf98
  v85 := Tryz.zeroValue98
  t127 := Tryz.underlying135
  a127 := Tryz.isAgg135
  z127 := Tryz.sizeOf135
  v127 := Tryz.zeroValue135
  t143 := Tryz.underlying136
  a143 := Tryz.isAgg136
  z143 := Tryz.sizeOf136
  v143 := Tryz.zeroValue136
  t145 := Tryz.underlying138
  a145 := Tryz.isAgg138
  z145 := Tryz.sizeOf138
  v145 := Tryz.zeroValue138
  t167 := Tryz.underlying97
  a167 := Tryz.isAgg97
  z167 := Tryz.sizeOf97
  v167 := Tryz.zeroValue97
  t168 := Tryz.underlying100
  a168 := Tryz.isAgg100
  z168 := Tryz.sizeOf100
  v168 := Tryz.zeroValue100
  t171 := Tryz.underlying118
  a171 := Tryz.isAgg118
  z171 := Tryz.sizeOf118
  v171 := Tryz.zeroValue118
  t173 := Tryz.underlying121
  a173 := Tryz.isAgg121
  z173 := Tryz.sizeOf121
  v173 := Tryz.zeroValue121
  t175 := Tryz.underlying113
  a175 := Tryz.isAgg113
  z175 := Tryz.sizeOf113
  v175 := Tryz.zeroValue113
  t210 := Tryz.underlying116
  a210 := Tryz.isAgg116
  z210 := Tryz.sizeOf116
  v210 := Tryz.zeroValue116
  t212 := Tryz.underlying141
  a212 := Tryz.isAgg141
  z212 := Tryz.sizeOf141
  v212 := Tryz.zeroValue141
  t213 := Tryz.underlying143
  a213 := Tryz.isAgg143
  z213 := Tryz.sizeOf143
  t232 := Tryz.underlying156
  a232 := Tryz.isAgg156
  z232 := Tryz.sizeOf156
  v232 := Tryz.zeroValue156
  t233 := Tryz.underlying157
  a233 := Tryz.isAgg157
  z233 := Tryz.sizeOf157
  v233 := Tryz.zeroValue157
  g15 := by kernel_rfl
  g16 := by kernel_rfl
  g17 := by kernel_rfl
  g18 := by kernel_rfl
  g19 := by kernel_rfl
  t80 := Tryz.underlying130
  a80 := Tryz.isAgg130
  z80 := Tryz.sizeOf130
  v80 := Tryz.zeroValue130
  i0 := by kernel_rfl
  i2 := by kernel_rfl
  i3 := by kernel_rfl
  i4 := by kernel_rfl
  i5 := by kernel_rfl
  i9 := by kernel_rfl
  i20 := by kernel_rfl
  i21 := by kernel_rfl
  i37 := by kernel_rfl
  i46 := by kernel_rfl
  i51 := by kernel_rfl
  i53 := by kernel_rfl
  i75 := by kernel_rfl
  i76 := by kernel_rfl
  i80 := by kernel_rfl
  i85 := by kernel_rfl
  i127 := by kernel_rfl
  i143 := by kernel_rfl
  i145 := by kernel_rfl
  i167 := by kernel_rfl
  i168 := by kernel_rfl
  i171 := by kernel_rfl
  i173 := by kernel_rfl
  i175 := by kernel_rfl
  i210 := by kernel_rfl
  i212 := by kernel_rfl
  i232 := by kernel_rfl
  i233 := by kernel_rfl
  m15 := by kernel_rfl
  m16 := by kernel_rfl
  m17 := by kernel_rfl
  m18 := by kernel_rfl
  m19 := by kernel_rfl
  c0 := by kernel_rfl
  c2 := by kernel_rfl
  c3 := by kernel_rfl
  c4 := by kernel_rfl
  c5 := by kernel_rfl
  c9 := by kernel_rfl
  c20 := by kernel_rfl
  c21 := by kernel_rfl
  c37 := by kernel_rfl
  c46 := by kernel_rfl
  c51 := by kernel_rfl
  c53 := by kernel_rfl
  c75 := by kernel_rfl
  c76 := by kernel_rfl
  c80 := by kernel_rfl
  c85 := by kernel_rfl
  c127 := by kernel_rfl
  c143 := by kernel_rfl
  c145 := by kernel_rfl
  c167 := by kernel_rfl
  c168 := by kernel_rfl
  c171 := by kernel_rfl
  c173 := by kernel_rfl
  c175 := by kernel_rfl
  c210 := by kernel_rfl
  c212 := by kernel_rfl
  c213 := by kernel_rfl
  c232 := by kernel_rfl
  c233 := by kernel_rfl }
open Go.RowKit in
/-- strconv.Atoi, AT EVERY STRING THAT SPELLS AN int ('Lib.atoiAll .. = .ok v'; of whatever length: leading zeros count): v, AND NO ERROR. The world: as it was, or with the one new row that '[]byte(..)' lays. (LAID: no walk: one application.) -/
theorem Tryz.strconv_Atoi_ok (s : ByteArray) (hmax : s.size ≤ 9223372036854775806) (v : Int) (h : Lib.atoiAll s.data.toList = .ok v) (w : World) :
    Calls Tryz.prog 40 #[.string s] w fun e w' => e = .returned (.tuple #[.int .i64 v, .nilIface]) ∧ (w' = w ∨ ∃ t, w' = Lib.bytesWorld w 5 t) := Any.strconv_Atoi_ok Tryz.laysC172 s hmax v h w
open Go.RowKit in
/-- strconv.Atoi, AT EVERY STRING THAT IS NO DECIMAL NUMERAL ('.syntax'): 0, AND AN ERROR THAT IS NOT nil: a *NumError in a new block N: {Func: "Atoi", Num: s's bytes, Err: what the variable ErrSyntax holds}. Of what was there nothing has turned. (LAID: no walk: one application.) -/
theorem Tryz.strconv_Atoi_syntax (s : ByteArray) (hlim : s.size ≤ 281474976710656) (h : Lib.atoiAll s.data.toList = .«syntax») (ev : Value) (w : World) (hv : w.cell? ⟨3, 0, none⟩ = some ev) (hev : ev = .nilIface ∨ ∃ te pe, ev = .iface te pe) :
    Calls Tryz.prog 40 #[.string s] w fun e w' => ∃ N, e = .returned (.tuple #[.int .i64 (0), .iface 100 (.pointer (some ⟨N, 0, none⟩))]) ∧ w.heap.size ≤ N ∧ w'.heap[N]? = some (.cells #[.string ⟨#[65, 116, 111, 105]⟩, .string s, ev] 116 (0, 0)) ∧ Below w.heap.size w w' := Any.strconv_Atoi_syntax Tryz.laysC172 s hlim h ev w hv hev
open Go.RowKit in
/-- strconv.Atoi, AT EVERY NUMERAL THAT NO int HOLDS ('.range'): THE GREATEST OR THE LEAST int, BY THE SIGN ('Lib.atoiSat'), AND AN ERROR THAT IS NOT nil: a *NumError in a new block N: {Func: "Atoi", Num: s's bytes, Err: what the variable ErrRange holds}. Of what was there nothing has turned. (LAID: no walk: one application.) -/
theorem Tryz.strconv_Atoi_range (s : ByteArray) (hlim : s.size ≤ 281474976710656) (h : Lib.atoiAll s.data.toList = .range) (ev : Value) (w : World) (hv : w.cell? ⟨4, 0, none⟩ = some ev) (hev : ev = .nilIface ∨ ∃ te pe, ev = .iface te pe) :
    Calls Tryz.prog 40 #[.string s] w fun e w' => ∃ N, e = .returned (.tuple #[.int .i64 (Lib.atoiSat s.data.toList), .iface 100 (.pointer (some ⟨N, 0, none⟩))]) ∧ w.heap.size ≤ N ∧ w'.heap[N]? = some (.cells #[.string ⟨#[65, 116, 111, 105]⟩, .string s, ev] 116 (0, 0)) ∧ Below w.heap.size w w' := Any.strconv_Atoi_range Tryz.laysC172 s hlim h ev w hv hev
def Tryz.lays217_ren : Go.Shelf.Ren := ⟨fun | 217 => 128 | 266 => 137 | n => n, fun | 9 => 9 | 5 => 5 | 3 => 3 | n => n, fun | n => n⟩
theorem Tryz.lays217 : Go.Proofs.Lays.n217 Tryz.prog Tryz.lays217_ren := {
  mixed := by kernel_rfl
  f217 := Tryz.func128.trans (congrArg some (by kernel_rfl))
  f266 := Tryz.func137.trans (congrArg some (by kernel_rfl))
  t3 := Tryz.underlying3
  a3 := Tryz.isAgg3
  z3 := Tryz.sizeOf3
  v3 := Tryz.zeroValue3
  t5 := Tryz.underlying5
  a5 := Tryz.isAgg5
  z5 := Tryz.sizeOf5
  v5 := Tryz.zeroValue5
  t9 := Tryz.underlying9
  a9 := Tryz.isAgg9
  z9 := Tryz.sizeOf9
  v9 := Tryz.zeroValue9 }
open Go.RowKit Go.Lib in
/-- internal/stringslite.IndexByte (what strings.IndexByte calls): IT RETURNS 'Lib.indexByte s c'; the world is as it was. (LAID: no walk: one application.) -/
theorem Tryz.stringslite_IndexByte (s : ByteArray) (c : Int) (w : World) :
    Calls Tryz.prog 128 #[.string s, .int .u8 c] w fun e w' => e = .returned (.int .i64 (Lib.indexByte s.data.toList c.toNat.toUInt8)) ∧ w' = w := Any.stringslite_IndexByte Tryz.lays217 s c w
def Tryz.lays224_ren : Go.Shelf.Ren := ⟨fun | 224 => 130 | n => n, fun | 3 => 3 | n => n, fun | n => n⟩
theorem Tryz.lays224 : Go.Proofs.Lays.n224 Tryz.prog Tryz.lays224_ren := {
  mixed := by kernel_rfl
  f224 := Tryz.func130.trans (congrArg some (by kernel_rfl))
  t3 := Tryz.underlying3
  a3 := Tryz.isAgg3
  z3 := Tryz.sizeOf3
  v3 := Tryz.zeroValue3 }
open Go.RowKit Go.Lib in
/-- internal/bytealg.Cutover: "Cutover reports the number of failures of IndexByte we should tolerate before switching over to Index. n is the number of bytes processed so far.": on amd64: (n + 16) / 8. (LAID: no walk: one application.) -/
theorem Tryz.bytealg_Cutover (n : Int) (h0 : 0 ≤ n) (h1 : n < 4611686018427387904) (w : World) :
    Calls Tryz.prog 130 #[.int .i64 n] w fun e w' => e = .returned (.int .i64 ((n + 16) / 8)) ∧ w' = w := Any.bytealg_Cutover Tryz.lays224 n h0 h1 w
def Tryz.lays314_ren : Go.Shelf.Ren := ⟨fun | 314 => 138 | n => n, fun | 9 => 9 | 51 => 142 | 3 => 3 | 4 => 4 | 5 => 5 | 46 => 41 | n => n, fun | n => n⟩
theorem Tryz.lays314 : Go.Proofs.Lays.n314 Tryz.prog Tryz.lays314_ren := {
  mixed := by kernel_rfl
  f314 := Tryz.func138.trans (congrArg some (by kernel_rfl))
  t3 := Tryz.underlying3
  a3 := Tryz.isAgg3
  z3 := Tryz.sizeOf3
  v3 := Tryz.zeroValue3
  t4 := Tryz.underlying4
  a4 := Tryz.isAgg4
  z4 := Tryz.sizeOf4
  v4 := Tryz.zeroValue4
  t5 := Tryz.underlying5
  a5 := Tryz.isAgg5
  z5 := Tryz.sizeOf5
  v5 := Tryz.zeroValue5
  t9 := Tryz.underlying9
  a9 := Tryz.isAgg9
  z9 := Tryz.sizeOf9
  v9 := Tryz.zeroValue9
  t46 := Tryz.underlying41
  a46 := Tryz.isAgg41
  z46 := Tryz.sizeOf41
  v46 := Tryz.zeroValue41
  t51 := Tryz.underlying142
  a51 := Tryz.isAgg142
  z51 := Tryz.sizeOf142
  v51 := Tryz.zeroValue142 }
open Go.RowKit Go.Lib in
/-- hashStr: "returns the hash and the appropriate multiplicative factor for use in Rabin-Karp algorithm": THE HASH OF ALL OF sep, AND 16777619 ^ len(sep), both in uint32. (LAID: no walk: one application.) -/
theorem Tryz.bytealg_hashStr (sep : ByteArray) (hs : sep.size < 4294967281) (w : World) :
    Calls Tryz.prog 138 #[.string sep] w fun e w' => e = .returned (.tuple #[.int .u32 (RK.H sep.data.toList % 4294967296), .int .u32 (16777619 ^ sep.size % 4294967296)]) ∧ w' = w := Any.bytealg_hashStr Tryz.lays314 sep hs w
def Tryz.lays267_ren : Go.Shelf.Ren := ⟨fun | 267 => 131 | 314 => 138 | n => n, fun | 9 => 9 | 3 => 3 | 146 => 151 | 51 => 142 | 4 => 4 | 5 => 5 | 46 => 41 | n => n, fun | n => n⟩
theorem Tryz.lays267 : Go.Proofs.Lays.n267 Tryz.prog Tryz.lays267_ren := {
  mixed := by kernel_rfl
  f267 := Tryz.func131.trans (congrArg some (by kernel_rfl))
  f314 := Tryz.func138.trans (congrArg some (by kernel_rfl))
  t3 := Tryz.underlying3
  a3 := Tryz.isAgg3
  z3 := Tryz.sizeOf3
  v3 := Tryz.zeroValue3
  t4 := Tryz.underlying4
  a4 := Tryz.isAgg4
  z4 := Tryz.sizeOf4
  v4 := Tryz.zeroValue4
  t5 := Tryz.underlying5
  a5 := Tryz.isAgg5
  z5 := Tryz.sizeOf5
  v5 := Tryz.zeroValue5
  t9 := Tryz.underlying9
  a9 := Tryz.isAgg9
  z9 := Tryz.sizeOf9
  v9 := Tryz.zeroValue9
  t46 := Tryz.underlying41
  a46 := Tryz.isAgg41
  z46 := Tryz.sizeOf41
  v46 := Tryz.zeroValue41
  t51 := Tryz.underlying142
  a51 := Tryz.isAgg142
  z51 := Tryz.sizeOf142
  v51 := Tryz.zeroValue142
  t146 := Tryz.underlying151
  a146 := Tryz.isAgg151
  z146 := Tryz.sizeOf151
  v146 := Tryz.zeroValue151 }
open Go.RowKit Go.Lib in
theorem Tryz.bytealg_IndexRabinKarp (s sep : ByteArray) (h1 : 1 ≤ sep.size) (h2 : sep.size ≤ s.size) (hs : s.size < 4294967281) (w : World) :
    Calls Tryz.prog 131 #[.string s, .string sep] w fun e w' => e = .returned (.int .i64 (Lib.index s.data.toList sep.data.toList)) ∧ w' = w := Any.bytealg_IndexRabinKarp Tryz.lays267 s sep h1 h2 hs w
def Tryz.lays219_ren : Go.Shelf.Ren := ⟨fun | 219 => 113 | 217 => 128 | 225 => 129 | 224 => 130 | 267 => 131 | 266 => 137 | 314 => 138 | n => n, fun | 9 => 9 | 3 => 3 | 4 => 4 | 5 => 5 | 46 => 41 | 146 => 151 | 51 => 142 | n => n, fun | 1 => 6 | n => n⟩
theorem Tryz.lays219 : Go.Proofs.Lays.n219 Tryz.prog Tryz.lays219_ren := {
  mixed := by kernel_rfl
  f217 := Tryz.func128.trans (congrArg some (by kernel_rfl))
  f219 := Tryz.func113.trans (congrArg some (by kernel_rfl))
  f224 := Tryz.func130.trans (congrArg some (by kernel_rfl))
  f225 := Tryz.func129.trans (congrArg some (by kernel_rfl))
  f266 := Tryz.func137.trans (congrArg some (by kernel_rfl))
  f267 := Tryz.func131.trans (congrArg some (by kernel_rfl))
  f314 := Tryz.func138.trans (congrArg some (by kernel_rfl))
  t3 := Tryz.underlying3
  a3 := Tryz.isAgg3
  z3 := Tryz.sizeOf3
  v3 := Tryz.zeroValue3
  t4 := Tryz.underlying4
  a4 := Tryz.isAgg4
  z4 := Tryz.sizeOf4
  v4 := Tryz.zeroValue4
  t5 := Tryz.underlying5
  a5 := Tryz.isAgg5
  z5 := Tryz.sizeOf5
  v5 := Tryz.zeroValue5
  t9 := Tryz.underlying9
  a9 := Tryz.isAgg9
  z9 := Tryz.sizeOf9
  v9 := Tryz.zeroValue9
  t46 := Tryz.underlying41
  a46 := Tryz.isAgg41
  z46 := Tryz.sizeOf41
  v46 := Tryz.zeroValue41
  t51 := Tryz.underlying142
  a51 := Tryz.isAgg142
  z51 := Tryz.sizeOf142
  v51 := Tryz.zeroValue142
  t146 := Tryz.underlying151
  a146 := Tryz.isAgg151
  z146 := Tryz.sizeOf151
  v146 := Tryz.zeroValue151
  g1 := by kernel_rfl }
open Go.RowKit Go.Lib in
/-- internal/stringslite.Index (what strings.Index calls) AT A substr OF ONE BYTE c: IT RETURNS 'Lib.indexByte s c'; the world is as it was. (LAID: no walk: one application.) -/
theorem Tryz.stringslite_Index_one (s : ByteArray) (c : UInt8) (w : World) :
    Calls Tryz.prog 113 #[.string s, .string ⟨#[c]⟩] w fun e w' => e = .returned (.int .i64 (Lib.indexByte s.data.toList c)) ∧ w' = w := Any.stringslite_Index_one Tryz.lays219 s c w
open Go.RowKit Go.Lib in
/-- internal/stringslite.Index (what strings.Index calls) AT A substr OF WHATEVER LENGTH: IT RETURNS 'Lib.index s substr'; the world is as it was. 'm': what internal/bytealg.MaxLen holds: whatever. (LAID: no walk: one application.) -/
theorem Tryz.stringslite_Index (s sub : ByteArray) (m : Int) (w : World) (hs : s.size < 4294967281) (hm : w.cell? ⟨6, 0, none⟩ = some (.int .i64 m)) :
    Calls Tryz.prog 113 #[.string s, .string sub] w fun e w' => e = .returned (.int .i64 (Lib.index s.data.toList sub.data.toList)) ∧ w' = w := Any.stringslite_Index Tryz.lays219 s sub m w hs hm
def Tryz.lays143_ren : Go.Shelf.Ren := ⟨fun | 143 => 92 | 219 => 113 | 217 => 128 | 225 => 129 | 224 => 130 | 267 => 131 | 266 => 137 | 314 => 138 | n => n, fun | 9 => 9 | 3 => 3 | 4 => 4 | 5 => 5 | 46 => 41 | 146 => 151 | 51 => 142 | n => n, fun | 1 => 6 | n => n⟩
theorem Tryz.lays143 : Go.Proofs.Lays.n143 Tryz.prog Tryz.lays143_ren := {
  mixed := by kernel_rfl
  f143 := Tryz.func92.trans (congrArg some (by kernel_rfl))
  f217 := Tryz.func128.trans (congrArg some (by kernel_rfl))
  f219 := Tryz.func113.trans (congrArg some (by kernel_rfl))
  f224 := Tryz.func130.trans (congrArg some (by kernel_rfl))
  f225 := Tryz.func129.trans (congrArg some (by kernel_rfl))
  f266 := Tryz.func137.trans (congrArg some (by kernel_rfl))
  f267 := Tryz.func131.trans (congrArg some (by kernel_rfl))
  f314 := Tryz.func138.trans (congrArg some (by kernel_rfl))
  t3 := Tryz.underlying3
  a3 := Tryz.isAgg3
  z3 := Tryz.sizeOf3
  v3 := Tryz.zeroValue3
  t4 := Tryz.underlying4
  a4 := Tryz.isAgg4
  z4 := Tryz.sizeOf4
  v4 := Tryz.zeroValue4
  t5 := Tryz.underlying5
  a5 := Tryz.isAgg5
  z5 := Tryz.sizeOf5
  v5 := Tryz.zeroValue5
  t9 := Tryz.underlying9
  a9 := Tryz.isAgg9
  z9 := Tryz.sizeOf9
  v9 := Tryz.zeroValue9
  t46 := Tryz.underlying41
  a46 := Tryz.isAgg41
  z46 := Tryz.sizeOf41
  v46 := Tryz.zeroValue41
  t51 := Tryz.underlying142
  a51 := Tryz.isAgg142
  z51 := Tryz.sizeOf142
  v51 := Tryz.zeroValue142
  t146 := Tryz.underlying151
  a146 := Tryz.isAgg151
  z146 := Tryz.sizeOf151
  v146 := Tryz.zeroValue151
  g1 := by kernel_rfl }
open Go.RowKit Go.Lib in
/-- strings.Index: "Index returns the index of the first instance of substr in s, or -1 if substr is not present in s.": AT A substr OF ONE BYTE c: IT RETURNS 'Lib.indexByte s c'; the world is as it was. (LAID: no walk: one application.) -/
theorem Tryz.strings_Index_one (s : ByteArray) (c : UInt8) (w : World) :
    Calls Tryz.prog 92 #[.string s, .string ⟨#[c]⟩] w fun e w' => e = .returned (.int .i64 (Lib.indexByte s.data.toList c)) ∧ w' = w := Any.strings_Index_one Tryz.lays143 s c w
open Go.RowKit Go.Lib in
/-- strings.Index: "Index returns the index of the first instance of substr in s, or -1 if substr is not present in s.": IT RETURNS 'Lib.index s substr'; the world is as it was. (LAID: no walk: one application.) -/
theorem Tryz.strings_Index (s sub : ByteArray) (m : Int) (w : World) (hs : s.size < 4294967281) (hm : w.cell? ⟨6, 0, none⟩ = some (.int .i64 m)) :
    Calls Tryz.prog 92 #[.string s, .string sub] w fun e w' => e = .returned (.int .i64 (Lib.index s.data.toList sub.data.toList)) ∧ w' = w := Any.strings_Index Tryz.lays143 s sub m w hs hm
def Tryz.lays138_ren : Go.Shelf.Ren := ⟨fun | 138 => 91 | 195 => 110 | 218 => 112 | 143 => 92 | 219 => 113 | 217 => 128 | 225 => 129 | 224 => 130 | 267 => 131 | 266 => 137 | 314 => 138 | n => n, fun | 9 => 9 | 3 => 3 | 4 => 4 | 5 => 5 | 0 => 0 | 46 => 41 | 146 => 151 | 51 => 142 | n => n, fun | 1 => 6 | n => n⟩
theorem Tryz.lays138 : Go.Proofs.Lays.n138 Tryz.prog Tryz.lays138_ren := {
  mixed := by kernel_rfl
  f138 := Tryz.func91.trans (congrArg some (by kernel_rfl))
  f143 := Tryz.func92.trans (congrArg some (by kernel_rfl))
  f195 := Tryz.func110.trans (congrArg some (by kernel_rfl))
  f217 := Tryz.func128.trans (congrArg some (by kernel_rfl))
  f218 := Tryz.func112.trans (congrArg some (by kernel_rfl))
  f219 := Tryz.func113.trans (congrArg some (by kernel_rfl))
  f224 := Tryz.func130.trans (congrArg some (by kernel_rfl))
  f225 := Tryz.func129.trans (congrArg some (by kernel_rfl))
  f266 := Tryz.func137.trans (congrArg some (by kernel_rfl))
  f267 := Tryz.func131.trans (congrArg some (by kernel_rfl))
  f314 := Tryz.func138.trans (congrArg some (by kernel_rfl))
  t0 := Tryz.underlying0
  a0 := Tryz.isAgg0
  z0 := Tryz.sizeOf0
  v0 := Tryz.zeroValue0
  t3 := Tryz.underlying3
  a3 := Tryz.isAgg3
  z3 := Tryz.sizeOf3
  v3 := Tryz.zeroValue3
  t4 := Tryz.underlying4
  a4 := Tryz.isAgg4
  z4 := Tryz.sizeOf4
  v4 := Tryz.zeroValue4
  t5 := Tryz.underlying5
  a5 := Tryz.isAgg5
  z5 := Tryz.sizeOf5
  v5 := Tryz.zeroValue5
  t9 := Tryz.underlying9
  a9 := Tryz.isAgg9
  z9 := Tryz.sizeOf9
  v9 := Tryz.zeroValue9
  t46 := Tryz.underlying41
  a46 := Tryz.isAgg41
  z46 := Tryz.sizeOf41
  v46 := Tryz.zeroValue41
  t51 := Tryz.underlying142
  a51 := Tryz.isAgg142
  z51 := Tryz.sizeOf142
  v51 := Tryz.zeroValue142
  t146 := Tryz.underlying151
  a146 := Tryz.isAgg151
  z146 := Tryz.sizeOf151
  v146 := Tryz.zeroValue151
  g1 := by kernel_rfl }
open Go.RowKit Go.Lib in
/-- strings.Count AT A substr OF ONE BYTE ('hp'): "Count counts the number of non-overlapping instances of substr in s.": IT RETURNS 'Lib.countByte s (that byte)'; the world is as it was. ✋ NO CONTRACT HERE YET at an empty substr (utf8.RuneCountInString) or at a longer one (a loop over strings.Index). (LAID: no walk: one application.) -/
theorem Tryz.strings_Count_one (s : ByteArray) (c : UInt8) (w : World) :
    Calls Tryz.prog 91 #[.string s, .string ⟨#[c]⟩] w fun e w' => e = .returned (.int .i64 (Lib.countByte s.data.toList c)) ∧ w' = w := Any.strings_Count_one Tryz.lays138 s c w
open Go.RowKit Go.Lib in
/-- strings.Count AT A substr OF TWO BYTES OR MORE: "Count counts the number of non-overlapping instances of substr in s.": IT RETURNS 'Lib.count s substr'; the world is as it was. (LAID: no walk: one application.) -/
theorem Tryz.strings_Count (s sub : ByteArray) (m : Int) (w : World) (hs : s.size < 4294967281) (hm : w.cell? ⟨6, 0, none⟩ = some (.int .i64 m)) (h2 : 2 ≤ sub.size) :
    Calls Tryz.prog 91 #[.string s, .string sub] w fun e w' => e = .returned (.int .i64 (Lib.countB s sub)) ∧ w' = w := Any.strings_Count Tryz.lays138 s sub m w hs hm h2
def Tryz.laysM219_ren : Go.Shelf.Ren := ⟨fun | 219 => 113 | 217 => 128 | 225 => 129 | 224 => 130 | 267 => 131 | 266 => 137 | 314 => 138 | n => n, fun | 9 => 9 | 3 => 3 | 4 => 4 | 5 => 5 | 46 => 41 | 146 => 151 | 51 => 142 | n => n, fun | 1 => 6 | n => n⟩
theorem Tryz.laysM219 : Go.Proofs.LaysM.n219 Tryz.prog Tryz.laysM219_ren := {
  mixed := by kernel_rfl
  f217 := Tryz.func128.trans (congrArg some (by kernel_rfl))
  f219 := Tryz.func113.trans (congrArg some (by kernel_rfl))
  f224 := Tryz.func130.trans (congrArg some (by kernel_rfl))
  f225 := Tryz.func129.trans (congrArg some (by kernel_rfl))
  f266 := Tryz.func137.trans (congrArg some (by kernel_rfl))
  f267 := Tryz.func131.trans (congrArg some (by kernel_rfl))
  f314 := Tryz.func138.trans (congrArg some (by kernel_rfl))
  t3 := Tryz.underlying3
  a3 := Tryz.isAgg3
  z3 := Tryz.sizeOf3
  v3 := Tryz.zeroValue3
  t4 := Tryz.underlying4
  a4 := Tryz.isAgg4
  z4 := Tryz.sizeOf4
  v4 := Tryz.zeroValue4
  t5 := Tryz.underlying5
  a5 := Tryz.isAgg5
  z5 := Tryz.sizeOf5
  v5 := Tryz.zeroValue5
  t9 := Tryz.underlying9
  a9 := Tryz.isAgg9
  z9 := Tryz.sizeOf9
  v9 := Tryz.zeroValue9
  t46 := Tryz.underlying41
  a46 := Tryz.isAgg41
  z46 := Tryz.sizeOf41
  v46 := Tryz.zeroValue41
  t51 := Tryz.underlying142
  a51 := Tryz.isAgg142
  z51 := Tryz.sizeOf142
  v51 := Tryz.zeroValue142
  t146 := Tryz.underlying151
  a146 := Tryz.isAgg151
  z146 := Tryz.sizeOf151
  v146 := Tryz.zeroValue151
  g1 := by kernel_rfl
  i3 := by kernel_rfl
  i4 := by kernel_rfl
  i5 := by kernel_rfl
  i9 := by kernel_rfl
  i46 := by kernel_rfl
  i51 := by kernel_rfl
  i146 := by kernel_rfl
  m1 := by kernel_rfl
  s1_3 := fun w h => Go.Proofs.cell_of_shapedOpen_int (zero := #[.int .i64 0]) (t := 3) h (of_decide_eq_true (by kernel_rfl)) (by kernel_rfl) rfl (by kernel_rfl) (by kernel_rfl) Tryz.underlying3 }
open Go.RowKit Go.Lib in
theorem Tryz.stringslite_Index_shaped (s sub : ByteArray) (w : World) (h : w.ShapedOpen Tryz.prog) (hs : s.size < 4294967281) :
    Calls Tryz.prog 113 #[.string s, .string sub] w fun e w' => e = .returned (.int .i64 (Lib.index s.data.toList sub.data.toList)) ∧ w' = w := Any.stringslite_Index_shaped Tryz.laysM219 s sub w h hs
def Tryz.laysM143_ren : Go.Shelf.Ren := ⟨fun | 143 => 92 | 219 => 113 | 217 => 128 | 225 => 129 | 224 => 130 | 267 => 131 | 266 => 137 | 314 => 138 | n => n, fun | 9 => 9 | 3 => 3 | 4 => 4 | 5 => 5 | 46 => 41 | 146 => 151 | 51 => 142 | n => n, fun | 1 => 6 | n => n⟩
theorem Tryz.laysM143 : Go.Proofs.LaysM.n143 Tryz.prog Tryz.laysM143_ren := {
  mixed := by kernel_rfl
  f143 := Tryz.func92.trans (congrArg some (by kernel_rfl))
  f217 := Tryz.func128.trans (congrArg some (by kernel_rfl))
  f219 := Tryz.func113.trans (congrArg some (by kernel_rfl))
  f224 := Tryz.func130.trans (congrArg some (by kernel_rfl))
  f225 := Tryz.func129.trans (congrArg some (by kernel_rfl))
  f266 := Tryz.func137.trans (congrArg some (by kernel_rfl))
  f267 := Tryz.func131.trans (congrArg some (by kernel_rfl))
  f314 := Tryz.func138.trans (congrArg some (by kernel_rfl))
  t3 := Tryz.underlying3
  a3 := Tryz.isAgg3
  z3 := Tryz.sizeOf3
  v3 := Tryz.zeroValue3
  t4 := Tryz.underlying4
  a4 := Tryz.isAgg4
  z4 := Tryz.sizeOf4
  v4 := Tryz.zeroValue4
  t5 := Tryz.underlying5
  a5 := Tryz.isAgg5
  z5 := Tryz.sizeOf5
  v5 := Tryz.zeroValue5
  t9 := Tryz.underlying9
  a9 := Tryz.isAgg9
  z9 := Tryz.sizeOf9
  v9 := Tryz.zeroValue9
  t46 := Tryz.underlying41
  a46 := Tryz.isAgg41
  z46 := Tryz.sizeOf41
  v46 := Tryz.zeroValue41
  t51 := Tryz.underlying142
  a51 := Tryz.isAgg142
  z51 := Tryz.sizeOf142
  v51 := Tryz.zeroValue142
  t146 := Tryz.underlying151
  a146 := Tryz.isAgg151
  z146 := Tryz.sizeOf151
  v146 := Tryz.zeroValue151
  g1 := by kernel_rfl
  i3 := by kernel_rfl
  i4 := by kernel_rfl
  i5 := by kernel_rfl
  i9 := by kernel_rfl
  i46 := by kernel_rfl
  i51 := by kernel_rfl
  i146 := by kernel_rfl
  m1 := by kernel_rfl
  s1_3 := fun w h => Go.Proofs.cell_of_shapedOpen_int (zero := #[.int .i64 0]) (t := 3) h (of_decide_eq_true (by kernel_rfl)) (by kernel_rfl) rfl (by kernel_rfl) (by kernel_rfl) Tryz.underlying3 }
open Go.RowKit Go.Lib in
theorem Tryz.strings_Index_shaped (s sub : ByteArray) (w : World) (h : w.ShapedOpen Tryz.prog) (hs : s.size < 4294967281) :
    Calls Tryz.prog 92 #[.string s, .string sub] w fun e w' => e = .returned (.int .i64 (Lib.index s.data.toList sub.data.toList)) ∧ w' = w := Any.strings_Index_shaped Tryz.laysM143 s sub w h hs
def Tryz.laysM138_ren : Go.Shelf.Ren := ⟨fun | 138 => 91 | 195 => 110 | 218 => 112 | 143 => 92 | 219 => 113 | 217 => 128 | 225 => 129 | 224 => 130 | 267 => 131 | 266 => 137 | 314 => 138 | n => n, fun | 9 => 9 | 3 => 3 | 4 => 4 | 5 => 5 | 0 => 0 | 46 => 41 | 146 => 151 | 51 => 142 | n => n, fun | 1 => 6 | n => n⟩
theorem Tryz.laysM138 : Go.Proofs.LaysM.n138 Tryz.prog Tryz.laysM138_ren := {
  mixed := by kernel_rfl
  f138 := Tryz.func91.trans (congrArg some (by kernel_rfl))
  f143 := Tryz.func92.trans (congrArg some (by kernel_rfl))
  f195 := Tryz.func110.trans (congrArg some (by kernel_rfl))
  f217 := Tryz.func128.trans (congrArg some (by kernel_rfl))
  f218 := Tryz.func112.trans (congrArg some (by kernel_rfl))
  f219 := Tryz.func113.trans (congrArg some (by kernel_rfl))
  f224 := Tryz.func130.trans (congrArg some (by kernel_rfl))
  f225 := Tryz.func129.trans (congrArg some (by kernel_rfl))
  f266 := Tryz.func137.trans (congrArg some (by kernel_rfl))
  f267 := Tryz.func131.trans (congrArg some (by kernel_rfl))
  f314 := Tryz.func138.trans (congrArg some (by kernel_rfl))
  t0 := Tryz.underlying0
  a0 := Tryz.isAgg0
  z0 := Tryz.sizeOf0
  v0 := Tryz.zeroValue0
  t3 := Tryz.underlying3
  a3 := Tryz.isAgg3
  z3 := Tryz.sizeOf3
  v3 := Tryz.zeroValue3
  t4 := Tryz.underlying4
  a4 := Tryz.isAgg4
  z4 := Tryz.sizeOf4
  v4 := Tryz.zeroValue4
  t5 := Tryz.underlying5
  a5 := Tryz.isAgg5
  z5 := Tryz.sizeOf5
  v5 := Tryz.zeroValue5
  t9 := Tryz.underlying9
  a9 := Tryz.isAgg9
  z9 := Tryz.sizeOf9
  v9 := Tryz.zeroValue9
  t46 := Tryz.underlying41
  a46 := Tryz.isAgg41
  z46 := Tryz.sizeOf41
  v46 := Tryz.zeroValue41
  t51 := Tryz.underlying142
  a51 := Tryz.isAgg142
  z51 := Tryz.sizeOf142
  v51 := Tryz.zeroValue142
  t146 := Tryz.underlying151
  a146 := Tryz.isAgg151
  z146 := Tryz.sizeOf151
  v146 := Tryz.zeroValue151
  g1 := by kernel_rfl
  i0 := by kernel_rfl
  i3 := by kernel_rfl
  i4 := by kernel_rfl
  i5 := by kernel_rfl
  i9 := by kernel_rfl
  i46 := by kernel_rfl
  i51 := by kernel_rfl
  i146 := by kernel_rfl
  m1 := by kernel_rfl
  s1_3 := fun w h => Go.Proofs.cell_of_shapedOpen_int (zero := #[.int .i64 0]) (t := 3) h (of_decide_eq_true (by kernel_rfl)) (by kernel_rfl) rfl (by kernel_rfl) (by kernel_rfl) Tryz.underlying3 }
open Go.RowKit Go.Lib in
theorem Tryz.strings_Count_shaped (s sub : ByteArray) (w : World) (h : w.ShapedOpen Tryz.prog) (hs : s.size < 4294967281) (h2 : 2 ≤ sub.size) :
    Calls Tryz.prog 91 #[.string s, .string sub] w fun e w' => e = .returned (.int .i64 (Lib.countB s sub)) ∧ w' = w := Any.strings_Count_shaped Tryz.laysM138 s sub w h hs h2
def Tryz.lays206_ren : Go.Shelf.Ren := ⟨fun | 206 => 65 | n => n, fun | 9 => 9 | 4 => 4 | 3 => 3 | n => n, fun | n => n⟩
theorem Tryz.lays206 : Go.Proofs.Lays.n206 Tryz.prog Tryz.lays206_ren := {
  mixed := by kernel_rfl
  f206 := Tryz.func65.trans (congrArg some (by kernel_rfl))
  t3 := Tryz.underlying3
  a3 := Tryz.isAgg3
  z3 := Tryz.sizeOf3
  v3 := Tryz.zeroValue3
  t4 := Tryz.underlying4
  a4 := Tryz.isAgg4
  z4 := Tryz.sizeOf4
  v4 := Tryz.zeroValue4
  t9 := Tryz.underlying9
  a9 := Tryz.isAgg9
  z9 := Tryz.sizeOf9
  v9 := Tryz.zeroValue9 }
open Go.RowKit Go.Lib in
/-- internal/stringslite.HasPrefix (what strings.HasPrefix calls). (LAID: no walk: one application.) -/
theorem Tryz.stringslite_HasPrefix (s p : ByteArray) (w : World) :
    Calls Tryz.prog 65 #[.string s, .string p] w fun e w' => e = .returned (.bool (Lib.hasPrefix s.data.toList p.data.toList)) ∧ w' = w := Any.stringslite_HasPrefix Tryz.lays206 s p w
def Tryz.lays99_ren : Go.Shelf.Ren := ⟨fun | 99 => 44 | 206 => 65 | n => n, fun | 9 => 9 | 4 => 4 | 3 => 3 | n => n, fun | n => n⟩
theorem Tryz.lays99 : Go.Proofs.Lays.n99 Tryz.prog Tryz.lays99_ren := {
  mixed := by kernel_rfl
  f99 := Tryz.func44.trans (congrArg some (by kernel_rfl))
  f206 := Tryz.func65.trans (congrArg some (by kernel_rfl))
  t3 := Tryz.underlying3
  a3 := Tryz.isAgg3
  z3 := Tryz.sizeOf3
  v3 := Tryz.zeroValue3
  t4 := Tryz.underlying4
  a4 := Tryz.isAgg4
  z4 := Tryz.sizeOf4
  v4 := Tryz.zeroValue4
  t9 := Tryz.underlying9
  a9 := Tryz.isAgg9
  z9 := Tryz.sizeOf9
  v9 := Tryz.zeroValue9 }
open Go.RowKit Go.Lib in
/-- strings.HasPrefix: "HasPrefix reports whether the string s begins with prefix.": IT RETURNS 'Lib.hasPrefix s prefix'; the world is as it was. (LAID: no walk: one application.) -/
theorem Tryz.strings_HasPrefix (s p : ByteArray) (w : World) :
    Calls Tryz.prog 44 #[.string s, .string p] w fun e w' => e = .returned (.bool (Lib.hasPrefix s.data.toList p.data.toList)) ∧ w' = w := Any.strings_HasPrefix Tryz.lays99 s p w
def Tryz.lays207_ren : Go.Shelf.Ren := ⟨fun | 207 => 59 | n => n, fun | 9 => 9 | 4 => 4 | 3 => 3 | n => n, fun | n => n⟩
theorem Tryz.lays207 : Go.Proofs.Lays.n207 Tryz.prog Tryz.lays207_ren := {
  mixed := by kernel_rfl
  f207 := Tryz.func59.trans (congrArg some (by kernel_rfl))
  t3 := Tryz.underlying3
  a3 := Tryz.isAgg3
  z3 := Tryz.sizeOf3
  v3 := Tryz.zeroValue3
  t4 := Tryz.underlying4
  a4 := Tryz.isAgg4
  z4 := Tryz.sizeOf4
  v4 := Tryz.zeroValue4
  t9 := Tryz.underlying9
  a9 := Tryz.isAgg9
  z9 := Tryz.sizeOf9
  v9 := Tryz.zeroValue9 }
open Go.RowKit Go.Lib in
/-- internal/stringslite.HasSuffix (what strings.HasSuffix calls). (LAID: no walk: one application.) -/
theorem Tryz.stringslite_HasSuffix (s p : ByteArray) (w : World) (hs : s.size ≤ 9223372036854775807) :
    Calls Tryz.prog 59 #[.string s, .string p] w fun e w' => e = .returned (.bool (Lib.hasSuffix s.data.toList p.data.toList)) ∧ w' = w := Any.stringslite_HasSuffix Tryz.lays207 s p w hs
def Tryz.lays100_ren : Go.Shelf.Ren := ⟨fun | 100 => 35 | 207 => 59 | n => n, fun | 9 => 9 | 4 => 4 | 3 => 3 | n => n, fun | n => n⟩
theorem Tryz.lays100 : Go.Proofs.Lays.n100 Tryz.prog Tryz.lays100_ren := {
  mixed := by kernel_rfl
  f100 := Tryz.func35.trans (congrArg some (by kernel_rfl))
  f207 := Tryz.func59.trans (congrArg some (by kernel_rfl))
  t3 := Tryz.underlying3
  a3 := Tryz.isAgg3
  z3 := Tryz.sizeOf3
  v3 := Tryz.zeroValue3
  t4 := Tryz.underlying4
  a4 := Tryz.isAgg4
  z4 := Tryz.sizeOf4
  v4 := Tryz.zeroValue4
  t9 := Tryz.underlying9
  a9 := Tryz.isAgg9
  z9 := Tryz.sizeOf9
  v9 := Tryz.zeroValue9 }
open Go.RowKit Go.Lib in
/-- strings.HasSuffix: "HasSuffix reports whether the string s ends with suffix.": IT RETURNS 'Lib.hasSuffix s suffix'; the world is as it was. ('hs': no Go string is longer: a caller has it of every string that it was handed.) (LAID: no walk: one application.) -/
theorem Tryz.strings_HasSuffix (s p : ByteArray) (w : World) (hs : s.size ≤ 9223372036854775807) :
    Calls Tryz.prog 35 #[.string s, .string p] w fun e w' => e = .returned (.bool (Lib.hasSuffix s.data.toList p.data.toList)) ∧ w' = w := Any.strings_HasSuffix Tryz.lays100 s p w hs
def Tryz.lays208_ren : Go.Shelf.Ren := ⟨fun | 208 => 69 | 206 => 65 | n => n, fun | 9 => 9 | 4 => 4 | 3 => 3 | n => n, fun | n => n⟩
theorem Tryz.lays208 : Go.Proofs.Lays.n208 Tryz.prog Tryz.lays208_ren := {
  mixed := by kernel_rfl
  f206 := Tryz.func65.trans (congrArg some (by kernel_rfl))
  f208 := Tryz.func69.trans (congrArg some (by kernel_rfl))
  t3 := Tryz.underlying3
  a3 := Tryz.isAgg3
  z3 := Tryz.sizeOf3
  v3 := Tryz.zeroValue3
  t4 := Tryz.underlying4
  a4 := Tryz.isAgg4
  z4 := Tryz.sizeOf4
  v4 := Tryz.zeroValue4
  t9 := Tryz.underlying9
  a9 := Tryz.isAgg9
  z9 := Tryz.sizeOf9
  v9 := Tryz.zeroValue9 }
open Go.RowKit Go.Lib in
/-- internal/stringslite.TrimPrefix (what strings.TrimPrefix calls). (LAID: no walk: one application.) -/
theorem Tryz.stringslite_TrimPrefix (s p : ByteArray) (w : World) :
    Calls Tryz.prog 69 #[.string s, .string p] w fun e w' => e = .returned (.string ⟨(Lib.trimPrefix s.data.toList p.data.toList).toArray⟩) ∧ w' = w := Any.stringslite_TrimPrefix Tryz.lays208 s p w
def Tryz.lays101_ren : Go.Shelf.Ren := ⟨fun | 101 => 47 | 208 => 69 | 206 => 65 | n => n, fun | 9 => 9 | 4 => 4 | 3 => 3 | n => n, fun | n => n⟩
theorem Tryz.lays101 : Go.Proofs.Lays.n101 Tryz.prog Tryz.lays101_ren := {
  mixed := by kernel_rfl
  f101 := Tryz.func47.trans (congrArg some (by kernel_rfl))
  f206 := Tryz.func65.trans (congrArg some (by kernel_rfl))
  f208 := Tryz.func69.trans (congrArg some (by kernel_rfl))
  t3 := Tryz.underlying3
  a3 := Tryz.isAgg3
  z3 := Tryz.sizeOf3
  v3 := Tryz.zeroValue3
  t4 := Tryz.underlying4
  a4 := Tryz.isAgg4
  z4 := Tryz.sizeOf4
  v4 := Tryz.zeroValue4
  t9 := Tryz.underlying9
  a9 := Tryz.isAgg9
  z9 := Tryz.sizeOf9
  v9 := Tryz.zeroValue9 }
open Go.RowKit Go.Lib in
/-- strings.TrimPrefix: "TrimPrefix returns s without the provided leading prefix string. If s doesn't start with prefix, s is returned unchanged.": IT RETURNS 'Lib.trimPrefix s prefix'; the world is as it was. (LAID: no walk: one application.) -/
theorem Tryz.strings_TrimPrefix (s p : ByteArray) (w : World) :
    Calls Tryz.prog 47 #[.string s, .string p] w fun e w' => e = .returned (.string ⟨(Lib.trimPrefix s.data.toList p.data.toList).toArray⟩) ∧ w' = w := Any.strings_TrimPrefix Tryz.lays101 s p w
open Go.RowKit Go.Lib in
/-- strings.Count at whatever sep that is not empty: the two roads under one statement. (LAID: no walk: one application.) -/
theorem Tryz.strings_Count_any (s sep : ByteArray) (m : Int) (w : World) (hs : s.size < 4294967281) (hm : w.cell? ⟨6, 0, none⟩ = some (.int .i64 m)) (h1 : 1 ≤ sep.size) :
    Calls Tryz.prog 91 #[.string s, .string sep] w fun e w' => e = .returned (.int .i64 (Lib.countB s sep)) ∧ w' = w := Any.strings_Count_any Tryz.lays138 s sep m w hs hm h1
def Tryz.lays221_ren : Go.Shelf.Ren := ⟨fun | 221 => 68 | 268 => 90 | 138 => 91 | 143 => 92 | 195 => 110 | 197 => 111 | 218 => 112 | 219 => 113 | 260 => 127 | 217 => 128 | 225 => 129 | 224 => 130 | 267 => 131 | 266 => 137 | 314 => 138 | n => n, fun | 9 => 9 | 3 => 3 | 31 => 22 | 4 => 4 | 0 => 0 | 105 => 123 | 21 => 21 | 5 => 5 | 46 => 41 | 119 => 147 | 139 => 150 | 138 => 149 | 146 => 151 | 51 => 142 | n => n, fun | 1 => 6 | 3 => 7 | 4 => 8 | n => n⟩
theorem Tryz.lays221 : Go.Proofs.Lays.n221 Tryz.prog Tryz.lays221_ren := {
  mixed := by kernel_rfl
  f138 := Tryz.func91.trans (congrArg some (by kernel_rfl))
  f143 := Tryz.func92.trans (congrArg some (by kernel_rfl))
  f195 := Tryz.func110.trans (congrArg some (by kernel_rfl))
  f197 := Tryz.func111.trans (congrArg some (by kernel_rfl))
  f217 := Tryz.func128.trans (congrArg some (by kernel_rfl))
  f218 := Tryz.func112.trans (congrArg some (by kernel_rfl))
  f219 := Tryz.func113.trans (congrArg some (by kernel_rfl))
  f221 := Tryz.func68.trans (congrArg some (by kernel_rfl))
  f224 := Tryz.func130.trans (congrArg some (by kernel_rfl))
  f225 := Tryz.func129.trans (congrArg some (by kernel_rfl))
  f260 := Tryz.func127.trans (congrArg some (by kernel_rfl))
  f266 := Tryz.func137.trans (congrArg some (by kernel_rfl))
  f267 := Tryz.func131.trans (congrArg some (by kernel_rfl))
  f268 := Tryz.func90.trans (congrArg some (by kernel_rfl))
  f314 := Tryz.func138.trans (congrArg some (by kernel_rfl))
  t0 := Tryz.underlying0
  a0 := Tryz.isAgg0
  z0 := Tryz.sizeOf0
  v0 := Tryz.zeroValue0
  t3 := Tryz.underlying3
  a3 := Tryz.isAgg3
  z3 := Tryz.sizeOf3
  v3 := Tryz.zeroValue3
  t4 := Tryz.underlying4
  a4 := Tryz.isAgg4
  z4 := Tryz.sizeOf4
  v4 := Tryz.zeroValue4
  t5 := Tryz.underlying5
  a5 := Tryz.isAgg5
  z5 := Tryz.sizeOf5
  v5 := Tryz.zeroValue5
  t9 := Tryz.underlying9
  a9 := Tryz.isAgg9
  z9 := Tryz.sizeOf9
  v9 := Tryz.zeroValue9
  t21 := Tryz.underlying21
  a21 := Tryz.isAgg21
  z21 := Tryz.sizeOf21
  v21 := Tryz.zeroValue21
  t31 := Tryz.underlying22
  a31 := Tryz.isAgg22
  z31 := Tryz.sizeOf22
  v31 := Tryz.zeroValue22
  t46 := Tryz.underlying41
  a46 := Tryz.isAgg41
  z46 := Tryz.sizeOf41
  v46 := Tryz.zeroValue41
  t51 := Tryz.underlying142
  a51 := Tryz.isAgg142
  z51 := Tryz.sizeOf142
  v51 := Tryz.zeroValue142
  t105 := Tryz.underlying123
  a105 := Tryz.isAgg123
  z105 := Tryz.sizeOf123
  v105 := Tryz.zeroValue123
  t119 := Tryz.underlying147
  a119 := Tryz.isAgg147
  z119 := Tryz.sizeOf147
  t138 := Tryz.underlying149
  a138 := Tryz.isAgg149
  z138 := Tryz.sizeOf149
  v138 := Tryz.zeroValue149
  t139 := Tryz.underlying150
  a139 := Tryz.isAgg150
  z139 := Tryz.sizeOf150
  v139 := Tryz.zeroValue150
  t146 := Tryz.underlying151
  a146 := Tryz.isAgg151
  z146 := Tryz.sizeOf151
  v146 := Tryz.zeroValue151
  g1 := by kernel_rfl
  g3 := by kernel_rfl
  g4 := by kernel_rfl }
open Go.RowKit Go.Lib in
theorem Tryz.strings_genSplit (s sep : ByteArray) (sv : Nat) (n : Int) (N : Nat) (m : Int) (w : World) (hs : s.size < 4294967281) (hm : w.cell? ⟨6, 0, none⟩ = some (.int .i64 m)) (h1 : 1 ≤ sep.size) (hsv : sv ≤ sep.size) (hn0 : n ≠ 0) (hn63 : n ≤ 9223372036854775807) (hN : (N : Int) = min (if n < 0 then (Lib.countB s sep : Int) + 1 else n) ((s.size : Int) + 1)) :
    Calls Tryz.prog 68 #[.string s, .string sep, .int .i64 sv, .int .i64 n] w fun e w' =>
      e = .returned (.slice (some ⟨w.heap.size, 0, none⟩) (Lib.splitB sep sv (N - 1) s).length N) ∧ w' = w.alloc (.cells (Lib.cellsOf (Lib.splitB sep sv (N - 1) s) N) 9) := Any.strings_genSplit Tryz.lays221 (by kernel_rfl) s sep sv n N m w hs hm h1 hsv hn0 hn63 hN
def Tryz.lays146_ren : Go.Shelf.Ren := ⟨fun | 146 => 46 | 221 => 68 | 268 => 90 | 138 => 91 | 143 => 92 | 195 => 110 | 197 => 111 | 218 => 112 | 219 => 113 | 260 => 127 | 217 => 128 | 225 => 129 | 224 => 130 | 267 => 131 | 266 => 137 | 314 => 138 | n => n, fun | 9 => 9 | 31 => 22 | 3 => 3 | 4 => 4 | 0 => 0 | 105 => 123 | 21 => 21 | 5 => 5 | 46 => 41 | 119 => 147 | 139 => 150 | 138 => 149 | 146 => 151 | 51 => 142 | n => n, fun | 1 => 6 | 3 => 7 | 4 => 8 | n => n⟩
theorem Tryz.lays146 : Go.Proofs.Lays.n146 Tryz.prog Tryz.lays146_ren := {
  mixed := by kernel_rfl
  f138 := Tryz.func91.trans (congrArg some (by kernel_rfl))
  f143 := Tryz.func92.trans (congrArg some (by kernel_rfl))
  f146 := Tryz.func46.trans (congrArg some (by kernel_rfl))
  f195 := Tryz.func110.trans (congrArg some (by kernel_rfl))
  f197 := Tryz.func111.trans (congrArg some (by kernel_rfl))
  f217 := Tryz.func128.trans (congrArg some (by kernel_rfl))
  f218 := Tryz.func112.trans (congrArg some (by kernel_rfl))
  f219 := Tryz.func113.trans (congrArg some (by kernel_rfl))
  f221 := Tryz.func68.trans (congrArg some (by kernel_rfl))
  f224 := Tryz.func130.trans (congrArg some (by kernel_rfl))
  f225 := Tryz.func129.trans (congrArg some (by kernel_rfl))
  f260 := Tryz.func127.trans (congrArg some (by kernel_rfl))
  f266 := Tryz.func137.trans (congrArg some (by kernel_rfl))
  f267 := Tryz.func131.trans (congrArg some (by kernel_rfl))
  f268 := Tryz.func90.trans (congrArg some (by kernel_rfl))
  f314 := Tryz.func138.trans (congrArg some (by kernel_rfl))
  t0 := Tryz.underlying0
  a0 := Tryz.isAgg0
  z0 := Tryz.sizeOf0
  v0 := Tryz.zeroValue0
  t3 := Tryz.underlying3
  a3 := Tryz.isAgg3
  z3 := Tryz.sizeOf3
  v3 := Tryz.zeroValue3
  t4 := Tryz.underlying4
  a4 := Tryz.isAgg4
  z4 := Tryz.sizeOf4
  v4 := Tryz.zeroValue4
  t5 := Tryz.underlying5
  a5 := Tryz.isAgg5
  z5 := Tryz.sizeOf5
  v5 := Tryz.zeroValue5
  t9 := Tryz.underlying9
  a9 := Tryz.isAgg9
  z9 := Tryz.sizeOf9
  v9 := Tryz.zeroValue9
  t21 := Tryz.underlying21
  a21 := Tryz.isAgg21
  z21 := Tryz.sizeOf21
  v21 := Tryz.zeroValue21
  t31 := Tryz.underlying22
  a31 := Tryz.isAgg22
  z31 := Tryz.sizeOf22
  v31 := Tryz.zeroValue22
  t46 := Tryz.underlying41
  a46 := Tryz.isAgg41
  z46 := Tryz.sizeOf41
  v46 := Tryz.zeroValue41
  t51 := Tryz.underlying142
  a51 := Tryz.isAgg142
  z51 := Tryz.sizeOf142
  v51 := Tryz.zeroValue142
  t105 := Tryz.underlying123
  a105 := Tryz.isAgg123
  z105 := Tryz.sizeOf123
  v105 := Tryz.zeroValue123
  t119 := Tryz.underlying147
  a119 := Tryz.isAgg147
  z119 := Tryz.sizeOf147
  t138 := Tryz.underlying149
  a138 := Tryz.isAgg149
  z138 := Tryz.sizeOf149
  v138 := Tryz.zeroValue149
  t139 := Tryz.underlying150
  a139 := Tryz.isAgg150
  z139 := Tryz.sizeOf150
  v139 := Tryz.zeroValue150
  t146 := Tryz.underlying151
  a146 := Tryz.isAgg151
  z146 := Tryz.sizeOf151
  v146 := Tryz.zeroValue151
  g1 := by kernel_rfl
  g3 := by kernel_rfl
  g4 := by kernel_rfl }
open Go.RowKit Go.Lib in
/-- strings.Split. (LAID: no walk: one application.) -/
theorem Tryz.strings_Split (s sep : ByteArray) (m : Int) (w : World) (hs : s.size < 4294967281) (hm : w.cell? ⟨6, 0, none⟩ = some (.int .i64 m)) (h1 : 1 ≤ sep.size) :
    Calls Tryz.prog 46 #[.string s, .string sep] w fun e w' =>
      e = .returned (.slice (some ⟨w.heap.size, 0, none⟩) (Lib.countB s sep + 1) (Lib.countB s sep + 1)) ∧ w' = w.alloc (.cells ((Lib.splitB sep 0 (Lib.countB s sep) s).map Value.string).toArray 9) := Any.strings_Split Tryz.lays146 (by kernel_rfl) s sep m w hs hm h1
def Tryz.laysM146_ren : Go.Shelf.Ren := ⟨fun | 146 => 46 | 221 => 68 | 268 => 90 | 138 => 91 | 143 => 92 | 195 => 110 | 197 => 111 | 218 => 112 | 219 => 113 | 260 => 127 | 217 => 128 | 225 => 129 | 224 => 130 | 267 => 131 | 266 => 137 | 314 => 138 | n => n, fun | 9 => 9 | 31 => 22 | 3 => 3 | 4 => 4 | 0 => 0 | 105 => 123 | 21 => 21 | 5 => 5 | 46 => 41 | 119 => 147 | 139 => 150 | 138 => 149 | 146 => 151 | 51 => 142 | n => n, fun | 1 => 6 | 3 => 7 | 4 => 8 | n => n⟩
theorem Tryz.laysM146 : Go.Proofs.LaysM.n146 Tryz.prog Tryz.laysM146_ren := {
  mixed := by kernel_rfl
  f138 := Tryz.func91.trans (congrArg some (by kernel_rfl))
  f143 := Tryz.func92.trans (congrArg some (by kernel_rfl))
  f146 := Tryz.func46.trans (congrArg some (by kernel_rfl))
  f195 := Tryz.func110.trans (congrArg some (by kernel_rfl))
  f197 := Tryz.func111.trans (congrArg some (by kernel_rfl))
  f217 := Tryz.func128.trans (congrArg some (by kernel_rfl))
  f218 := Tryz.func112.trans (congrArg some (by kernel_rfl))
  f219 := Tryz.func113.trans (congrArg some (by kernel_rfl))
  f221 := Tryz.func68.trans (congrArg some (by kernel_rfl))
  f224 := Tryz.func130.trans (congrArg some (by kernel_rfl))
  f225 := Tryz.func129.trans (congrArg some (by kernel_rfl))
  f260 := Tryz.func127.trans (congrArg some (by kernel_rfl))
  f266 := Tryz.func137.trans (congrArg some (by kernel_rfl))
  f267 := Tryz.func131.trans (congrArg some (by kernel_rfl))
  f268 := Tryz.func90.trans (congrArg some (by kernel_rfl))
  f314 := Tryz.func138.trans (congrArg some (by kernel_rfl))
  t0 := Tryz.underlying0
  a0 := Tryz.isAgg0
  z0 := Tryz.sizeOf0
  v0 := Tryz.zeroValue0
  t3 := Tryz.underlying3
  a3 := Tryz.isAgg3
  z3 := Tryz.sizeOf3
  v3 := Tryz.zeroValue3
  t4 := Tryz.underlying4
  a4 := Tryz.isAgg4
  z4 := Tryz.sizeOf4
  v4 := Tryz.zeroValue4
  t5 := Tryz.underlying5
  a5 := Tryz.isAgg5
  z5 := Tryz.sizeOf5
  v5 := Tryz.zeroValue5
  t9 := Tryz.underlying9
  a9 := Tryz.isAgg9
  z9 := Tryz.sizeOf9
  v9 := Tryz.zeroValue9
  t21 := Tryz.underlying21
  a21 := Tryz.isAgg21
  z21 := Tryz.sizeOf21
  v21 := Tryz.zeroValue21
  t31 := Tryz.underlying22
  a31 := Tryz.isAgg22
  z31 := Tryz.sizeOf22
  v31 := Tryz.zeroValue22
  t46 := Tryz.underlying41
  a46 := Tryz.isAgg41
  z46 := Tryz.sizeOf41
  v46 := Tryz.zeroValue41
  t51 := Tryz.underlying142
  a51 := Tryz.isAgg142
  z51 := Tryz.sizeOf142
  v51 := Tryz.zeroValue142
  t105 := Tryz.underlying123
  a105 := Tryz.isAgg123
  z105 := Tryz.sizeOf123
  v105 := Tryz.zeroValue123
  t119 := Tryz.underlying147
  a119 := Tryz.isAgg147
  z119 := Tryz.sizeOf147
  t138 := Tryz.underlying149
  a138 := Tryz.isAgg149
  z138 := Tryz.sizeOf149
  v138 := Tryz.zeroValue149
  t139 := Tryz.underlying150
  a139 := Tryz.isAgg150
  z139 := Tryz.sizeOf150
  v139 := Tryz.zeroValue150
  t146 := Tryz.underlying151
  a146 := Tryz.isAgg151
  z146 := Tryz.sizeOf151
  v146 := Tryz.zeroValue151
  g1 := by kernel_rfl
  g3 := by kernel_rfl
  g4 := by kernel_rfl
  i0 := by kernel_rfl
  i3 := by kernel_rfl
  i4 := by kernel_rfl
  i5 := by kernel_rfl
  i9 := by kernel_rfl
  i21 := by kernel_rfl
  i31 := by kernel_rfl
  i46 := by kernel_rfl
  i51 := by kernel_rfl
  i105 := by kernel_rfl
  i138 := by kernel_rfl
  i139 := by kernel_rfl
  i146 := by kernel_rfl
  m1 := by kernel_rfl
  s1_3 := fun w h => Go.Proofs.cell_of_shapedOpen_int (zero := #[.int .i64 0]) (t := 3) h (of_decide_eq_true (by kernel_rfl)) (by kernel_rfl) rfl (by kernel_rfl) (by kernel_rfl) Tryz.underlying3
  m3 := by kernel_rfl
  m4 := by kernel_rfl }
open Go.RowKit Go.Lib in
/-- strings.Split, sep not empty. (LAID: no walk: one application.) -/
theorem Tryz.strings_Split_shaped (s sep : ByteArray) (w : World) (h : w.ShapedOpen Tryz.prog) (hs : s.size < 4294967281) (h1 : 1 ≤ sep.size) :
    Calls Tryz.prog 46 #[.string s, .string sep] w fun e w' =>
      e = .returned (.slice (some ⟨w.heap.size, 0, none⟩) (Lib.countB s sep + 1) (Lib.countB s sep + 1)) ∧ w' = w.alloc (.cells ((Lib.splitB sep 0 (Lib.countB s sep) s).map Value.string).toArray 9) := Any.strings_Split_shaped Tryz.laysM146 s sep w h hs h1
def Tryz.lays197_ren : Go.Shelf.Ren := ⟨fun | 197 => 111 | 260 => 127 | n => n, fun | 9 => 9 | 21 => 21 | 3 => 3 | 4 => 4 | 5 => 5 | 105 => 123 | 119 => 147 | 0 => 0 | 46 => 41 | 139 => 150 | 138 => 149 | n => n, fun | 3 => 7 | 4 => 8 | n => n⟩
theorem Tryz.lays197 : Go.Proofs.Lays.n197 Tryz.prog Tryz.lays197_ren := {
  mixed := by kernel_rfl
  f197 := Tryz.func111.trans (congrArg some (by kernel_rfl))
  f260 := Tryz.func127.trans (congrArg some (by kernel_rfl))
  t0 := Tryz.underlying0
  a0 := Tryz.isAgg0
  z0 := Tryz.sizeOf0
  v0 := Tryz.zeroValue0
  t3 := Tryz.underlying3
  a3 := Tryz.isAgg3
  z3 := Tryz.sizeOf3
  v3 := Tryz.zeroValue3
  t4 := Tryz.underlying4
  a4 := Tryz.isAgg4
  z4 := Tryz.sizeOf4
  v4 := Tryz.zeroValue4
  t5 := Tryz.underlying5
  a5 := Tryz.isAgg5
  z5 := Tryz.sizeOf5
  v5 := Tryz.zeroValue5
  t9 := Tryz.underlying9
  a9 := Tryz.isAgg9
  z9 := Tryz.sizeOf9
  v9 := Tryz.zeroValue9
  t21 := Tryz.underlying21
  a21 := Tryz.isAgg21
  z21 := Tryz.sizeOf21
  v21 := Tryz.zeroValue21
  t46 := Tryz.underlying41
  a46 := Tryz.isAgg41
  z46 := Tryz.sizeOf41
  v46 := Tryz.zeroValue41
  t105 := Tryz.underlying123
  a105 := Tryz.isAgg123
  z105 := Tryz.sizeOf123
  v105 := Tryz.zeroValue123
  t119 := Tryz.underlying147
  a119 := Tryz.isAgg147
  z119 := Tryz.sizeOf147
  t138 := Tryz.underlying149
  a138 := Tryz.isAgg149
  z138 := Tryz.sizeOf149
  v138 := Tryz.zeroValue149
  t139 := Tryz.underlying150
  a139 := Tryz.isAgg150
  z139 := Tryz.sizeOf150
  v139 := Tryz.zeroValue150
  g3 := by kernel_rfl
  g4 := by kernel_rfl }
open Go.RowKit Go.Lib in
/-- unicode/utf8.DecodeRuneInString: "DecodeRuneInString is like DecodeRune but its input is a string.": ("DecodeRune unpacks the first UTF-8 encoding in p and returns the rune and its width in bytes."): WHERE s BEGINS WITH AN ASCII BYTE x: (x, 1). (LAID: no walk: one application.) -/
theorem Tryz.utf8_DecodeRuneInString_ascii (s : ByteArray) (x : UInt8) (w : World) (h0 : s.data.toList[0]? = some x) (hx : x.toNat < 128) :
    Calls Tryz.prog 111 #[.string s] w fun e w' => e = .returned (.tuple #[.int .i32 x.toNat, .int .i64 1]) ∧ w' = w := Any.utf8_DecodeRuneInString_ascii Tryz.lays197 s x w h0 hx
def Tryz.lays195_ren : Go.Shelf.Ren := ⟨fun | 195 => 110 | n => n, fun | 9 => 9 | 3 => 3 | 0 => 0 | 4 => 4 | n => n, fun | n => n⟩
theorem Tryz.lays195 : Go.Proofs.Lays.n195 Tryz.prog Tryz.lays195_ren := {
  mixed := by kernel_rfl
  f195 := Tryz.func110.trans (congrArg some (by kernel_rfl))
  t0 := Tryz.underlying0
  a0 := Tryz.isAgg0
  z0 := Tryz.sizeOf0
  v0 := Tryz.zeroValue0
  t3 := Tryz.underlying3
  a3 := Tryz.isAgg3
  z3 := Tryz.sizeOf3
  v3 := Tryz.zeroValue3
  t4 := Tryz.underlying4
  a4 := Tryz.isAgg4
  z4 := Tryz.sizeOf4
  v4 := Tryz.zeroValue4
  t9 := Tryz.underlying9
  a9 := Tryz.isAgg9
  z9 := Tryz.sizeOf9
  v9 := Tryz.zeroValue9 }
open Go.RowKit Go.Lib in
theorem Tryz.utf8_RuneCountInString_ascii (s : ByteArray) (w : World) (hs : s.size < 4294967281) (hascii : ∀ (j : Nat) b, s.data.toList[j]? = some b → b.toNat < 128) :
    Calls Tryz.prog 110 #[.string s] w fun e w' => e = .returned (.int .i64 s.size) ∧ w' = w.iter s s.size := Any.utf8_RuneCountInString_ascii Tryz.lays195 s w hs hascii
def Tryz.lays268_ren : Go.Shelf.Ren := ⟨fun | 268 => 90 | 195 => 110 | 197 => 111 | 260 => 127 | n => n, fun | 9 => 9 | 3 => 3 | 31 => 22 | 4 => 4 | 105 => 123 | 21 => 21 | 0 => 0 | 5 => 5 | 119 => 147 | 46 => 41 | 139 => 150 | 138 => 149 | n => n, fun | 3 => 7 | 4 => 8 | n => n⟩
theorem Tryz.lays268 : Go.Proofs.Lays.n268 Tryz.prog Tryz.lays268_ren := {
  mixed := by kernel_rfl
  f195 := Tryz.func110.trans (congrArg some (by kernel_rfl))
  f197 := Tryz.func111.trans (congrArg some (by kernel_rfl))
  f260 := Tryz.func127.trans (congrArg some (by kernel_rfl))
  f268 := Tryz.func90.trans (congrArg some (by kernel_rfl))
  t0 := Tryz.underlying0
  a0 := Tryz.isAgg0
  z0 := Tryz.sizeOf0
  v0 := Tryz.zeroValue0
  t3 := Tryz.underlying3
  a3 := Tryz.isAgg3
  z3 := Tryz.sizeOf3
  v3 := Tryz.zeroValue3
  t4 := Tryz.underlying4
  a4 := Tryz.isAgg4
  z4 := Tryz.sizeOf4
  v4 := Tryz.zeroValue4
  t5 := Tryz.underlying5
  a5 := Tryz.isAgg5
  z5 := Tryz.sizeOf5
  v5 := Tryz.zeroValue5
  t9 := Tryz.underlying9
  a9 := Tryz.isAgg9
  z9 := Tryz.sizeOf9
  v9 := Tryz.zeroValue9
  t21 := Tryz.underlying21
  a21 := Tryz.isAgg21
  z21 := Tryz.sizeOf21
  v21 := Tryz.zeroValue21
  t31 := Tryz.underlying22
  a31 := Tryz.isAgg22
  z31 := Tryz.sizeOf22
  v31 := Tryz.zeroValue22
  t46 := Tryz.underlying41
  a46 := Tryz.isAgg41
  z46 := Tryz.sizeOf41
  v46 := Tryz.zeroValue41
  t105 := Tryz.underlying123
  a105 := Tryz.isAgg123
  z105 := Tryz.sizeOf123
  v105 := Tryz.zeroValue123
  t119 := Tryz.underlying147
  a119 := Tryz.isAgg147
  z119 := Tryz.sizeOf147
  t138 := Tryz.underlying149
  a138 := Tryz.isAgg149
  z138 := Tryz.sizeOf149
  v138 := Tryz.zeroValue149
  t139 := Tryz.underlying150
  a139 := Tryz.isAgg150
  z139 := Tryz.sizeOf150
  v139 := Tryz.zeroValue150
  g3 := by kernel_rfl
  g4 := by kernel_rfl }
open Go.RowKit Go.Lib in
theorem Tryz.strings_explode_all (s : ByteArray) (n : Int) (w : World) (hn : n < 0) (hs : s.size < 4294967281) (hascii : ∀ (j : Nat) b, s.data.toList[j]? = some b → b.toNat < 128) :
    Calls Tryz.prog 90 #[.string s, .int .i64 n] w fun e w' =>
      e = .returned (.slice (some ⟨(w.iter s s.size).heap.size, 0, none⟩) s.size s.size) ∧ w' = (w.iter s s.size).alloc (.cells ((Lib.charsB s).map Value.string).toArray 9) := Any.strings_explode_all Tryz.lays268 (by kernel_rfl) s n w hn hs hascii
open Go.RowKit Go.Lib in
/-- strings.genSplit at sep == "", n < 0: 'return explode(s, n)'. (LAID: no walk: one application.) -/
theorem Tryz.strings_genSplit_chars (s sep : ByteArray) (sv n : Int) (w : World) (h0 : sep.size = 0) (hn : n < 0) (hs : s.size < 4294967281) (hascii : ∀ (j : Nat) b, s.data.toList[j]? = some b → b.toNat < 128) :
    Calls Tryz.prog 68 #[.string s, .string sep, .int .i64 sv, .int .i64 n] w fun e w' =>
      e = .returned (.slice (some ⟨(w.iter s s.size).heap.size, 0, none⟩) s.size s.size) ∧ w' = (w.iter s s.size).alloc (.cells ((Lib.charsB s).map Value.string).toArray 9) := Any.strings_genSplit_chars Tryz.lays221 (by kernel_rfl) s sep sv n w h0 hn hs hascii
open Go.RowKit Go.Lib in
/-- strings.Split(s, ""), s ASCII: a piece a byte. (LAID: no walk: one application.) -/
theorem Tryz.strings_Split_chars (s sep : ByteArray) (w : World) (h0 : sep.size = 0) (hs : s.size < 4294967281) (hascii : ∀ (j : Nat) b, s.data.toList[j]? = some b → b.toNat < 128) :
    Calls Tryz.prog 46 #[.string s, .string sep] w fun e w' =>
      e = .returned (.slice (some ⟨(w.iter s s.size).heap.size, 0, none⟩) s.size s.size) ∧ w' = (w.iter s s.size).alloc (.cells ((Lib.charsB s).map Value.string).toArray 9) := Any.strings_Split_chars Tryz.lays146 (by kernel_rfl) s sep w h0 hs hascii
def Tryz.lays260_ren : Go.Shelf.Ren := ⟨fun | 260 => 127 | n => n, fun | 9 => 9 | 21 => 21 | 3 => 3 | 4 => 4 | 5 => 5 | 119 => 147 | 0 => 0 | 46 => 41 | 139 => 150 | 138 => 149 | n => n, fun | 3 => 7 | 4 => 8 | n => n⟩
theorem Tryz.lays260 : Go.Proofs.Lays.n260 Tryz.prog Tryz.lays260_ren := {
  mixed := by kernel_rfl
  f260 := Tryz.func127.trans (congrArg some (by kernel_rfl))
  t0 := Tryz.underlying0
  a0 := Tryz.isAgg0
  z0 := Tryz.sizeOf0
  v0 := Tryz.zeroValue0
  t3 := Tryz.underlying3
  a3 := Tryz.isAgg3
  z3 := Tryz.sizeOf3
  v3 := Tryz.zeroValue3
  t4 := Tryz.underlying4
  a4 := Tryz.isAgg4
  z4 := Tryz.sizeOf4
  v4 := Tryz.zeroValue4
  t5 := Tryz.underlying5
  a5 := Tryz.isAgg5
  z5 := Tryz.sizeOf5
  v5 := Tryz.zeroValue5
  t9 := Tryz.underlying9
  a9 := Tryz.isAgg9
  z9 := Tryz.sizeOf9
  v9 := Tryz.zeroValue9
  t21 := Tryz.underlying21
  a21 := Tryz.isAgg21
  z21 := Tryz.sizeOf21
  v21 := Tryz.zeroValue21
  t46 := Tryz.underlying41
  a46 := Tryz.isAgg41
  z46 := Tryz.sizeOf41
  v46 := Tryz.zeroValue41
  t119 := Tryz.underlying147
  a119 := Tryz.isAgg147
  z119 := Tryz.sizeOf147
  t138 := Tryz.underlying149
  a138 := Tryz.isAgg149
  z138 := Tryz.sizeOf149
  v138 := Tryz.zeroValue149
  t139 := Tryz.underlying150
  a139 := Tryz.isAgg150
  z139 := Tryz.sizeOf150
  v139 := Tryz.zeroValue150
  g3 := by kernel_rfl
  g4 := by kernel_rfl }
open Go.RowKit Go.Lib in
theorem Tryz.utf8_decodeRuneInStringSlow (s : ByteArray) (w : World) (hT : Lib.Utf8Tabs 7 8 w) :
    Calls Tryz.prog 127 #[.string s] w fun e w' => e = .returned (.tuple #[.int .i32 (Lib.decodeGo s).1, .int .i64 (Lib.decodeGo s).2]) ∧ Below w.heap.size w w' := Any.utf8_decodeRuneInStringSlow Tryz.lays260 s w hT
open Go.RowKit Go.Lib in
/-- **unicode/utf8.DecodeRuneInString AT EVERY STRING.** (LAID: no walk: one application.) -/
theorem Tryz.utf8_DecodeRuneInString (s : ByteArray) (w : World) (hT : Lib.Utf8Tabs 7 8 w) :
    Calls Tryz.prog 111 #[.string s] w fun e w' => e = .returned (.tuple #[.int .i32 (Lib.decodeGo s).1, .int .i64 (Lib.decodeGo s).2]) ∧ Below w.heap.size w w' := Any.utf8_DecodeRuneInString Tryz.lays197 s w hT
def Tryz.lays229_ren : Go.Shelf.Ren := ⟨fun | 229 => 94 | n => n, fun | 9 => 9 | 40 => 108 | 31 => 22 | 152 => 131 | 3 => 3 | 0 => 0 | 4 => 4 | 21 => 21 | 154 => 133 | n => n, fun | n => n⟩
theorem Tryz.lays229 : Go.Proofs.Lays.n229 Tryz.prog Tryz.lays229_ren := {
  mixed := by kernel_rfl
  f229 := Tryz.func94.trans (congrArg some (by kernel_rfl))
  t0 := Tryz.underlying0
  a0 := Tryz.isAgg0
  z0 := Tryz.sizeOf0
  v0 := Tryz.zeroValue0
  t3 := Tryz.underlying3
  a3 := Tryz.isAgg3
  z3 := Tryz.sizeOf3
  v3 := Tryz.zeroValue3
  t4 := Tryz.underlying4
  a4 := Tryz.isAgg4
  z4 := Tryz.sizeOf4
  v4 := Tryz.zeroValue4
  t9 := Tryz.underlying9
  a9 := Tryz.isAgg9
  z9 := Tryz.sizeOf9
  v9 := Tryz.zeroValue9
  t21 := Tryz.underlying21
  a21 := Tryz.isAgg21
  z21 := Tryz.sizeOf21
  v21 := Tryz.zeroValue21
  t31 := Tryz.underlying22
  a31 := Tryz.isAgg22
  z31 := Tryz.sizeOf22
  v31 := Tryz.zeroValue22
  t40 := Tryz.underlying108
  a40 := Tryz.isAgg108
  z40 := Tryz.sizeOf108
  v40 := Tryz.zeroValue108
  t152 := Tryz.underlying131
  a152 := Tryz.isAgg131
  z152 := Tryz.sizeOf131
  v152 := Tryz.zeroValue131
  t154 := Tryz.underlying133
  a154 := Tryz.isAgg133
  z154 := Tryz.sizeOf133
  v154 := Tryz.zeroValue133 }
open Go.RowKit Go.Lib in
theorem Tryz.strings_FieldsFunc_runes (g : Nat) (lb : Array Value) (eg : ∀ args w, (callFunc g args).run Tryz.prog w = .ok (.enter g args) w) (p : Nat → Bool) (s : ByteArray) (w : World) (hs : s.size ≤ 4294967296) (hp : PredAtRunes Tryz.prog g lb p w) :
    Calls Tryz.prog 94 #[.string s, .func (.func g) #[] lb] w fun e w' => ∃ A, e = .returned (.slice (some ⟨A, 0, none⟩) (Lib.goFieldsP p s).length (Lib.goFieldsP p s).length) ∧ w.heap.size ≤ A ∧
      w'.ownsRow w.heap.size 9 1 (.slice (some ⟨A, 0, none⟩) (Lib.goFieldsP p s).length (Lib.goFieldsP p s).length) (Lib.goFieldsP p s).length ((Lib.goFieldsP p s).map Value.string) ∧ Below w.heap.size w w' := Any.strings_FieldsFunc_runes Tryz.lays229 g lb eg p s w hs hp (by kernel_rfl) (by kernel_rfl)
open Go.RowKit Go.Lib in
/-- .. over a hand of the authors' house's premise as it stands. (LAID: no walk: one application.) -/
theorem Tryz.strings_FieldsFunc (g : Nat) (lb : Array Value) (eg : ∀ args w, (callFunc g args).run Tryz.prog w = .ok (.enter g args) w) (p : Nat → Bool) (s : ByteArray) (w : World) (hs : s.size ≤ 4294967296) (hp : PredAt Tryz.prog g lb encR p w) :
    Calls Tryz.prog 94 #[.string s, .func (.func g) #[] lb] w fun e w' => ∃ A, e = .returned (.slice (some ⟨A, 0, none⟩) (Lib.goFieldsP p s).length (Lib.goFieldsP p s).length) ∧ w.heap.size ≤ A ∧
      w'.ownsRow w.heap.size 9 1 (.slice (some ⟨A, 0, none⟩) (Lib.goFieldsP p s).length (Lib.goFieldsP p s).length) (Lib.goFieldsP p s).length ((Lib.goFieldsP p s).map Value.string) ∧ Below w.heap.size w w' := Any.strings_FieldsFunc Tryz.lays229 g lb eg p s w hs hp (by kernel_rfl) (by kernel_rfl)
open Go.RowKit Go.Lib in
theorem Tryz.strings_FieldsFunc_grows (g : Nat) (lb : Array Value) (eg : ∀ args w, (callFunc g args).run Tryz.prog w = .ok (.enter g args) w) (p : Nat → Bool) (s : ByteArray) (w : World) (hs : s.size ≤ 4294967296) (hp : PredGrows Tryz.prog g lb p w) :
    Calls Tryz.prog 94 #[.string s, .func (.func g) #[] lb] w fun e w' => ∃ A, e = .returned (.slice (some ⟨A, 0, none⟩) (Lib.goFieldsP p s).length (Lib.goFieldsP p s).length) ∧ w.heap.size ≤ A ∧
      w'.ownsRow w.heap.size 9 1 (.slice (some ⟨A, 0, none⟩) (Lib.goFieldsP p s).length (Lib.goFieldsP p s).length) (Lib.goFieldsP p s).length ((Lib.goFieldsP p s).map Value.string) ∧ Below w.heap.size w w' := Any.strings_FieldsFunc_grows Tryz.lays229 g lb eg p s w hs hp (by kernel_rfl) (by kernel_rfl)
def Tryz.laysNm216_ren : Go.Shelf.Ren := ⟨fun | 16 => 28 | n => n, fun | 24 => 22 | 9 => 9 | 4 => 4 | n => n, fun | n => n⟩
theorem Tryz.laysNm216 : Go.Proofs.Lays2.n16 Tryz.prog Tryz.laysNm216_ren := {
  mixed := by kernel_rfl
  f16 := Tryz.func28.trans (congrArg some (by kernel_rfl))
  t4 := Tryz.underlying4
  a4 := Tryz.isAgg4
  z4 := Tryz.sizeOf4
  v4 := Tryz.zeroValue4
  t9 := Tryz.underlying9
  a9 := Tryz.isAgg9
  z9 := Tryz.sizeOf9
  v9 := Tryz.zeroValue9
  t24 := Tryz.underlying22
  a24 := Tryz.isAgg22
  z24 := Tryz.sizeOf22
  v24 := Tryz.zeroValue22
  i9 := by kernel_rfl }
open Go.RowKit Go.Lib in
/-- slices.Clone at []string: "Clone returns a copy of the slice. The elements are copied using assignment, so this is a shallow clone. The result may have additional unused capacity. The result preserves the nilness of s.": OF A SLICE THAT IS NOT nil IT RETURNS A SLICE THAT IS NOT nil, OF THE SAME ELEMENTS, IN MEMORY OF THE CALL's OWN: in the how-to's words (6f): 'w'.ownsRow B e 1 v' n cells': v' begins at the head of a row among the blocks from B on (B: the heap's size at the call), not frozen, whose first cells are the elements · 'Below B w w'': below B all is as it was. The capacity is whatever the run-time gives. 'zs': what the cells behind the slice's address hold; 'zs.take n': its elements. (LAID: no walk: one application.) -/
theorem Tryz.slices_Clone_string (b off n c : Nat) (zs : List ByteArray) (w : World) (hz : n ≤ zs.length) (hbig : n * 16 ≤ 140737488355328) (hc : ∀ j, j < zs.length → w.cell? ⟨b, off + j, none⟩ = some (.string (zs.getD j ByteArray.empty))) :
    Calls Tryz.prog 28 #[.slice (some ⟨b, off, none⟩) n c] w fun e w' => ∃ v', e = .returned v' ∧ w'.ownsRow w.heap.size 9 1 v' n ((zs.take n).map (Value.string)) ∧ v' ≠ .slice none 0 0 ∧ Below w.heap.size w w' := Any.slices_Clone_string Tryz.laysNm216 b off n c zs w hz hbig hc
open Go.RowKit Go.Lib in
/-- The same at nil: nil comes back; the world is as it was. (LAID: no walk: one application.) -/
theorem Tryz.slices_Clone_string_nil (n c : Nat) (w : World) :
    Calls Tryz.prog 28 #[.slice none n c] w fun e w' => e = .returned (.slice none 0 0) ∧ w' = w := Any.slices_Clone_string_nil Tryz.laysNm216 n c w
open Go.RowKit Go.Lib in
/-- The same at a slice of length 0 that is not nil, WHATEVER ITS ADDRESS (no cell is asked for): a slice that is not nil and owns nothing comes back. (LAID: no walk: one application.) -/
theorem Tryz.slices_Clone_string_zero (a : Addr) (c : Nat) (w : World) :
    Calls Tryz.prog 28 #[.slice (some a) 0 c] w fun e w' => ∃ v', e = .returned v' ∧ w'.ownsRow w.heap.size 9 1 v' 0 [] ∧ v' ≠ .slice none 0 0 ∧ Below w.heap.size w w' := Any.slices_Clone_string_zero Tryz.laysNm216 a c w
def Tryz.laysSlH6_f50_ren : Go.Shelf.Ren := ⟨fun | 6 => 50 | n => n, fun | 22 => 22 | 23 => 9 | 25 => 45 | 3 => 3 | 0 => 0 | 4 => 4 | n => n, fun | n => n⟩
theorem Tryz.laysSlH6_f50 : Go.Proofs.SlLaysH.n6 Tryz.prog Tryz.laysSlH6_f50_ren := {
  mixed := by kernel_rfl
  f6 := ⟨Tryz.f50.name, by decide, Tryz.func50.trans (congrArg some (by kernel_rfl))⟩
  t0 := Tryz.underlying0
  a0 := Tryz.isAgg0
  z0 := Tryz.sizeOf0
  v0 := Tryz.zeroValue0
  t3 := Tryz.underlying3
  a3 := Tryz.isAgg3
  z3 := Tryz.sizeOf3
  v3 := Tryz.zeroValue3
  t4 := Tryz.underlying4
  a4 := Tryz.isAgg4
  z4 := Tryz.sizeOf4
  v4 := Tryz.zeroValue4
  t22 := Tryz.underlying22
  a22 := Tryz.isAgg22
  z22 := Tryz.sizeOf22
  v22 := Tryz.zeroValue22
  a23 := Tryz.isAgg9
  z23 := Tryz.sizeOf9
  t25 := Tryz.underlying45
  a25 := Tryz.isAgg45
  z25 := Tryz.sizeOf45
  v25 := Tryz.zeroValue45 }
open Go.RowKit Go.Lib in
/-- slices.IndexFunc: "IndexFunc returns the first index i satisfying f(s[i]), or -1 if none do." (LAID AT THE INSTANCE 'slices.IndexFunc[[]string,string]': no walk: one application.) -/
theorem Tryz.slices_IndexFunc {α : Type} [Inhabited α] (enc : α → Value) (p : α → Bool) (g : Nat) (lb : Array Value) (eg : ∀ args w, (callFunc g args).run Tryz.prog w = .ok (.enter g args) w) (b off n c : Nat) (zs : List α) (w : World) (hp : PredAt Tryz.prog g lb enc p w) (hz : n ≤ zs.length) (hbig : n ≤ 9223372036854775807) (hc : ∀ j, j < zs.length → w.cell? ⟨b, off + j, none⟩ = some (enc zs[j]!)) :
    Calls Tryz.prog 50 #[.slice (some ⟨b, off, none⟩) n c, .func (.func g) #[] lb] w fun e w' => e = .returned (.int .i64 (Lib.idxBy (fun _ y => p y) (zs.take n) default)) ∧ ∃ q, w' = w.drewN q := AnyE.slices_IndexFunc Tryz.laysSlH6_f50 enc p g lb eg b off n c zs w hp hz hbig hc
open Go.RowKit Go.Lib in
/-- The same at a slice of length 0, a nil one too: the predicate is not called: nothing is asked of it. (LAID AT THE INSTANCE 'slices.IndexFunc[[]string,string]': no walk: one application.) -/
theorem Tryz.slices_IndexFunc_empty {α : Type} [Inhabited α] (a : Option Addr) (c : Nat) (fv : Value) (w : World) :
    Calls Tryz.prog 50 #[.slice a 0 c, fv] w fun e w' => e = .returned (.int .i64 (-1)) ∧ w' = w := AnyE.slices_IndexFunc_empty Tryz.laysSlH6_f50 a c fv w
def Tryz.laysSlH10_f27_ren : Go.Shelf.Ren := ⟨fun | 10 => 27 | 6 => 50 | n => n, fun | 22 => 22 | 23 => 9 | 25 => 45 | 3 => 3 | 4 => 4 | 0 => 0 | n => n, fun | n => n⟩
theorem Tryz.laysSlH10_f27 : Go.Proofs.SlLaysH.n10 Tryz.prog Tryz.laysSlH10_f27_ren := {
  mixed := by kernel_rfl
  f6 := ⟨Tryz.f50.name, by decide, Tryz.func50.trans (congrArg some (by kernel_rfl))⟩
  f10 := ⟨Tryz.f27.name, by decide, Tryz.func27.trans (congrArg some (by kernel_rfl))⟩
  t0 := Tryz.underlying0
  a0 := Tryz.isAgg0
  z0 := Tryz.sizeOf0
  v0 := Tryz.zeroValue0
  t3 := Tryz.underlying3
  a3 := Tryz.isAgg3
  z3 := Tryz.sizeOf3
  v3 := Tryz.zeroValue3
  t4 := Tryz.underlying4
  a4 := Tryz.isAgg4
  z4 := Tryz.sizeOf4
  v4 := Tryz.zeroValue4
  t22 := Tryz.underlying22
  a22 := Tryz.isAgg22
  z22 := Tryz.sizeOf22
  v22 := Tryz.zeroValue22
  a23 := Tryz.isAgg9
  z23 := Tryz.sizeOf9
  t25 := Tryz.underlying45
  a25 := Tryz.isAgg45
  z25 := Tryz.sizeOf45
  v25 := Tryz.zeroValue45 }
open Go.RowKit Go.Lib Go.Sort in
theorem Tryz.slices_DeleteFunc {α : Type} [Inhabited α] (enc : α → Value) (hO : OneCell enc) (p : α → Bool) (g : Nat) (lb : Array Value) (eg : ∀ args w, (callFunc g args).run Tryz.prog w = .ok (.enter g args) w) (zr : α) (v23 : ∀ w, (zeroValue 9).run Tryz.prog w = .ok (enc zr) w) (blk off cap : Nat) (d : Array α) (w : World) (hp : PredAt Tryz.prog g lb enc p w) (hpo : PredOver Tryz.prog g lb enc p blk off d.size w) (hH : Holds enc w blk off d) (hsz : d.size ≤ 9223372036854775807) (hcap : d.size ≤ cap) :
    Calls Tryz.prog 27 #[.slice (some ⟨blk, off, none⟩) d.size cap, .func (.func g) #[] lb] w fun e w' => e = .returned (.slice (some ⟨blk, off, none⟩) (d.toList.filter fun x => !p x).length cap) ∧ ∃ q, w' = putRow enc (Sort.ahead w q) blk off ((d.toList.filter fun x => !p x) ++ List.replicate (d.size - (d.toList.filter fun x => !p x).length) zr).toArray := AnyE.slices_DeleteFunc Tryz.laysSlH10_f27 enc hO p g lb eg zr v23 blk off cap d w hp hpo hH hsz hcap
end Go.Proofs
/-
  Ext: functions of the library on texts, out of the kit's contracts. Own work of this seat.
-/
namespace Go.Proofs.YtanocopjancaiaaGreatDoor
open Go.Abs Go.RowKit

theorem callable_of {P : Program} {f : FuncId} {fn : Func} (hf : P.funcs[f]? = some fn) (h : (fn.name == "runtime.NumGoroutine") = false) (hb : fn.body.isNone = false) : Callable P f := ⟨fn, hf, by simpa using h, hb⟩
theorem rep_str {W : World} {G φ} {s : Bytes} {x : Value} (h : Rep W G φ (.str s) x) : ∃ t : ByteArray, x = .string t ∧ t.data.toList = s := by
  cases h with
  | str l t h => exact ⟨t, rfl, h⟩
theorem repL2 {W : World} {G φ} {u v : V} {xs : Array Value} (h : RepL W G φ [u, v] xs) : ∃ x y, xs = #[x, y] ∧ Rep W G φ u x ∧ Rep W G φ v y := by
  obtain ⟨hl, h⟩ := h
  obtain ⟨l⟩ := xs
  match l, hl with
  | [x, y], _ => exact ⟨x, y, rfl, h 0 u x rfl rfl, h 1 v y rfl rfl⟩
theorem HasMax.at {w : World} (h : HasMax w) {W : World} {G : Nat → Nat} (hW : OKW (cxD w) W G) : ∃ m, W.cell? ⟨6, 0, none⟩ = some (.int .i64 m) := by
  obtain ⟨m, hm⟩ := h
  refine ⟨m, ?_⟩
  rw [hW.below.cell (p := ⟨6, 0, none⟩) ?_]
  · exact hm
  · rcases Nat.lt_or_ge 6 (cxD w).w0.heap.size with h0 | h0
    · exact h0
    · exfalso
      have : w.heap[(6 : Nat)]? = none := Array.getElem?_eq_none h0
      simp only [World.cell?, this] at hm
      cases hm
theorem two_str {args : List V} {a b : Bytes} (h : nfL args = [V.str a, V.str b]) : args = [.str a, .str b] := by
  obtain ⟨u, v, rfl, h1, h2⟩ := nfL_cons h
  obtain ⟨u', v', rfl, h3, h4⟩ := nfL_cons h2
  obtain rfl := nfL_nil h4
  rw [nf_str h1, nf_str h3]
theorem nfL_strs (l : List Bytes) : nfL (l.map .str) = l.map .str := by rw [nfL_map, List.map_map]; rfl

/-! ### strings.Split at one byte -/
def splitOn (c : UInt8) : Bytes → List Bytes
  | [] => [[]]
  | b :: r => if b = c then [] :: splitOn c r else match splitOn c r with
    | [] => [[b]]
    | x :: xs => (b :: x) :: xs
theorem splitK_one (c : UInt8) : ∀ s : Bytes, Lib.splitK [c] 0 (s.count c) s = splitOn c s
  | [] => rfl
  | b :: r => by
    have ih := splitK_one c r
    simp only [splitOn]
    by_cases h : b = c
    · subst h
      rw [List.count_cons_self, if_pos rfl]
      simp only [Lib.splitK, Lib.index]
      simp [ih]
    · rw [if_neg h, List.count_cons_of_ne h]
      cases hk : r.count c with
      | zero => rw [hk] at ih; simp only [Lib.splitK] at ih ⊢; rw [← ih]
      | succ k =>
        rw [hk] at ih
        simp only [Lib.splitK, Lib.index] at ih ⊢
        have hp : List.isPrefixOf [c] (b :: r) = false := by simp [List.isPrefixOf, Ne.symm h]
        simp only [hp, Bool.false_eq_true, if_false]
        by_cases hi : Lib.index r [c] = -1
        · simp only [hi, beq_self_eq_true, if_true] at ih ⊢
          rw [← ih]
        · have hge := Lib.index_ge r [c]
          have e1 : (Lib.index r [c] == -1) = false := by simpa using hi
          have e2 : (Lib.index r [c] + 1 == -1) = false := by simp; omega
          simp only [e1, e2, Bool.false_eq_true, if_false] at ih ⊢
          rw [← ih]
          have e3 : (Lib.index r [c] + 1).toNat = (Lib.index r [c]).toNat + 1 := by omega
          simp [e3]

def g.strings_Split (s c : Bytes) : Option (List Bytes) := if s.length < 4294967281 ∧ c.length = 1 then some (splitOn (c.headD 0) s) else none
def K.strings_Split : FC := fc 46 (fun _ => true) true (fun (a : Bytes × Bytes) => [V.str a.1, V.str a.2]) (fun (y : List Bytes) => .sl false 1 (y.map .str)) (fun a => g.strings_Split a.1 a.2)
  (fun _ => rfl) (fun y => cleanL_map (fun _ => rfl) y) (fun ⟨a, b⟩ ⟨c, d⟩ h => by simp at h; simp [h])
theorem H.strings_Split (w : World) (hw : EnvOK w) : K.strings_Split.Holds (cxD w) := by
  rintro args y ⟨⟨s, c⟩, r, ha, hg, rfl⟩
  obtain rfl := two_str ha
  simp only [g.strings_Split] at hg
  split at hg
  · rename_i hc
    cases hg
    refine ⟨.sl false 1 ((splitOn (c.headD 0) s).map .str), true, ?_, by show V.sl false 1 (nfL _) = _; rw [nfL_strs], fun _ => .inl rfl⟩
    refine PC.texts (callable_of Tryz.func46 (by kernel_rfl) (by kernel_rfl)) fun W G φ xs hW hxs => ?_
    obtain ⟨x, y, rfl, hx, hy⟩ := repL2 hxs
    obtain ⟨t, rfl, rfl⟩ := rep_str hx
    obtain ⟨u, rfl, hu⟩ := rep_str hy
    obtain ⟨m, hm⟩ := hw.max.at hW
    have hu1 : u.size = 1 := by rw [Lib.size_eq, hu]; exact hc.2
    have hsz : t.size < 4294967281 := by rw [Lib.size_eq]; exact hc.1
    refine (Tryz.strings_Split t u m W hsz hm (by omega)).mono fun e W' ⟨he, hW'⟩ => ?_
    have hlen := Lib.splitB_all u (by omega) 0 _ t rfl
    refine ⟨Lib.splitB u 0 (Lib.countB t u) t, _, ?_, by rw [he, hlen], hW'⟩
    have hu2 : u.data.toList = [c.headD 0] := by
      rw [hu]
      match c, hc.2 with
      | [b], _ => rfl
    rw [Lib.splitB_data, hu2]
    have : Lib.countB t u = t.data.toList.count (c.headD 0) := by
      unfold Lib.countB
      rw [hu2, Lib.count_one]
    rw [this, splitK_one]
  · cases hg

end Go.Proofs.YtanocopjancaiaaGreatDoor
