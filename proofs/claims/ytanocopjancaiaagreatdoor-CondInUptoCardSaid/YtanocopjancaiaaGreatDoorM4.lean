/-
  Parts of the proof, one behind the other. Own work of this seat; some printed by its programs.
-/
import Derived.Test.YtanocopjancaiaaGreatDoorM3
import Derived.Test.YtanocopjancaiaaGreatDoorProg
import Derived.Test.YtanocopjancaiaaGreatDoorM1
import Derived.Shelf.Strings.Builder1
import Derived.Shelf.Strings.Builder2
import Derived.Shelf.Strings.OnBuilder
import Derived.Shelf.Small.Wraps
import Derived.Shelf.Strings.BuilderF
import Derived.Shelf.Strings.BuilderK
import Derived.Shelf.Strconv.Atoi
import Derived.Shelf.Strconv.Itoa0
import Derived.Shelf.Strconv.Itoa1
import Derived.Shelf.LaysM
import Derived.Shelf.Strconv.Itoa2
import Derived.Shelf.Strconv.Itoa3
import Derived.Shelf.Strconv.AtoiErrFast
import Derived.Shelf.Strconv.ParseIntEmpty
import Derived.Shelf.Strconv.AtoiFail
import Derived.Shelf.Strconv.Clone
import Derived.Shelf.Strconv.SyntaxError
import Derived.Shelf.LaysC
import Derived.Shelf.Strconv.ToError
import Derived.Shelf.Strconv.Lower
import Derived.Shelf.Strconv.ParseUint10
import Derived.Shelf.Strconv.ParseUint10Empty
import Derived.Shelf.Strconv.ParseUint10Any
import Derived.Shelf.Strconv.ParseInt10
import Derived.Shelf.Strconv.AtoiLong
import Derived.Shelf.Strconv.AtoiInnerAll
import Derived.Shelf.Strconv.RangeError
import Derived.Shelf.Strconv.ToErrorRange
import Derived.Shelf.Strconv.AtoiAll
import Derived.Shelf.Strings.Search1
import Derived.Shelf.Strings.Search2
import Derived.Shelf.Strings.Search3
import Derived.Shelf.Strings.Count
import Derived.Shelf.Strings.Shaped
import Derived.Shelf.Strings.Prefix
import Derived.Shelf.Strings.Split
import Derived.Shelf.Strings.SplitShaped
import Derived.Shelf.Unicode.Decode
import Derived.Shelf.Strings.RuneCount
import Derived.Shelf.Strings.Explode
import Derived.Shelf.Unicode.DecodeSlow
import Derived.Shelf.Unicode.DecodeAny
import Derived.Shelf.Strings.FieldsFuncAny
import Derived.Shelf.Strings.FieldsFuncGrows
import Derived.Ground.Names2Prog
import Derived.Shelf.Slices.Clone
import Derived.Ground.SlgfProg
import Derived.Shelf.SlicesE.IndexFunc
import Derived.Shelf.SlicesE.DeleteFunc
import Derived.WalkKit
import Derived.Lib.OwnBridge
import Derived.Lib.SmallJoins
namespace Go.Proofs.YtanocopjancaiaaGreatDoor
open Go.Abs
def tabs0 : List FE := [
  ⟨4, 4, false, 2, ⟨0, [], [], 0⟩, none, []⟩,
  ⟨12, 12, false, 2, ⟨0, [], [], 0⟩, none, [(17, ⟨3, [(1, .at (.n 0 false false)), (2, .at (.ptr 0 0)), (33, .at (.n 1 false true))], [some [.many none (.n 2 false false)]], 0⟩)]⟩,
  ⟨16, 16, false, 3, ⟨0, [], [], 0⟩, none, [(9, ⟨4, [(3, .at (.ptr 0 0)), (5, .at (.ptr 1 0)), (9, .at (.n 0 false false)), (45, .at (.n 1 false true))], [some [.many none (.n 2 false false)], some [.many none (.n 3 false false)]], 0⟩), (22, ⟨4, [(3, .at (.ptr 0 0)), (5, .at (.ptr 1 0)), (9, .at (.n 0 false false)), (12, .at (.n 1 false true))], [some [.many none (.n 2 false false)], some [.many none (.n 3 false false)]], 0⟩), (52, ⟨7, [(3, .at (.ptr 0 0)), (5, .at (.ptr 1 0)), (9, .at (.n 0 false false)), (12, .at (.n 1 false true)), (66, .at (.n 2 false false)), (67, .at (.n 3 false true)), (68, .at (.n 4 false true))], [some [.many none (.n 5 false false)], some [.many none (.n 6 false false)]], 0⟩)]⟩,
  ⟨20, 20, false, 1, ⟨0, [], [], 0⟩, none, []⟩,
  ⟨24, 24, false, 1, ⟨0, [], [], 0⟩, none, []⟩,
  ⟨32, 32, false, 1, ⟨0, [], [], 0⟩, none, [(9, ⟨6, [(2, .at (.ptr 0 0)), (3, .at (.n 0 false false)), (22, .at (.n 1 false false))], [some [.one (.n 2 false true), .one (.n 3 false true), .one (.n 4 false true), .one (.n 5 false true)]], 0⟩), (26, ⟨11, [(2, .at (.ptr 0 0)), (5, .at (.ptr 1 0)), (6, .at (.n 0 false true)), (7, .at (.n 1 false true)), (37, .at (.n 2 false false))], [some [.one (.n 3 false true), .one (.n 4 false true), .one (.n 5 false true), .one (.n 6 false true)], some [.one (.n 7 false true), .one (.n 8 false true), .one (.n 9 false true), .one (.n 10 false true)]], 0⟩)]⟩,
  ⟨36, 36, false, 1, ⟨0, [], [], 0⟩, none, [(7, ⟨2, [(0, .at (.n 0 false false)), (21, .at (.n 1 false true))], [], 0⟩), (22, ⟨2, [(0, .at (.n 0 false true)), (6, .at (.n 1 false false))], [], 0⟩), (29, ⟨4, [(6, .at (.n 0 false false)), (7, .at (.n 1 true false)), (8, .at (.n 2 false true)), (56, .at (.n 3 false false))], [], 0⟩)]⟩,
  ⟨44, 44, false, 2, ⟨0, [], [], 0⟩, none, []⟩,
  ⟨48, 48, false, 1, ⟨0, [], [], 0⟩, none, []⟩,
  ⟨52, 52, true, 2, ⟨0, [], [], 0⟩, none, [(12, ⟨5, [(0, .at (.n 0 false false)), (1, .at (.n 1 false false)), (5, .at (.n 2 true true)), (6, .at (.n 3 false true)), (7, .at (.n 4 false true))], [], 0⟩)]⟩,
  ⟨56, 56, false, 1, ⟨0, [], [], 0⟩, none, []⟩,
  ⟨60, 60, false, 1, ⟨0, [], [], 0⟩, none, []⟩,
  ⟨72, 72, false, 2, ⟨0, [], [], 0⟩, none, []⟩,
  ⟨80, 80, false, 1, ⟨0, [], [], 0⟩, none, []⟩,
  ⟨96, 96, false, 1, ⟨0, [], [], 0⟩, none, []⟩,
  ⟨100, 100, false, 1, ⟨0, [], [], 0⟩, none, []⟩,
  ⟨5, 5, false, 3, ⟨0, [], [], 0⟩, none, []⟩,
  ⟨9, 9, false, 0, ⟨0, [], [], 0⟩, none, []⟩,
  ⟨13, 13, false, 2, ⟨0, [], [], 0⟩, none, []⟩,
  ⟨17, 17, false, 2, ⟨0, [], [], 0⟩, none, [(8, ⟨4, [(1, .at (.n 0 false false)), (7, .at (.n 1 false false)), (8, .at (.n 2 false true)), (9, .at (.n 3 false true))], [], 0⟩)]⟩,
  ⟨21, 21, false, 1, ⟨0, [], [], 0⟩, none, []⟩,
  ⟨25, 25, false, 1, ⟨0, [], [], 0⟩, none, [(18, ⟨4, [(4, .at (.n 0 true true)), (17, .at (.n 1 true false)), (18, .at (.n 2 false true)), (19, .at (.n 3 false true))], [], 0⟩)]⟩,
  ⟨33, 33, false, 2, ⟨0, [], [], 0⟩, none, []⟩,
  ⟨37, 37, false, 2, ⟨0, [], [], 0⟩, none, []⟩,
  ⟨45, 45, false, 1, ⟨0, [], [], 0⟩, none, []⟩,
  ⟨49, 49, false, 1, ⟨0, [], [], 0⟩, none, []⟩,
  ⟨53, 53, false, 1, ⟨0, [], [], 0⟩, none, [(10, ⟨4, [(4, .at (.n 0 true true)), (7, .at (.n 1 false false)), (8, .at (.n 2 false true)), (9, .at (.n 3 false true))], [], 0⟩)]⟩,
  ⟨57, 57, false, 1, ⟨0, [], [], 0⟩, none, []⟩,
  ⟨61, 61, false, 2, ⟨0, [], [], 0⟩, none, []⟩,
  ⟨65, 65, false, 2, ⟨0, [], [], 0⟩, none, []⟩,
  ⟨69, 69, false, 2, ⟨0, [], [], 0⟩, none, []⟩,
  ⟨73, 73, false, 1, ⟨0, [], [], 0⟩, none, []⟩,
  ⟨77, 77, false, 1, ⟨0, [], [], 0⟩, none, [(8, ⟨4, [(0, .at (.n 0 false false)), (11, .at (.n 1 true false)), (12, .at (.n 2 false true)), (13, .at (.n 3 false true))], [], 0⟩), (22, ⟨7, [(0, .at (.n 0 false false)), (11, .at (.n 1 true false)), (12, .at (.n 2 false true)), (13, .at (.n 3 false true)), (18, .at (.n 4 true false)), (19, .at (.n 5 false true)), (20, .at (.n 6 false true))], [], 0⟩)]⟩,
  ⟨81, 81, false, 2, ⟨0, [], [], 0⟩, none, []⟩,
  ⟨97, 97, false, 2, ⟨0, [], [], 0⟩, none, [(8, ⟨4, [(0, .at (.n 0 false false)), (1, .at (.n 1 false false)), (7, .at (.n 2 false true)), (8, .at (.n 3 false true))], [], 0⟩)]⟩,
  ⟨117, 117, false, 1, ⟨0, [], [], 0⟩, none, []⟩,
  ⟨6, 6, false, 4, ⟨0, [], [], 0⟩, none, [(15, ⟨5, [(1, .at (.n 0 false false)), (2, .at (.n 1 false false)), (3, .at (.n 2 false false)), (4, .at (.ptr 0 0)), (26, .at (.n 3 false true))], [some [.many none (.n 4 false false)]], 0⟩), (46, ⟨4, [(3, .at (.n 0 false false)), (4, .at (.ptr 0 0)), (10, .at (.n 1 false true)), (11, .at (.n 2 false false))], [some [.many none (.n 3 false false)]], 0⟩)]⟩,
  ⟨10, 10, false, 1, ⟨0, [], [], 0⟩, none, [(10, ⟨5, [(1, .at (.ptr 0 0)), (3, .at (.n 0 false true)), (14, .at (.n 1 false false)), (15, .at (.n 2 false true)), (16, .at (.n 3 false true))], [some [.many none (.n 4 false false)]], 0⟩)]⟩,
  ⟨14, 14, false, 2, ⟨0, [], [], 0⟩, none, [(28, ⟨6, [(2, .at (.ptr 0 0)), (6, .at (.n 0 false false)), (8, .at (.n 1 true true)), (23, .at (.n 2 false false)), (24, .at (.n 3 false true)), (25, .at (.n 4 false true))], [some [.many none (.n 5 false false)]], 0⟩)]⟩,
  ⟨18, 18, true, 0, ⟨0, [], [], 0⟩, none, []⟩]
def tabs1 : List FE := [
  ⟨22, 22, false, 2, ⟨0, [], [], 0⟩, none, []⟩,
  ⟨26, 26, false, 2, ⟨0, [], [], 0⟩, none, [(10, ⟨6, [(1, .at (.n 0 false false)), (6, .at (.osx 0 1 1)), (10, .at (.n 2 false false)), (11, .at (.n 3 false true)), (12, .at (.n 4 false true))], [some [.many none (.n 5 false false)]], 0⟩), (26, ⟨9, [(1, .at (.n 0 false false)), (6, .at (.osx 0 1 1)), (8, .at (.n 2 false false)), (9, .at (.n 3 false true)), (10, .at (.n 4 false false)), (11, .at (.n 5 false true)), (12, .at (.n 6 false true)), (18, .at (.n 7 false true))], [some [.many none (.n 8 false false)]], 0⟩)]⟩,
  ⟨30, 30, false, 1, ⟨0, [], [], 0⟩, none, [(18, ⟨4, [(4, .at (.n 0 true true)), (21, .at (.n 1 true false)), (22, .at (.n 2 false true)), (23, .at (.n 3 false true))], [], 0⟩)]⟩,
  ⟨34, 34, false, 1, ⟨0, [], [], 0⟩, none, []⟩,
  ⟨38, 38, true, 1, ⟨0, [], [], 0⟩, none, [(10, ⟨4, [(3, .at (.n 0 true true)), (9, .at (.n 1 true false)), (10, .at (.n 2 false true)), (11, .at (.n 3 false true))], [], 0⟩), (24, ⟨7, [(3, .at (.n 0 true true)), (9, .at (.n 1 true false)), (10, .at (.n 2 false true)), (11, .at (.n 3 false true)), (16, .at (.n 4 true false)), (17, .at (.n 5 false true)), (18, .at (.n 6 false true))], [], 0⟩)]⟩,
  ⟨42, 42, false, 2, ⟨0, [], [], 0⟩, none, [(8, ⟨4, [(0, .at (.n 0 false false)), (1, .at (.n 1 false false)), (7, .at (.n 2 false true)), (8, .at (.n 3 false true))], [], 0⟩)]⟩,
  ⟨54, 54, false, 1, ⟨0, [], [], 0⟩, none, [(8, ⟨2, [(0, .at (.n 0 false false)), (3, .at (.n 1 false true))], [], 0⟩)]⟩,
  ⟨58, 58, false, 2, ⟨0, [], [], 0⟩, none, [(8, ⟨4, [(0, .at (.n 0 false false)), (1, .at (.n 1 false false)), (7, .at (.n 2 false true)), (8, .at (.n 3 false true))], [], 0⟩)]⟩,
  ⟨70, 70, false, 3, ⟨0, [], [], 0⟩, none, [(10, ⟨6, [(1, .at (.n 0 false false)), (2, .at (.n 1 false false)), (8, .at (.n 2 true true)), (13, .at (.n 3 false false)), (14, .at (.n 4 false true)), (15, .at (.n 5 false true))], [], 0⟩)]⟩,
  ⟨74, 74, false, 1, ⟨0, [], [], 0⟩, none, []⟩,
  ⟨78, 78, false, 1, ⟨0, [], [], 0⟩, none, [(10, ⟨4, [(3, .at (.n 0 true true)), (7, .at (.n 1 true false)), (8, .at (.n 2 false true)), (9, .at (.n 3 false true))], [], 0⟩)]⟩,
  ⟨7, 7, false, 3, ⟨0, [], [], 0⟩, none, [(15, ⟨4, [(1, .at (.n 0 false false)), (3, .at (.ptr 0 0)), (5, .at (.ptr 1 0)), (35, .at (.n 1 false true))], [some [.many none (.n 2 false false)], some [.many none (.n 3 false false)]], 0⟩), (28, ⟨7, [(1, .at (.n 0 false false)), (3, .at (.ptr 0 0)), (5, .at (.ptr 1 0)), (7, .at (.ptr 2 0)), (41, .at (.n 1 false true)), (42, .at (.n 2 false true))], [some [.many none (.n 3 false false)], some [.many none (.n 4 false false)], some [.many (some 4) (.n 5 false false), .one (.n 6 true true)]], 0⟩)]⟩,
  ⟨11, 11, false, 2, ⟨0, [], [], 0⟩, none, [(9, ⟨3, [(1, .at (.n 0 false false)), (2, .at (.ptr 0 0)), (18, .at (.n 1 false true))], [some [.many none (.n 2 false false)]], 0⟩), (34, ⟨4, [(1, .at (.n 0 false false)), (2, .at (.ptr 0 0)), (19, .at (.n 1 false false)), (22, .at (.n 2 false true))], [some [.many none (.n 3 false false)]], 0⟩)]⟩,
  ⟨15, 15, false, 3, ⟨0, [], [], 0⟩, none, [(9, ⟨4, [(3, .at (.ptr 0 0)), (5, .at (.ptr 1 0)), (8, .at (.ptr 2 0)), (40, .at (.n 0 false true))], [some [.many none (.n 1 false false)], some [.many none (.n 2 false false)], some [.many (some 4) (.n 3 false false)]], 0⟩)]⟩,
  ⟨19, 19, true, 0, ⟨0, [], [], 0⟩, none, []⟩,
  ⟨23, 23, false, 1, ⟨0, [], [], 0⟩, none, [(7, ⟨2, [(0, .at (.n 0 false false)), (22, .at (.n 1 false true))], [], 0⟩), (18, ⟨3, [(0, .at (.n 0 false false)), (3, .at (.n 1 false true)), (4, .at (.n 2 false true))], [], 0⟩)]⟩,
  ⟨31, 31, false, 2, ⟨0, [], [], 0⟩, none, [(10, ⟨5, [(1, .at (.n 0 false false)), (6, .at (.n 1 true true)), (10, .at (.n 2 false false)), (11, .at (.n 3 false true)), (12, .at (.n 4 false true))], [], 0⟩), (29, ⟨8, [(1, .at (.n 0 false false)), (6, .at (.n 1 true true)), (8, .at (.n 2 false false)), (9, .at (.n 3 false true)), (10, .at (.n 4 false false)), (11, .at (.n 5 false true)), (12, .at (.n 6 false true)), (31, .at (.n 7 false true))], [], 0⟩)]⟩,
  ⟨35, 35, false, 2, ⟨0, [], [], 0⟩, none, []⟩,
  ⟨39, 39, false, 2, ⟨0, [], [], 0⟩, none, []⟩,
  ⟨43, 43, false, 1, ⟨0, [], [], 0⟩, none, []⟩,
  ⟨47, 47, false, 2, ⟨0, [], [], 0⟩, none, []⟩,
  ⟨51, 51, false, 1, ⟨0, [], [], 0⟩, none, []⟩,
  ⟨55, 55, false, 2, ⟨0, [], [], 0⟩, none, []⟩,
  ⟨59, 59, false, 2, ⟨0, [], [], 0⟩, none, []⟩,
  ⟨71, 71, false, 1, ⟨0, [], [], 0⟩, none, []⟩,
  ⟨75, 75, true, 1, ⟨0, [], [], 0⟩, none, [(10, ⟨3, [(0, .at (.n 0 false false)), (3, .at (.n 1 true true)), (4, .at (.n 2 false true))], [], 0⟩), (22, ⟨4, [(0, .at (.n 0 false false)), (3, .at (.n 1 true true)), (4, .at (.n 2 false true)), (5, .at (.n 3 false true))], [], 0⟩), (31, ⟨4, [(0, .at (.n 0 false false)), (3, .at (.n 1 true true)), (4, .at (.n 2 false true)), (5, .at (.n 3 false true))], [], 0⟩), (42, ⟨5, [(0, .at (.n 0 false false)), (3, .at (.n 1 true true)), (4, .at (.n 2 false true)), (5, .at (.n 3 false true)), (57, .at (.n 4 false true))], [], 0⟩), (51, ⟨4, [(0, .at (.n 0 false false)), (3, .at (.n 1 true true)), (4, .at (.n 2 false true)), (5, .at (.n 3 false true))], [], 0⟩)]⟩,
  ⟨79, 79, false, 2, ⟨0, [], [], 0⟩, none, [(10, ⟨6, [(0, .at (.n 0 false false)), (1, .at (.n 1 false false)), (5, .at (.n 2 false false)), (12, .at (.n 3 false true)), (13, .at (.n 4 false true)), (14, .at (.n 5 false true))], [], 0⟩)]⟩,
  ⟨95, 95, false, 1, ⟨0, [], [], 0⟩, none, []⟩,
  ⟨10448, 28, false, 1, ⟨1, [(0, .at (.n 0 false false))], [], 0⟩, some [⟨2, [.osx 0 0 1], [some [.many none (.n 1 false false)]]⟩], []⟩,
  ⟨11056, 66, false, 1, ⟨4, [(0, .at (.ptr 0 0))], [some [.one (.n 0 false false), .one (.n 1 false true), .one (.n 2 true true), .one (.n 3 false true)]], 1⟩, some [⟨5, [.n 0 false true], [some [.one (.n 1 false false), .one (.n 2 false true), .one (.n 3 true true), .one (.n 4 false true)]]⟩], []⟩,
  ⟨11216, 76, false, 1, ⟨3, [(0, .at (.ptr 0 0))], [some [.one (.n 0 false false), .one (.n 1 true true), .one (.n 2 false true)]], 1⟩, some [⟨4, [.n 0 false true], [some [.one (.n 1 false false), .one (.n 2 true true), .one (.n 3 false true)]]⟩], [(8, ⟨4, [(0, .at (.ptr 0 0)), (3, .at (.n 0 false true))], [some [.one (.n 1 false false), .one (.n 2 true true), .one (.n 3 false true)]], 1⟩)]⟩,
  ⟨11408, 88, false, 3, ⟨5, [(0, .at (.ptr 0 0)), (1, .at (.n 0 false true)), (2, .at (.fp true 89 [(0, 0)]))], [some [.one (.n 1 false false), .one (.n 2 false true), .one (.n 3 true true), .one (.n 4 false true)]], 1⟩, some [⟨5, [.n 0 false true], [some [.one (.n 1 false false), .one (.n 2 false true), .one (.n 3 true true), .one (.n 4 false true)]]⟩], [(16, ⟨5, [(0, .at (.ptr 0 0)), (1, .at (.n 0 false true)), (2, .at (.fp true 89 [(0, 0)]))], [some [.one (.n 1 false false), .one (.n 2 false true), .one (.n 3 true true), .one (.n 4 false true)]], 1⟩)]⟩,
  ⟨11568, 98, false, 1, ⟨3, [(0, .at (.ptr 0 0))], [some [.one (.n 0 false false), .one (.n 1 true true), .one (.n 2 false true)]], 1⟩, some [⟨4, [.n 0 false true], [some [.one (.n 1 false false), .one (.n 2 true true), .one (.n 3 false true)]]⟩], [(8, ⟨4, [(0, .at (.ptr 0 0)), (3, .at (.n 0 false true))], [some [.one (.n 1 false false), .one (.n 2 true true), .one (.n 3 false true)]], 1⟩)]⟩,
  ⟨11424, 89, false, 1, ⟨4, [(0, .at (.ptr 0 0))], [some [.one (.n 0 false false), .one (.n 1 false true), .one (.n 2 true true), .one (.n 3 false true)]], 1⟩, some [⟨5, [.n 0 false true], [some [.one (.n 1 false false), .one (.n 2 false true), .one (.n 3 true true), .one (.n 4 false true)]]⟩], []⟩,
  ⟨11888, 118, false, 1, ⟨3, [(0, .at (.ptr 0 0))], [some [.one (.n 0 false false), .one (.n 1 true true), .one (.n 2 false true)]], 1⟩, some [⟨4, [.n 0 false true], [some [.one (.n 1 false false), .one (.n 2 true true), .one (.n 3 false true)]]⟩], []⟩,
  ⟨11409, 88, false, 3, ⟨5, [(0, .at (.ptr 0 0)), (1, .at (.n 0 false true)), (2, .at (.fp true 109 [(0, 0)]))], [some [.one (.n 1 false false), .one (.n 2 false true), .one (.n 3 true true), .one (.n 4 false true)]], 1⟩, some [⟨5, [.n 0 false true], [some [.one (.n 1 false false), .one (.n 2 false true), .one (.n 3 true true), .one (.n 4 false true)]]⟩], [(16, ⟨5, [(0, .at (.ptr 0 0)), (1, .at (.n 0 false true)), (2, .at (.fp true 109 [(0, 0)]))], [some [.one (.n 1 false false), .one (.n 2 false true), .one (.n 3 true true), .one (.n 4 false true)]], 1⟩)]⟩,
  ⟨11584, 99, false, 2, ⟨4, [(0, .at (.ptr 0 0)), (1, .at (.n 0 false true))], [some [.one (.n 1 false false), .one (.n 2 true true), .one (.n 3 false true)]], 1⟩, some [⟨4, [.n 0 false true], [some [.one (.n 1 false false), .one (.n 2 true true), .one (.n 3 false true)]]⟩], []⟩,
  ⟨11744, 109, false, 1, ⟨4, [(0, .at (.ptr 0 0))], [some [.one (.n 0 false false), .one (.n 1 false true), .one (.n 2 true true), .one (.n 3 false true)]], 1⟩, some [⟨5, [.n 0 false true], [some [.one (.n 1 false false), .one (.n 2 false true), .one (.n 3 true true), .one (.n 4 false true)]]⟩], []⟩,
  ⟨11728, 108, false, 2, ⟨5, [(0, .at (.ptr 0 0)), (1, .at (.n 0 false true))], [some [.one (.n 1 false false), .one (.n 2 false true), .one (.n 3 true true), .one (.n 4 false true)]], 1⟩, some [⟨5, [.n 0 false true], [some [.one (.n 1 false false), .one (.n 2 false true), .one (.n 3 true true), .one (.n 4 false true)]]⟩], []⟩,
  ⟨11072, 67, false, 1, ⟨4, [(0, .at (.ptr 0 0))], [some [.one (.n 0 false false), .one (.n 1 false true), .one (.n 2 true true), .one (.n 3 false true)]], 1⟩, some [⟨4, [], [some [.one (.n 0 false false), .one (.n 1 false true), .one (.n 2 true true), .one (.n 3 false true)]]⟩], [(3, ⟨4, [(0, .at (.ptr 0 0))], [some [.one (.n 0 false false), .one (.n 1 false true), .one (.n 2 true true), .one (.n 3 false true)]], 1⟩)]⟩]
def tabs2 : List FE := [
  ⟨10432, 27, false, 2, ⟨3, [(0, .at (.osx 0 0 1)), (1, .at (.fp false 29 [(1, 0)]))], [some [.many none (.n 1 false false)], some [.many none (.n 2 false false)]], 2⟩, some [⟨3, [.osx 0 0 1], [some [.many none (.n 1 false false)], some [.many none (.n 2 false false)]]⟩], [(18, ⟨5, [(0, .at (.osx 0 0 1)), (1, .at (.fp false 29 [(1, 0)])), (5, .at (.n 1 false true)), (6, .at (.n 2 false true))], [some [.many none (.n 3 false false)], some [.many none (.n 4 false false)]], 2⟩)]⟩,
  ⟨12144, 134, false, 1, ⟨3, [(0, .at (.ptr 0 0))], [some [.one (.n 0 false false), .one (.n 1 true true), .one (.n 2 false true)]], 1⟩, some [⟨4, [.n 0 false true], [some [.one (.n 1 false false), .one (.n 2 true true), .one (.n 3 false true)]]⟩], []⟩,
  ⟨10800, 50, false, 2, ⟨3, [(0, .at (.osx 0 0 1)), (1, .at (.fp false 29 [(1, 0)]))], [some [.many none (.n 1 false false)], some [.many none (.n 2 false false)]], 2⟩, some [⟨3, [.n 0 false true], [some [.many none (.n 1 false false)], some [.many none (.n 2 false false)]]⟩], [(8, ⟨5, [(0, .at (.osx 0 0 1)), (1, .at (.fp false 29 [(1, 0)])), (7, .at (.n 1 false true)), (8, .at (.n 2 false true))], [some [.many none (.n 3 false false)], some [.many none (.n 4 false false)]], 2⟩)]⟩,
  ⟨10464, 29, false, 2, ⟨2, [(0, .at (.n 0 false false)), (1, .at (.ptr 0 0))], [some [.many none (.n 1 false false)]], 1⟩, some [⟨2, [.n 0 false true], [some [.many none (.n 1 false false)]]⟩], []⟩,
  ⟨12016, 126, false, 1, ⟨4, [(0, .at (.ptr 0 0))], [some [.one (.n 0 false false), .one (.n 1 false true), .one (.n 2 true true), .one (.n 3 false true)]], 1⟩, some [⟨5, [.n 0 false true], [some [.one (.n 1 false false), .one (.n 2 false true), .one (.n 3 true true), .one (.n 4 false true)]]⟩], [(48, ⟨5, [(0, .at (.ptr 0 0)), (4, .at (.n 0 false true))], [some [.one (.n 1 false false), .one (.n 2 false true), .one (.n 3 true true), .one (.n 4 false true)]], 1⟩)]⟩]
def tabs : List FE := tabs0 ++ tabs1 ++ tabs2
def extO : Nat -> Bool := fun f => [46, 94].any (Nat.beq f)
def tb1 : List V := [.sl false 1 [.str [97, 105, 120], .str [97, 110, 100, 114, 111, 105, 100], .str [100, 97, 114, 119, 105, 110], .str [100, 114, 97, 103, 111, 110, 102, 108, 121], .str [102, 114, 101, 101, 98, 115, 100], .str [105, 108, 108, 117, 109, 111, 115], .str [105, 111, 115], .str [106, 115], .str [108, 105, 110, 117, 120], .str [110, 101, 116, 98, 115, 100], .str [111, 112, 101, 110, 98, 115, 100], .str [112, 108, 97, 110, 57], .str [115, 111, 108, 97, 114, 105, 115], .str [119, 97, 115, 105, 112, 49], .str [119, 105, 110, 100, 111, 119, 115]]]
def tb2 : List V := [.sl false 1 [.str [51, 56, 54], .str [97, 109, 100, 54, 52], .str [97, 114, 109], .str [97, 114, 109, 54, 52], .str [108, 111, 111, 110, 103, 54, 52], .str [109, 105, 112, 115], .str [109, 105, 112, 115, 54, 52], .str [109, 105, 112, 115, 54, 52, 108, 101], .str [109, 105, 112, 115, 108, 101], .str [112, 112, 99, 54, 52], .str [112, 112, 99, 54, 52, 108, 101], .str [114, 105, 115, 99, 118, 54, 52], .str [115, 51, 57, 48, 120], .str [119, 97, 115, 109]]]
def tb0 : List V := [.sl false 1 [.str [97, 105, 120], .str [97, 110, 100, 114, 111, 105, 100], .str [100, 97, 114, 119, 105, 110], .str [100, 114, 97, 103, 111, 110, 102, 108, 121], .str [102, 114, 101, 101, 98, 115, 100], .str [105, 108, 108, 117, 109, 111, 115], .str [105, 111, 115], .str [108, 105, 110, 117, 120], .str [110, 101, 116, 98, 115, 100], .str [111, 112, 101, 110, 98, 115, 100], .str [115, 111, 108, 97, 114, 105, 115]]]
def gls : Nat -> Option (List V) := fun g => match Nat.beq g 1 with | true => some tb1 | false => match Nat.beq g 2 with | true => some tb2 | false => match Nat.beq g 0 with | true => some tb0 | false => none
def cfg : Cfg := cfgOf tabs extO gls
theorem keys : keysOK tabs = true := by kernel_rfl
noncomputable abbrev vl (e : Nat -> List V -> Option V) : Gam := val Tryz.prog tabs e cfg
abbrev Ev := Nat -> List V -> Option V
noncomputable abbrev stp (e : Ev) (Γ : Gam) := Go.Abs.step Tryz.prog tabs e cfg Γ
end Go.Proofs.YtanocopjancaiaaGreatDoor
namespace Go.Proofs.YtanocopjancaiaaGreatDoor
open Go.Abs
noncomputable def y.seichelaw16_CondHolds (Γ : Gam) (v0 v1 : V) : Option V :=
 pr .scs [v0] fun v2 =>
 ca Γ 9 [] fun v3 =>
 pr (.un (.not)) [v3] fun v4 =>
 vif v4 (
 some (.bool false)) (
 pr (.ld (some 5) 0) [v2] fun v5 =>
 ca Γ 10 [v5] fun v6 =>
 vif v6 (
 some (.bool true)) (
 pr (.len true) [v1] fun v7 =>
 pr (.bin (.gtr) (.no)) [v7, (.int .i64 1024)] fun v8 =>
 vif v8 (
 some (.bool true)) (
 pr (.ld (some 5) 0) [v2] fun v9 =>
 ca Γ 13 [v9, v1] fun v10 =>
 pr (.ext 0) [v10] fun v11 =>
 pr (.ext 1) [v10] fun v12 =>
 pr (.ld (some 5) 0) [v2] fun v13 =>
 ca Γ 14 [v13, v1] fun v14 =>
 pr (.ext 0) [v14] fun v15 =>
 pr (.ext 1) [v14] fun v16 =>
 pr (.bin (.eql) (.bool)) [v11, v15] fun v17 =>
 vif v17 (
 pr (.bin (.eql) (.no)) [v12, v16] fun v18 =>
 some v18) (
 some (.bool false)))))
theorem s.seichelaw16_CondHolds (e : Ev) (Γ : Gam) (v0 v1 : V) : stp e Γ 4 0 [v0, v1] = y.seichelaw16_CondHolds Γ v0 v1 := by kernel_rfl
theorem w.seichelaw16_CondHolds (e : Ev) (v0 v1 : V) : vl e 4 0 [v0, v1] = y.seichelaw16_CondHolds (vl e) v0 v1 := val_of (s.seichelaw16_CondHolds e _ v0 v1)
noncomputable def y.seicheref16_On (Γ : Gam) (v0 v1 : V) : Option V :=
 pr .scs [v0] fun v2 =>
 pr (.bin (.eql) (.no)) [v1, (.str [])] fun v3 =>
 vif v3 (
 some (.bool false)) (
 ca Γ 23 [v1] fun v4 =>
 pr (.ld none 0) [v2] fun v5 =>
 pr (.bin (.eql) (.no)) [v1, v5] fun v6 =>
 vif v6 (
 Γ 12 17 [v1, (.bool true), v2]) (
 pr (.ld none 1) [v2] fun v7 =>
 pr (.bin (.eql) (.no)) [v1, v7] fun v8 =>
 vif v8 (
 Γ 12 17 [v1, (.bool true), v2]) (
 pr (.bin (.eql) (.no)) [v1, (.str [103, 99])] fun v9 =>
 vif v9 (
 Γ 12 17 [v1, (.bool true), v2]) (
 pr (.bin (.gtr) (.no)) [v4, (.int .i64 0)] fun v10 =>
 vif v10 (
 pr (.ld none 3) [v2] fun v11 =>
 pr (.bin (.leq) (.no)) [v4, v11] fun v12 =>
 Γ 12 17 [v1, v12, v2]) (
 Γ 12 17 [v1, (.bool false), v2])))))
theorem s.seicheref16_On (e : Ev) (Γ : Gam) (v0 v1 : V) : stp e Γ 12 0 [v0, v1] = y.seicheref16_On Γ v0 v1 := by kernel_rfl
theorem w.seicheref16_On (e : Ev) (v0 v1 : V) : vl e 12 0 [v0, v1] = y.seicheref16_On (vl e) v0 v1 := val_of (s.seicheref16_On e _ v0 v1)
noncomputable def y.seicheref16_On_17 (Γ : Gam) (v0 v1 v2 : V) : Option V :=
 vif v1 (
 some (.bool true)) (
 pr (.bin (.eql) (.no)) [v0, (.str [117, 110, 105, 120])] fun v3 =>
 vif v3 (
 pr (.ld none 0) [v2] fun v4 =>
 ca Γ 24 [v4] fun v5 =>
 some v5) (
 pr (.bin (.eql) (.no)) [v0, (.str [99, 103, 111])] fun v4 =>
 vif v4 (
 pr (.ld none 2) [v2] fun v5 =>
 some v5) (
 pr (.bin (.eql) (.no)) [v0, (.str [108, 105, 110, 117, 120])] fun v5 =>
 vif v5 (
 pr (.ld none 0) [v2] fun v6 =>
 pr (.bin (.eql) (.no)) [v6, (.str [97, 110, 100, 114, 111, 105, 100])] fun v7 =>
 vif v7 (
 some (.bool true)) (
 pr (.bin (.eql) (.no)) [v0, (.str [115, 111, 108, 97, 114, 105, 115])] fun v8 =>
 vif v8 (
 pr (.ld none 0) [v2] fun v9 =>
 pr (.bin (.eql) (.no)) [v9, (.str [105, 108, 108, 117, 109, 111, 115])] fun v10 =>
 vif v10 (
 some (.bool true)) (
 pr (.bin (.eql) (.no)) [v0, (.str [100, 97, 114, 119, 105, 110])] fun v11 =>
 vif v11 (
 pr (.ld none 0) [v2] fun v12 =>
 pr (.bin (.eql) (.no)) [v12, (.str [105, 111, 115])] fun v13 =>
 vif v13 (
 some (.bool true)) (
 pr (.ld none 4) [v2] fun v14 =>
 ca Γ 17 [v14, v0] fun v15 =>
 some v15)) (
 pr (.ld none 4) [v2] fun v12 =>
 ca Γ 17 [v12, v0] fun v13 =>
 some v13))) (
 pr (.bin (.eql) (.no)) [v0, (.str [100, 97, 114, 119, 105, 110])] fun v9 =>
 vif v9 (
 pr (.ld none 0) [v2] fun v10 =>
 pr (.bin (.eql) (.no)) [v10, (.str [105, 111, 115])] fun v11 =>
 vif v11 (
 some (.bool true)) (
 pr (.ld none 4) [v2] fun v12 =>
 ca Γ 17 [v12, v0] fun v13 =>
 some v13)) (
 pr (.ld none 4) [v2] fun v10 =>
 ca Γ 17 [v10, v0] fun v11 =>
 some v11)))) (
 pr (.bin (.eql) (.no)) [v0, (.str [115, 111, 108, 97, 114, 105, 115])] fun v6 =>
 vif v6 (
 pr (.ld none 0) [v2] fun v7 =>
 pr (.bin (.eql) (.no)) [v7, (.str [105, 108, 108, 117, 109, 111, 115])] fun v8 =>
 vif v8 (
 some (.bool true)) (
 pr (.bin (.eql) (.no)) [v0, (.str [100, 97, 114, 119, 105, 110])] fun v9 =>
 vif v9 (
 pr (.ld none 0) [v2] fun v10 =>
 pr (.bin (.eql) (.no)) [v10, (.str [105, 111, 115])] fun v11 =>
 vif v11 (
 some (.bool true)) (
 pr (.ld none 4) [v2] fun v12 =>
 ca Γ 17 [v12, v0] fun v13 =>
 some v13)) (
 pr (.ld none 4) [v2] fun v10 =>
 ca Γ 17 [v10, v0] fun v11 =>
 some v11))) (
 pr (.bin (.eql) (.no)) [v0, (.str [100, 97, 114, 119, 105, 110])] fun v7 =>
 vif v7 (
 pr (.ld none 0) [v2] fun v8 =>
 pr (.bin (.eql) (.no)) [v8, (.str [105, 111, 115])] fun v9 =>
 vif v9 (
 some (.bool true)) (
 pr (.ld none 4) [v2] fun v10 =>
 ca Γ 17 [v10, v0] fun v11 =>
 some v11)) (
 pr (.ld none 4) [v2] fun v8 =>
 ca Γ 17 [v8, v0] fun v9 =>
 some v9))))))
theorem s.seicheref16_On_17 (e : Ev) (Γ : Gam) (v0 v1 v2 : V) : stp e Γ 12 17 [v0, v1, v2] = y.seicheref16_On_17 Γ v0 v1 v2 := by kernel_rfl
theorem w.seicheref16_On_17 (e : Ev) (v0 v1 v2 : V) : vl e 12 17 [v0, v1, v2] = y.seicheref16_On_17 (vl e) v0 v1 v2 := val_of (s.seicheref16_On_17 e _ v0 v1 v2)
noncomputable def y.seicheref16_In (Γ : Gam) (v0 v1 v2 : V) : Option V :=
 pr .scs [v0] fun v3 =>
 pr .scs [v2] fun v4 =>
 ca Γ 36 [v1] fun v5 =>
 pr (.ext 0) [v5] fun v6 =>
 pr (.ext 1) [v5] fun v7 =>
 pr (.ext 2) [v5] fun v8 =>
 pr (.ext 3) [v5] fun v9 =>
 pr (.un (.not)) [v6] fun v10 =>
 vif v10 (
 Γ 16 9 [v7, (.bool true), v3, v4]) (
 pr (.bin (.neq) (.no)) [v8, (.str [])] fun v11 =>
 vif v11 (
 pr (.ld (some 5) 0) [v3] fun v12 =>
 ca Γ 12 [v12, v8] fun v13 =>
 pr (.un (.not)) [v13] fun v14 =>
 vif v14 (
 Γ 16 9 [v7, (.bool true), v3, v4]) (
 pr (.bin (.neq) (.no)) [v9, (.str [])] fun v15 =>
 vif v15 (
 pr (.ld (some 5) 0) [v3] fun v16 =>
 ca Γ 12 [v16, v9] fun v17 =>
 pr (.un (.not)) [v17] fun v18 =>
 Γ 16 9 [v7, v18, v3, v4]) (
 Γ 16 9 [v7, (.bool false), v3, v4]))) (
 pr (.bin (.neq) (.no)) [v9, (.str [])] fun v12 =>
 vif v12 (
 pr (.ld (some 5) 0) [v3] fun v13 =>
 ca Γ 12 [v13, v9] fun v14 =>
 pr (.un (.not)) [v14] fun v15 =>
 Γ 16 9 [v7, v15, v3, v4]) (
 Γ 16 9 [v7, (.bool false), v3, v4])))
theorem s.seicheref16_In (e : Ev) (Γ : Gam) (v0 v1 v2 : V) : stp e Γ 16 0 [v0, v1, v2] = y.seicheref16_In Γ v0 v1 v2 := by kernel_rfl
theorem w.seicheref16_In (e : Ev) (v0 v1 v2 : V) : vl e 16 0 [v0, v1, v2] = y.seicheref16_In (vl e) v0 v1 v2 := val_of (s.seicheref16_In e _ v0 v1 v2)
noncomputable def y.seicheref16_In_9 (Γ : Gam) (v0 v1 v2 v3 : V) : Option V :=
 vif v1 (
 some (.tup [(.int .i64 0), (.int .i64 0)])) (
 vif v0 (
 Γ 16 22 [(.bool true), (.int .i64 2), v2, v3]) (
 Γ 16 22 [(.bool false), (.int .i64 1), v2, v3]))
theorem s.seicheref16_In_9 (e : Ev) (Γ : Gam) (v0 v1 v2 v3 : V) : stp e Γ 16 9 [v0, v1, v2, v3] = y.seicheref16_In_9 Γ v0 v1 v2 v3 := by kernel_rfl
theorem w.seicheref16_In_9 (e : Ev) (v0 v1 v2 v3 : V) : vl e 16 9 [v0, v1, v2, v3] = y.seicheref16_In_9 (vl e) v0 v1 v2 v3 := val_of (s.seicheref16_In_9 e _ v0 v1 v2 v3)
noncomputable def y.seicheref16_In_22 (Γ : Gam) (v0 v1 v2 v3 : V) : Option V :=
 pr (.ld none 4) [v3] fun v4 =>
 pr (.bin (.neq) (.no)) [v4, (.int .i64 0)] fun v5 =>
 vif v5 (
 pr (.ld none 4) [v3] fun v6 =>
 some (.tup [v1, v6])) (
 pr (.ld (some 5) 0) [v2] fun v6 =>
 pr (.ld none 2) [v3] fun v7 =>
 ca Γ 14 [v6, v7] fun v8 =>
 pr (.ext 0) [v8] fun v9 =>
 pr (.ext 1) [v8] fun v10 =>
 pr (.bin (.neq) (.no)) [v10, (.int .i64 0)] fun v11 =>
 vif v11 (
 some (.tup [v1, (.int .i64 4)])) (
 pr (.un (.not)) [v9] fun v12 =>
 vif v12 (
 some (.tup [(.int .i64 0), (.int .i64 0)])) (
 pr (.ld none 1) [v3] fun v13 =>
 pr (.len false) [v13] fun v14 =>
 Γ 16 52 [v0, v1, v13, v14, (.int .i64 0), v2, v3])))
theorem s.seicheref16_In_22 (e : Ev) (Γ : Gam) (v0 v1 v2 v3 : V) : stp e Γ 16 22 [v0, v1, v2, v3] = y.seicheref16_In_22 Γ v0 v1 v2 v3 := by kernel_rfl
theorem w.seicheref16_In_22 (e : Ev) (v0 v1 v2 v3 : V) : vl e 16 22 [v0, v1, v2, v3] = y.seicheref16_In_22 (vl e) v0 v1 v2 v3 := val_of (s.seicheref16_In_22 e _ v0 v1 v2 v3)
noncomputable def y.seicheref16_In_52 (Γ : Gam) (v0 v1 v2 v3 v4 v5 v6 : V) : Option V :=
 pr (.bin (.lss) (.no)) [v4, v3] fun v7 =>
 vif v7 (
 pr (.elem 3) [v2, v4] fun v8 =>
 pr (.ld (some 3) 0) [v8] fun v9 =>
 pr (.cat [some 3]) [v9] fun v10 =>
 pr (.ld none 1) [v10] fun v11 =>
 pr (.bin (.eql) (.no)) [v11, (.str [67])] fun v12 =>
 vif v12 (
 pr (.ld none 2) [v5] fun v13 =>
 pr (.un (.not)) [v13] fun v14 =>
 vif v14 (
 some (.tup [(.int .i64 0), (.int .i64 0)])) (
 pr (.bin (.add) (.no)) [v4, (.int .i64 1)] fun v15 =>
 Γ 16 52 [v0, v1, v2, v3, v15, v5, v6])) (
 pr (.bin (.add) (.no)) [v4, (.int .i64 1)] fun v13 =>
 Γ 16 52 [v0, v1, v2, v3, v13, v5, v6])) (
 vif v0 (
 pr (.ld none 0) [v6] fun v8 =>
 ca Γ 37 [v8, (.str [95, 116, 101, 115, 116])] fun v9 =>
 vif v9 (
 some (.tup [(.int .i64 3), (.int .i64 0)])) (
 some (.tup [v1, (.int .i64 0)]))) (
 some (.tup [v1, (.int .i64 0)])))
theorem s.seicheref16_In_52 (e : Ev) (Γ : Gam) (v0 v1 v2 v3 v4 v5 v6 : V) : stp e Γ 16 52 [v0, v1, v2, v3, v4, v5, v6] = y.seicheref16_In_52 Γ v0 v1 v2 v3 v4 v5 v6 := by kernel_rfl
theorem w.seicheref16_In_52 (e : Ev) (v0 v1 v2 v3 v4 v5 v6 : V) : vl e 16 52 [v0, v1, v2, v3, v4, v5, v6] = y.seicheref16_In_52 (vl e) v0 v1 v2 v3 v4 v5 v6 := val_of (s.seicheref16_In_52 e _ v0 v1 v2 v3 v4 v5 v6)
noncomputable def y.cond_level (Γ : Gam) (v0 : V) : Option V :=
 ca Γ 39 [v0, (.str [103, 111, 49, 46])] fun v1 =>
 pr (.ext 0) [v1] fun v2 =>
 pr (.ext 1) [v1] fun v3 =>
 pr (.un (.not)) [v3] fun v4 =>
 vif v4 (
 some (.tup [(.int .i64 0), (.bool false)])) (
 pr (.bin (.eql) (.no)) [v2, (.str [])] fun v5 =>
 vif v5 (
 some (.tup [(.int .i64 0), (.bool false)])) (
 pr (.len true) [v2] fun v6 =>
 pr (.bin (.gtr) (.no)) [v6, (.int .i64 4)] fun v7 =>
 vif v7 (
 some (.tup [(.int .i64 0), (.bool false)])) (
 pr .idx [v2, (.int .i64 0)] fun v8 =>
 pr (.bin (.eql) (.no)) [v8, (.int .u8 48)] fun v9 =>
 vif v9 (
 some (.tup [(.int .i64 0), (.bool false)])) (
 ca Γ 40 [v2] fun v10 =>
 pr (.ext 0) [v10] fun v11 =>
 pr (.ext 1) [v10] fun v12 =>
 pr (.bin (.eql) (.iface)) [v12, .nilif] fun v13 =>
 vif v13 (
 ca Γ 41 [v11] fun v14 =>
 pr (.bin (.eql) (.no)) [v14, v2] fun v15 =>
 some (.tup [v11, v15])) (
 some (.tup [v11, (.bool false)]))))))
theorem s.cond_level (e : Ev) (Γ : Gam) (v0 : V) : stp e Γ 20 0 [v0] = y.cond_level Γ v0 := by kernel_rfl
theorem w.cond_level (e : Ev) (v0 : V) : vl e 20 0 [v0] = y.cond_level (vl e) v0 := val_of (s.cond_level e _ v0)
noncomputable def y.seicheref15_Unix (Γ : Gam) (v0 : V) : Option V :=
 ca Γ 43 [v0] fun v1 =>
 vif v1 (
 pr (.bin (.neq) (.no)) [v0, (.str [106, 115])] fun v2 =>
 vif v2 (
 pr (.bin (.neq) (.no)) [v0, (.str [112, 108, 97, 110, 57])] fun v3 =>
 vif v3 (
 pr (.bin (.neq) (.no)) [v0, (.str [119, 97, 115, 105, 112, 49])] fun v4 =>
 vif v4 (
 pr (.bin (.neq) (.no)) [v0, (.str [119, 105, 110, 100, 111, 119, 115])] fun v5 =>
 some v5) (
 some (.bool false))) (
 some (.bool false))) (
 some (.bool false))) (
 some (.bool false))
theorem s.seicheref15_Unix (e : Ev) (Γ : Gam) (v0 : V) : stp e Γ 24 0 [v0] = y.seicheref15_Unix Γ v0 := by kernel_rfl
theorem w.seicheref15_Unix (e : Ev) (v0 : V) : vl e 24 0 [v0] = y.seicheref15_Unix (vl e) v0 := val_of (s.seicheref15_Unix e _ v0)
noncomputable def y.suffix_Of (Γ : Gam) (v0 : V) : Option V :=
 ca Γ 55 [v0, (.str [46, 103, 111])] fun v1 =>
 pr (.ext 0) [v1] fun v2 =>
 pr (.ext 1) [v1] fun v3 =>
 pr (.un (.not)) [v3] fun v4 =>
 vif v4 (
 Γ 32 9 [v2, (.bool true), (.bool false), (.bool false), (.str []), (.str [])]) (
 ca Γ 44 [v0, (.str [95])] fun v5 =>
 vif v5 (
 Γ 32 9 [v2, (.bool true), (.bool false), (.bool false), (.str []), (.str [])]) (
 ca Γ 44 [v0, (.str [46])] fun v6 =>
 Γ 32 9 [v2, v6, (.bool false), (.bool false), (.str []), (.str [])]))
theorem s.suffix_Of (e : Ev) (Γ : Gam) (v0 : V) : stp e Γ 32 0 [v0] = y.suffix_Of Γ v0 := by kernel_rfl
theorem w.suffix_Of (e : Ev) (v0 : V) : vl e 32 0 [v0] = y.suffix_Of (vl e) v0 := val_of (s.suffix_Of e _ v0)
noncomputable def y.suffix_Of_9 (Γ : Gam) (v0 v1 v2 v3 v4 v5 : V) : Option V :=
 vif v1 (
 pr (.cat []) [] fun v6 =>
 pr (.cat [none, none, none, none]) [(.bool false), (.bool false), (.str []), (.str [])] fun v7 =>
 pr (.cat [none, none, none, none]) [(.bool false), (.bool false), (.str []), (.str [])] fun v8 =>
 some v8) (
 pr (.cat [none]) [(.bool true)] fun v6 =>
 pr (.cat [none, none, none, none]) [(.bool true), (.bool false), (.str []), (.str [])] fun v7 =>
 ca Γ 55 [v0, (.str [95, 116, 101, 115, 116])] fun v8 =>
 pr (.ext 0) [v8] fun v9 =>
 pr (.ext 1) [v8] fun v10 =>
 pr .sc [v10] fun v11 =>
 ca Γ 46 [v9, (.str [95])] fun v12 =>
 pr (.slc 1 true false false) [v12, (.int .i64 1)] fun v13 =>
 pr (.len false) [v13] fun v14 =>
 pr (.bin (.sub) (.no)) [v14, (.int .i64 1)] fun v15 =>
 pr (.bin (.gtr) (.no)) [v15, (.int .i64 0)] fun v16 =>
 vif v16 (
 pr (.bin (.sub) (.no)) [v15, (.int .i64 1)] fun v17 =>
 pr (.elem 1) [v13, v17] fun v18 =>
 pr (.ld none 0) [v18] fun v19 =>
 ca Γ 56 [v19] fun v20 =>
 vif v20 (
 pr (.elem 1) [v13, v15] fun v21 =>
 pr (.ld none 0) [v21] fun v22 =>
 ca Γ 57 [v22] fun v23 =>
 Γ 32 26 [v13, v15, v23, v2, v3, v4, v5, (.bool true), v11, (.str []), (.str [])]) (
 Γ 32 26 [v13, v15, (.bool false), v2, v3, v4, v5, (.bool true), v11, (.str []), (.str [])])) (
 Γ 32 26 [v13, v15, (.bool false), v2, v3, v4, v5, (.bool true), v11, (.str []), (.str [])]))
theorem s.suffix_Of_9 (e : Ev) (Γ : Gam) (v0 v1 v2 v3 v4 v5 : V) : stp e Γ 32 9 [v0, v1, v2, v3, v4, v5] = y.suffix_Of_9 Γ v0 v1 v2 v3 v4 v5 := by kernel_rfl
theorem w.suffix_Of_9 (e : Ev) (v0 v1 v2 v3 v4 v5 : V) : vl e 32 9 [v0, v1, v2, v3, v4, v5] = y.suffix_Of_9 (vl e) v0 v1 v2 v3 v4 v5 := val_of (s.suffix_Of_9 e _ v0 v1 v2 v3 v4 v5)
noncomputable def y.suffix_Of_26 (Γ : Gam) (v0 v1 v2 v3 v4 v5 v6 v7 v8 v9 v10 : V) : Option V :=
 vif v2 (
 pr (.bin (.sub) (.no)) [v1, (.int .i64 1)] fun v11 =>
 pr (.elem 1) [v0, v11] fun v12 =>
 pr (.ld none 0) [v12] fun v13 =>
 pr (.elem 1) [v0, v1] fun v14 =>
 pr (.ld none 0) [v14] fun v15 =>
 pr .sc [v13] fun v16 =>
 pr .sc [v15] fun v17 =>
 pr (.cat [none, none, none, none]) [v7, v8, v16, v17] fun v18 =>
 pr (.cat [none, none, none, none]) [v7, v8, v16, v17] fun v19 =>
 some v19) (
 pr (.bin (.geq) (.no)) [v1, (.int .i64 0)] fun v11 =>
 vif v11 (
 pr (.elem 1) [v0, v1] fun v12 =>
 pr (.ld none 0) [v12] fun v13 =>
 ca Γ 56 [v13] fun v14 =>
 vif v14 (
 pr (.elem 1) [v0, v1] fun v15 =>
 pr (.ld none 0) [v15] fun v16 =>
 pr .sc [v16] fun v17 =>
 pr (.cat [none, none, none, none]) [v7, v8, v17, v10] fun v18 =>
 pr (.cat [none, none, none, none]) [v7, v8, v17, v10] fun v19 =>
 some v19) (
 pr (.bin (.geq) (.no)) [v1, (.int .i64 0)] fun v15 =>
 vif v15 (
 pr (.elem 1) [v0, v1] fun v16 =>
 pr (.ld none 0) [v16] fun v17 =>
 ca Γ 57 [v17] fun v18 =>
 vif v18 (
 pr (.elem 1) [v0, v1] fun v19 =>
 pr (.ld none 0) [v19] fun v20 =>
 pr .sc [v20] fun v21 =>
 pr (.cat [none, none, none, none]) [v7, v8, v9, v21] fun v22 =>
 pr (.cat [none, none, none, none]) [v7, v8, v9, v21] fun v23 =>
 some v23) (
 pr (.cat [none, none, none, none]) [v7, v8, v9, v10] fun v19 =>
 pr (.cat [none, none, none, none]) [v7, v8, v9, v10] fun v20 =>
 some v20)) (
 pr (.cat [none, none, none, none]) [v7, v8, v9, v10] fun v16 =>
 pr (.cat [none, none, none, none]) [v7, v8, v9, v10] fun v17 =>
 some v17))) (
 pr (.bin (.geq) (.no)) [v1, (.int .i64 0)] fun v12 =>
 vif v12 (
 pr (.elem 1) [v0, v1] fun v13 =>
 pr (.ld none 0) [v13] fun v14 =>
 ca Γ 57 [v14] fun v15 =>
 vif v15 (
 pr (.elem 1) [v0, v1] fun v16 =>
 pr (.ld none 0) [v16] fun v17 =>
 pr .sc [v17] fun v18 =>
 pr (.cat [none, none, none, none]) [v7, v8, v9, v18] fun v19 =>
 pr (.cat [none, none, none, none]) [v7, v8, v9, v18] fun v20 =>
 some v20) (
 pr (.cat [none, none, none, none]) [v7, v8, v9, v10] fun v16 =>
 pr (.cat [none, none, none, none]) [v7, v8, v9, v10] fun v17 =>
 some v17)) (
 pr (.cat [none, none, none, none]) [v7, v8, v9, v10] fun v13 =>
 pr (.cat [none, none, none, none]) [v7, v8, v9, v10] fun v14 =>
 some v14)))
theorem s.suffix_Of_26 (e : Ev) (Γ : Gam) (v0 v1 v2 v3 v4 v5 v6 v7 v8 v9 v10 : V) : stp e Γ 32 26 [v0, v1, v2, v3, v4, v5, v6, v7, v8, v9, v10] = y.suffix_Of_26 Γ v0 v1 v2 v3 v4 v5 v6 v7 v8 v9 v10 := by kernel_rfl
theorem w.suffix_Of_26 (e : Ev) (v0 v1 v2 v3 v4 v5 v6 v7 v8 v9 v10 : V) : vl e 32 26 [v0, v1, v2, v3, v4, v5, v6, v7, v8, v9, v10] = y.suffix_Of_26 (vl e) v0 v1 v2 v3 v4 v5 v6 v7 v8 v9 v10 := val_of (s.suffix_Of_26 e _ v0 v1 v2 v3 v4 v5 v6 v7 v8 v9 v10)
noncomputable def y.seicheref15_Of (Γ : Gam) (v0 : V) : Option V :=
 ca Γ 37 [v0, (.str [46, 103, 111])] fun v1 =>
 pr (.un (.not)) [v1] fun v2 =>
 vif v2 (
 Γ 36 7 [v0, (.bool true)]) (
 pr .idx [v0, (.int .i64 0)] fun v3 =>
 pr (.bin (.eql) (.no)) [v3, (.int .u8 95)] fun v4 =>
 vif v4 (
 Γ 36 7 [v0, (.bool true)]) (
 pr .idx [v0, (.int .i64 0)] fun v5 =>
 pr (.bin (.eql) (.no)) [v5, (.int .u8 46)] fun v6 =>
 Γ 36 7 [v0, v6]))
theorem s.seicheref15_Of (e : Ev) (Γ : Gam) (v0 : V) : stp e Γ 36 0 [v0] = y.seicheref15_Of Γ v0 := by kernel_rfl
theorem w.seicheref15_Of (e : Ev) (v0 : V) : vl e 36 0 [v0] = y.seicheref15_Of (vl e) v0 := val_of (s.seicheref15_Of e _ v0)
noncomputable def y.seicheref15_Of_7 (Γ : Gam) (v0 v1 : V) : Option V :=
 vif v1 (
 some (.tup [(.bool false), (.bool false), (.str []), (.str [])])) (
 pr (.len true) [v0] fun v2 =>
 pr (.bin (.sub) (.no)) [v2, (.int .i64 3)] fun v3 =>
 pr (.sls false true) [v0, v3] fun v4 =>
 ca Γ 37 [v4, (.str [95, 116, 101, 115, 116])] fun v5 =>
 vif v5 (
 pr (.len true) [v4] fun v6 =>
 pr (.bin (.sub) (.no)) [v6, (.int .i64 5)] fun v7 =>
 pr (.sls false true) [v4, v7] fun v8 =>
 Γ 36 22 [v8, (.bool true)]) (
 Γ 36 22 [v4, (.bool false)]))
theorem s.seicheref15_Of_7 (e : Ev) (Γ : Gam) (v0 v1 : V) : stp e Γ 36 7 [v0, v1] = y.seicheref15_Of_7 Γ v0 v1 := by kernel_rfl
theorem w.seicheref15_Of_7 (e : Ev) (v0 v1 : V) : vl e 36 7 [v0, v1] = y.seicheref15_Of_7 (vl e) v0 v1 := val_of (s.seicheref15_Of_7 e _ v0 v1)
noncomputable def y.seicheref15_Of_22 (Γ : Gam) (v0 v1 : V) : Option V :=
 ca Γ 52 [v0, (.int .u8 95)] fun v2 =>
 pr (.len false) [v2] fun v3 =>
 pr (.bin (.geq) (.no)) [v3, (.int .i64 3)] fun v4 =>
 vif v4 (
 pr (.bin (.sub) (.no)) [v3, (.int .i64 2)] fun v5 =>
 pr (.elem 1) [v2, v5] fun v6 =>
 pr (.ld none 0) [v6] fun v7 =>
 ca Γ 43 [v7] fun v8 =>
 vif v8 (
 pr (.bin (.sub) (.no)) [v3, (.int .i64 1)] fun v9 =>
 pr (.elem 1) [v2, v9] fun v10 =>
 pr (.ld none 0) [v10] fun v11 =>
 ca Γ 60 [v11] fun v12 =>
 Γ 36 29 [v1, v2, v3, v12]) (
 Γ 36 29 [v1, v2, v3, (.bool false)])) (
 Γ 36 29 [v1, v2, v3, (.bool false)])
theorem s.seicheref15_Of_22 (e : Ev) (Γ : Gam) (v0 v1 : V) : stp e Γ 36 22 [v0, v1] = y.seicheref15_Of_22 Γ v0 v1 := by kernel_rfl
theorem w.seicheref15_Of_22 (e : Ev) (v0 v1 : V) : vl e 36 22 [v0, v1] = y.seicheref15_Of_22 (vl e) v0 v1 := val_of (s.seicheref15_Of_22 e _ v0 v1)
noncomputable def y.seicheref15_Of_29 (Γ : Gam) (v0 v1 v2 v3 : V) : Option V :=
 vif v3 (
 pr (.bin (.sub) (.no)) [v2, (.int .i64 2)] fun v4 =>
 pr (.elem 1) [v1, v4] fun v5 =>
 pr (.ld none 0) [v5] fun v6 =>
 pr (.bin (.sub) (.no)) [v2, (.int .i64 1)] fun v7 =>
 pr (.elem 1) [v1, v7] fun v8 =>
 pr (.ld none 0) [v8] fun v9 =>
 some (.tup [(.bool true), v0, v6, v9])) (
 pr (.bin (.geq) (.no)) [v2, (.int .i64 2)] fun v4 =>
 vif v4 (
 pr (.bin (.sub) (.no)) [v2, (.int .i64 1)] fun v5 =>
 pr (.elem 1) [v1, v5] fun v6 =>
 pr (.ld none 0) [v6] fun v7 =>
 ca Γ 43 [v7] fun v8 =>
 vif v8 (
 pr (.bin (.sub) (.no)) [v2, (.int .i64 1)] fun v9 =>
 pr (.elem 1) [v1, v9] fun v10 =>
 pr (.ld none 0) [v10] fun v11 =>
 some (.tup [(.bool true), v0, v11, (.str [])])) (
 pr (.bin (.geq) (.no)) [v2, (.int .i64 2)] fun v9 =>
 vif v9 (
 pr (.bin (.sub) (.no)) [v2, (.int .i64 1)] fun v10 =>
 pr (.elem 1) [v1, v10] fun v11 =>
 pr (.ld none 0) [v11] fun v12 =>
 ca Γ 60 [v12] fun v13 =>
 vif v13 (
 pr (.bin (.sub) (.no)) [v2, (.int .i64 1)] fun v14 =>
 pr (.elem 1) [v1, v14] fun v15 =>
 pr (.ld none 0) [v15] fun v16 =>
 some (.tup [(.bool true), v0, (.str []), v16])) (
 some (.tup [(.bool true), v0, (.str []), (.str [])]))) (
 some (.tup [(.bool true), v0, (.str []), (.str [])])))) (
 pr (.bin (.geq) (.no)) [v2, (.int .i64 2)] fun v5 =>
 vif v5 (
 pr (.bin (.sub) (.no)) [v2, (.int .i64 1)] fun v6 =>
 pr (.elem 1) [v1, v6] fun v7 =>
 pr (.ld none 0) [v7] fun v8 =>
 ca Γ 60 [v8] fun v9 =>
 vif v9 (
 pr (.bin (.sub) (.no)) [v2, (.int .i64 1)] fun v10 =>
 pr (.elem 1) [v1, v10] fun v11 =>
 pr (.ld none 0) [v11] fun v12 =>
 some (.tup [(.bool true), v0, (.str []), v12])) (
 some (.tup [(.bool true), v0, (.str []), (.str [])]))) (
 some (.tup [(.bool true), v0, (.str []), (.str [])]))))
theorem s.seicheref15_Of_29 (e : Ev) (Γ : Gam) (v0 v1 v2 v3 : V) : stp e Γ 36 29 [v0, v1, v2, v3] = y.seicheref15_Of_29 Γ v0 v1 v2 v3 := by kernel_rfl
theorem w.seicheref15_Of_29 (e : Ev) (v0 v1 v2 v3 : V) : vl e 36 29 [v0, v1, v2, v3] = y.seicheref15_Of_29 (vl e) v0 v1 v2 v3 := val_of (s.seicheref15_Of_29 e _ v0 v1 v2 v3)
noncomputable def y.strings_HasPrefix (Γ : Gam) (v0 v1 : V) : Option V :=
 ca Γ 65 [v0, v1] fun v2 =>
 some v2
theorem s.strings_HasPrefix (e : Ev) (Γ : Gam) (v0 v1 : V) : stp e Γ 44 0 [v0, v1] = y.strings_HasPrefix Γ v0 v1 := by kernel_rfl
theorem w.strings_HasPrefix (e : Ev) (v0 v1 : V) : vl e 44 0 [v0, v1] = y.strings_HasPrefix (vl e) v0 v1 := val_of (s.strings_HasPrefix e _ v0 v1)
noncomputable def y.plus_Lines (Γ : Gam) (v0 : V) : Option V :=
 pr (.len false) [v0] fun v1 =>
 pr (.bin (.eql) (.no)) [v1, (.int .i64 0)] fun v2 =>
 vif v2 (
 some (.tup [(.str []), (.int .i64 4)])) (
 ca Γ 70 [v0, (.str [32, 38, 38, 32]), (.fn 71 [])] fun v3 =>
 pr (.ext 0) [v3] fun v4 =>
 pr (.ext 1) [v3] fun v5 =>
 some (.tup [v4, v5]))
theorem s.plus_Lines (e : Ev) (Γ : Gam) (v0 : V) : stp e Γ 48 0 [v0] = y.plus_Lines Γ v0 := by kernel_rfl
theorem w.plus_Lines (e : Ev) (v0 : V) : vl e 48 0 [v0] = y.plus_Lines (vl e) v0 := val_of (s.plus_Lines e _ v0)
noncomputable def y.seicheref14_Cut (Γ : Gam) (v0 v1 : V) : Option V :=
 Γ 52 12 [v0, v1, (.sl false 1 []), (.int .i64 0), (.int .i64 0)]
theorem s.seicheref14_Cut (e : Ev) (Γ : Gam) (v0 v1 : V) : stp e Γ 52 0 [v0, v1] = y.seicheref14_Cut Γ v0 v1 := by kernel_rfl
theorem w.seicheref14_Cut (e : Ev) (v0 v1 : V) : vl e 52 0 [v0, v1] = y.seicheref14_Cut (vl e) v0 v1 := val_of (s.seicheref14_Cut e _ v0 v1)
noncomputable def y.seicheref14_Cut_12 (Γ : Gam) (v0 v1 v2 v3 v4 : V) : Option V :=
 pr (.len true) [v0] fun v5 =>
 pr (.bin (.leq) (.no)) [v4, v5] fun v6 =>
 vif v6 (
 pr (.len true) [v0] fun v7 =>
 pr (.bin (.eql) (.no)) [v4, v7] fun v8 =>
 vif v8 (
 pr (.sls true true) [v0, v3, v4] fun v9 =>
 pr (.bsl 1) [v9] fun v10 =>
 pr (.app 1) [v2, v10] fun v11 =>
 pr (.bin (.add) (.no)) [v4, (.int .i64 1)] fun v12 =>
 pr (.bin (.add) (.no)) [v4, (.int .i64 1)] fun v13 =>
 Γ 52 12 [v0, v1, v11, v12, v13]) (
 pr .idx [v0, v4] fun v9 =>
 pr (.bin (.eql) (.no)) [v9, v1] fun v10 =>
 vif v10 (
 pr (.sls true true) [v0, v3, v4] fun v11 =>
 pr (.bsl 1) [v11] fun v12 =>
 pr (.app 1) [v2, v12] fun v13 =>
 pr (.bin (.add) (.no)) [v4, (.int .i64 1)] fun v14 =>
 pr (.bin (.add) (.no)) [v4, (.int .i64 1)] fun v15 =>
 Γ 52 12 [v0, v1, v13, v14, v15]) (
 pr (.bin (.add) (.no)) [v4, (.int .i64 1)] fun v11 =>
 Γ 52 12 [v0, v1, v2, v3, v11]))) (
 some v2)
theorem s.seicheref14_Cut_12 (e : Ev) (Γ : Gam) (v0 v1 v2 v3 v4 : V) : stp e Γ 52 12 [v0, v1, v2, v3, v4] = y.seicheref14_Cut_12 Γ v0 v1 v2 v3 v4 := by kernel_rfl
theorem w.seicheref14_Cut_12 (e : Ev) (v0 v1 v2 v3 v4 : V) : vl e 52 12 [v0, v1, v2, v3, v4] = y.seicheref14_Cut_12 (vl e) v0 v1 v2 v3 v4 := val_of (s.seicheref14_Cut_12 e _ v0 v1 v2 v3 v4)
noncomputable def y.suffix_System (Γ : Gam) (v0 : V) : Option V :=
 pr (.ld none 0) [(.agg [.sl false 1 [.str [97, 105, 120], .str [97, 110, 100, 114, 111, 105, 100], .str [100, 97, 114, 119, 105, 110], .str [100, 114, 97, 103, 111, 110, 102, 108, 121], .str [102, 114, 101, 101, 98, 115, 100], .str [105, 108, 108, 117, 109, 111, 115], .str [105, 111, 115], .str [106, 115], .str [108, 105, 110, 117, 120], .str [110, 101, 116, 98, 115, 100], .str [111, 112, 101, 110, 98, 115, 100], .str [112, 108, 97, 110, 57], .str [115, 111, 108, 97, 114, 105, 115], .str [119, 97, 115, 105, 112, 49], .str [119, 105, 110, 100, 111, 119, 115]]])] fun v1 =>
 ca Γ 22 [v1, v0] fun v2 =>
 some v2
theorem s.suffix_System (e : Ev) (Γ : Gam) (v0 : V) : stp e Γ 56 0 [v0] = y.suffix_System Γ v0 := by kernel_rfl
theorem w.suffix_System (e : Ev) (v0 : V) : vl e 56 0 [v0] = y.suffix_System (vl e) v0 := val_of (s.suffix_System e _ v0)
noncomputable def y.seicheref15_Processor (Γ : Gam) (v0 : V) : Option V :=
 ca Γ 19 [] fun v1 =>
 ca Γ 17 [v1, v0] fun v2 =>
 some v2
theorem s.seicheref15_Processor (e : Ev) (Γ : Gam) (v0 : V) : stp e Γ 60 0 [v0] = y.seicheref15_Processor Γ v0 := by kernel_rfl
theorem w.seicheref15_Processor (e : Ev) (v0 : V) : vl e 60 0 [v0] = y.seicheref15_Processor (vl e) v0 := val_of (s.seicheref15_Processor e _ v0)
noncomputable def y.slices_ContainsFunc_Lbyte_byte (Γ : Gam) (v0 v1 : V) : Option V :=
 ca Γ 97 [v0, v1] fun v2 =>
 pr (.bin (.geq) (.no)) [v2, (.int .i64 0)] fun v3 =>
 some v3
theorem s.slices_ContainsFunc_Lbyte_byte (e : Ev) (Γ : Gam) (v0 v1 : V) : stp e Γ 72 0 [v0, v1] = y.slices_ContainsFunc_Lbyte_byte Γ v0 v1 := by kernel_rfl
theorem w.slices_ContainsFunc_Lbyte_byte (e : Ev) (v0 v1 : V) : vl e 72 0 [v0, v1] = y.slices_ContainsFunc_Lbyte_byte (vl e) v0 v1 := val_of (s.slices_ContainsFunc_Lbyte_byte e _ v0 v1)
noncomputable def y.seicheref13_Sign (Γ : Gam) (v0 : V) : Option V :=
 pr (.bin (.geq) (.no)) [v0, (.int .u8 97)] fun v1 =>
 vif v1 (
 pr (.bin (.leq) (.no)) [v0, (.int .u8 122)] fun v2 =>
 vif v2 (
 some (.bool true)) (
 pr (.bin (.geq) (.no)) [v0, (.int .u8 65)] fun v3 =>
 vif v3 (
 pr (.bin (.leq) (.no)) [v0, (.int .u8 90)] fun v4 =>
 vif v4 (
 some (.bool true)) (
 pr (.bin (.geq) (.no)) [v0, (.int .u8 48)] fun v5 =>
 vif v5 (
 pr (.bin (.leq) (.no)) [v0, (.int .u8 57)] fun v6 =>
 vif v6 (
 some (.bool true)) (
 pr (.bin (.eql) (.no)) [v0, (.int .u8 95)] fun v7 =>
 vif v7 (
 some (.bool true)) (
 pr (.bin (.eql) (.no)) [v0, (.int .u8 46)] fun v8 =>
 some v8))) (
 pr (.bin (.eql) (.no)) [v0, (.int .u8 95)] fun v6 =>
 vif v6 (
 some (.bool true)) (
 pr (.bin (.eql) (.no)) [v0, (.int .u8 46)] fun v7 =>
 some v7)))) (
 pr (.bin (.geq) (.no)) [v0, (.int .u8 48)] fun v4 =>
 vif v4 (
 pr (.bin (.leq) (.no)) [v0, (.int .u8 57)] fun v5 =>
 vif v5 (
 some (.bool true)) (
 pr (.bin (.eql) (.no)) [v0, (.int .u8 95)] fun v6 =>
 vif v6 (
 some (.bool true)) (
 pr (.bin (.eql) (.no)) [v0, (.int .u8 46)] fun v7 =>
 some v7))) (
 pr (.bin (.eql) (.no)) [v0, (.int .u8 95)] fun v5 =>
 vif v5 (
 some (.bool true)) (
 pr (.bin (.eql) (.no)) [v0, (.int .u8 46)] fun v6 =>
 some v6))))) (
 pr (.bin (.geq) (.no)) [v0, (.int .u8 65)] fun v2 =>
 vif v2 (
 pr (.bin (.leq) (.no)) [v0, (.int .u8 90)] fun v3 =>
 vif v3 (
 some (.bool true)) (
 pr (.bin (.geq) (.no)) [v0, (.int .u8 48)] fun v4 =>
 vif v4 (
 pr (.bin (.leq) (.no)) [v0, (.int .u8 57)] fun v5 =>
 vif v5 (
 some (.bool true)) (
 pr (.bin (.eql) (.no)) [v0, (.int .u8 95)] fun v6 =>
 vif v6 (
 some (.bool true)) (
 pr (.bin (.eql) (.no)) [v0, (.int .u8 46)] fun v7 =>
 some v7))) (
 pr (.bin (.eql) (.no)) [v0, (.int .u8 95)] fun v5 =>
 vif v5 (
 some (.bool true)) (
 pr (.bin (.eql) (.no)) [v0, (.int .u8 46)] fun v6 =>
 some v6)))) (
 pr (.bin (.geq) (.no)) [v0, (.int .u8 48)] fun v3 =>
 vif v3 (
 pr (.bin (.leq) (.no)) [v0, (.int .u8 57)] fun v4 =>
 vif v4 (
 some (.bool true)) (
 pr (.bin (.eql) (.no)) [v0, (.int .u8 95)] fun v5 =>
 vif v5 (
 some (.bool true)) (
 pr (.bin (.eql) (.no)) [v0, (.int .u8 46)] fun v6 =>
 some v6))) (
 pr (.bin (.eql) (.no)) [v0, (.int .u8 95)] fun v4 =>
 vif v4 (
 some (.bool true)) (
 pr (.bin (.eql) (.no)) [v0, (.int .u8 46)] fun v5 =>
 some v5))))
theorem s.seicheref13_Sign (e : Ev) (Γ : Gam) (v0 : V) : stp e Γ 80 0 [v0] = y.seicheref13_Sign Γ v0 := by kernel_rfl
theorem w.seicheref13_Sign (e : Ev) (v0 : V) : vl e 80 0 [v0] = y.seicheref13_Sign (vl e) v0 := val_of (s.seicheref13_Sign e _ v0)
noncomputable def y.plus_option (Γ : Gam) (v0 : V) : Option V :=
 ca Γ 46 [v0, (.str [44])] fun v1 =>
 ca Γ 70 [v1, (.str [32, 38, 38, 32]), (.fn 117 [])] fun v2 =>
 pr (.ext 0) [v2] fun v3 =>
 pr (.ext 1) [v2] fun v4 =>
 some (.tup [v3, v4])
theorem s.plus_option (e : Ev) (Γ : Gam) (v0 : V) : stp e Γ 96 0 [v0] = y.plus_option Γ v0 := by kernel_rfl
theorem w.plus_option (e : Ev) (v0 : V) : vl e 96 0 [v0] = y.plus_option (vl e) v0 := val_of (s.plus_option e _ v0)
noncomputable def y.seicheref14_Term (Γ : Gam) (v0 : V) : Option V :=
 pr (.len true) [v0] fun v1 =>
 pr (.bin (.gtr) (.no)) [v1, (.int .i64 0)] fun v2 =>
 vif v2 (
 pr .idx [v0, (.int .i64 0)] fun v3 =>
 pr (.bin (.eql) (.no)) [v3, (.int .u8 33)] fun v4 =>
 vif v4 (
 pr (.sls true false) [v0, (.int .i64 1)] fun v5 =>
 ca Γ 54 [v5] fun v6 =>
 some (.tup [v5, (.bool true), v6])) (
 ca Γ 54 [v0] fun v5 =>
 some (.tup [v0, (.bool false), v5]))) (
 ca Γ 54 [v0] fun v3 =>
 some (.tup [v0, (.bool false), v3]))
theorem s.seicheref14_Term (e : Ev) (Γ : Gam) (v0 : V) : stp e Γ 100 0 [v0] = y.seicheref14_Term Γ v0 := by kernel_rfl
theorem w.seicheref14_Term (e : Ev) (v0 : V) : vl e 100 0 [v0] = y.seicheref14_Term (vl e) v0 := val_of (s.seicheref14_Term e _ v0)
noncomputable def y.seichelaw16_CondIn (Γ : Gam) (v0 v1 v2 : V) : Option V :=
 pr .scs [v0] fun v3 =>
 pr .scs [v2] fun v4 =>
 ca Γ 9 [] fun v5 =>
 pr (.un (.not)) [v5] fun v6 =>
 vif v6 (
 some (.bool false)) (
 pr (.ld (some 5) 0) [v3] fun v7 =>
 ca Γ 10 [v7] fun v8 =>
 vif v8 (
 some (.bool true)) (
 pr (.len true) [v1] fun v9 =>
 pr (.ld none 2) [v4] fun v10 =>
 pr (.len true) [v10] fun v11 =>
 pr (.bin (.add) (.no)) [v9, v11] fun v12 =>
 pr (.ld none 0) [v4] fun v13 =>
 pr (.len true) [v13] fun v14 =>
 pr (.bin (.add) (.no)) [v12, v14] fun v15 =>
 pr (.bin (.gtr) (.no)) [v15, (.int .i64 1024)] fun v16 =>
 vif v16 (
 some (.bool true)) (
 pr (.ld none 1) [v4] fun v17 =>
 pr (.len false) [v17] fun v18 =>
 pr (.bin (.gtr) (.no)) [v18, (.int .i64 20)] fun v19 =>
 vif v19 (
 some (.bool true)) (
 pr (.ld (some 5) 0) [v3] fun v20 =>
 pr (.ld (some 6) 0) [v4] fun v21 =>
 ca Γ 15 [v20, v1, v21] fun v22 =>
 pr (.ext 0) [v22] fun v23 =>
 pr (.ext 1) [v22] fun v24 =>
 pr (.ld (some 5) 0) [v3] fun v25 =>
 pr (.ld (some 6) 0) [v4] fun v26 =>
 ca Γ 16 [v25, v1, v26] fun v27 =>
 pr (.ext 0) [v27] fun v28 =>
 pr (.ext 1) [v27] fun v29 =>
 pr (.bin (.eql) (.no)) [v23, v28] fun v30 =>
 vif v30 (
 pr (.bin (.eql) (.no)) [v24, v29] fun v31 =>
 some v31) (
 some (.bool false))))))
theorem s.seichelaw16_CondIn (e : Ev) (Γ : Gam) (v0 v1 v2 : V) : stp e Γ 5 0 [v0, v1, v2] = y.seichelaw16_CondIn Γ v0 v1 v2 := by kernel_rfl
theorem w.seichelaw16_CondIn (e : Ev) (v0 v1 v2 : V) : vl e 5 0 [v0, v1, v2] = y.seichelaw16_CondIn (vl e) v0 v1 v2 := val_of (s.seichelaw16_CondIn e _ v0 v1 v2)
noncomputable def y.seichelaw16_alive (Γ : Gam) : Option V :=
 pr (.cat [none, none, none]) [(.str [108, 105, 110, 117, 120]), (.str [97, 114, 109]), (.int .i64 20)] fun v0 =>
 pr (.cat [none, none, none, none, none]) [(.str [108, 105, 110, 117, 120]), (.str [97, 114, 109]), (.bool false), (.int .i64 20), (.sl false 1 [])] fun v1 =>
 pr (.cat [none, none, none, none, none]) [(.str [108, 105, 110, 117, 120]), (.str [97, 114, 109]), (.bool false), (.int .i64 20), (.sl false 1 [])] fun v2 =>
 pr (.cat [none]) [(.str [97, 95, 116, 101, 115, 116])] fun v3 =>
 pr (.cat [none, none, none, none, none, none]) [(.str [97, 95, 116, 101, 115, 116]), (.sl false 3 []), (.str []), (.sl false 1 []), (.int .i64 0), (.int .i64 0)] fun v4 =>
 ca Γ 15 [v2, (.str [97, 95, 108, 105, 110, 117, 120, 95, 116, 101, 115, 116, 46, 103, 111]), v4] fun v5 =>
 pr (.ext 0) [v5] fun v6 =>
 pr (.ext 1) [v5] fun v7 =>
 pr (.cat [none, none, none, none, none]) [(.str [108, 105, 110, 117, 120]), (.str [97, 114, 109]), (.bool false), (.int .i64 20), (.sl false 1 [])] fun v8 =>
 ca Γ 11 [v8, (.str [103, 111, 49, 46, 50, 48])] fun v9 =>
 vif v9 (
 pr (.cat [none, none, none, none, none]) [(.str [108, 105, 110, 117, 120]), (.str [97, 114, 109]), (.bool false), (.int .i64 20), (.sl false 1 [])] fun v10 =>
 ca Γ 11 [v10, (.str [103, 111, 49, 46, 50, 49])] fun v11 =>
 pr (.un (.not)) [v11] fun v12 =>
 vif v12 (
 pr (.cat [none, none, none, none, none]) [(.str [108, 105, 110, 117, 120]), (.str [97, 114, 109]), (.bool false), (.int .i64 20), (.sl false 1 [])] fun v13 =>
 ca Γ 11 [v13, (.str [117, 110, 105, 120])] fun v14 =>
 vif v14 (
 pr (.bin (.eql) (.no)) [v6, (.int .i64 3)] fun v15 =>
 vif v15 (
 pr (.bin (.eql) (.no)) [v7, (.int .i64 0)] fun v16 =>
 some v16) (
 some (.bool false))) (
 some (.bool false))) (
 some (.bool false))) (
 some (.bool false))
theorem s.seichelaw16_alive (e : Ev) (Γ : Gam) : stp e Γ 9 0 [] = y.seichelaw16_alive Γ := by kernel_rfl
theorem w.seichelaw16_alive (e : Ev) : vl e 9 0 [] = y.seichelaw16_alive (vl e) := val_of (s.seichelaw16_alive e _)
noncomputable def y.cond_Holds (Γ : Gam) (v0 v1 : V) : Option V :=
 pr .scs [v0] fun v2 =>
 pr (.bin (.eql) (.no)) [v1, (.str [])] fun v3 =>
 vif v3 (
 some (.tup [(.bool true), (.int .i64 0)])) (
 ca Γ 25 [v1] fun v4 =>
 pr (.ext 0) [v4] fun v5 =>
 pr (.ext 1) [v4] fun v6 =>
 pr (.bin (.neq) (.no)) [v6, (.int .i64 0)] fun v7 =>
 vif v7 (
 some (.tup [(.bool false), v6])) (
 ch Γ 10448 [v5] fun v8 =>
 pr (.ext 0) [v8] fun v9 =>
 pr (.ext 1) [v8] fun v10 =>
 ch Γ 10432 [v9, v10, v2] fun v11 =>
 pr (.ext 0) [v11] fun v12 =>
 pr (.ext 1) [v11] fun v13 =>
 pr (.ext 2) [v11] fun v14 =>
 pr .snapx [v13, v12] fun v15 =>
 ca Γ 26 [v5, v15] fun v16 =>
 pr .flr [v16] fun v17 =>
 pr (.ext 0) [v17] fun v18 =>
 pr (.ext 1) [v17] fun v19 =>
 some (.tup [v18, v19])))
theorem s.cond_Holds (e : Ev) (Γ : Gam) (v0 v1 : V) : stp e Γ 13 0 [v0, v1] = y.cond_Holds Γ v0 v1 := by kernel_rfl
theorem w.cond_Holds (e : Ev) (v0 v1 : V) : vl e 13 0 [v0, v1] = y.cond_Holds (vl e) v0 v1 := val_of (s.cond_Holds e _ v0 v1)
noncomputable def y.seicheref13_In (Γ : Gam) (v0 v1 : V) : Option V :=
 pr (.len false) [v0] fun v2 =>
 Γ 17 8 [v1, v0, v2, (.int .i64 0)]
theorem s.seicheref13_In (e : Ev) (Γ : Gam) (v0 v1 : V) : stp e Γ 17 0 [v0, v1] = y.seicheref13_In Γ v0 v1 := by kernel_rfl
theorem w.seicheref13_In (e : Ev) (v0 v1 : V) : vl e 17 0 [v0, v1] = y.seicheref13_In (vl e) v0 v1 := val_of (s.seicheref13_In e _ v0 v1)
end Go.Proofs.YtanocopjancaiaaGreatDoor
namespace Go.Proofs.YtanocopjancaiaaGreatDoor
open Go.Abs
noncomputable def y.seicheref13_In_8 (Γ : Gam) (v0 v1 v2 v3 : V) : Option V :=
 pr (.bin (.lss) (.no)) [v3, v2] fun v4 =>
 vif v4 (
 pr (.elem 1) [v1, v3] fun v5 =>
 pr (.ld none 0) [v5] fun v6 =>
 pr (.bin (.eql) (.no)) [v6, v0] fun v7 =>
 vif v7 (
 some (.bool true)) (
 pr (.bin (.add) (.no)) [v3, (.int .i64 1)] fun v8 =>
 Γ 17 8 [v0, v1, v2, v8])) (
 some (.bool false))
theorem s.seicheref13_In_8 (e : Ev) (Γ : Gam) (v0 v1 v2 v3 : V) : stp e Γ 17 8 [v0, v1, v2, v3] = y.seicheref13_In_8 Γ v0 v1 v2 v3 := by kernel_rfl
theorem w.seicheref13_In_8 (e : Ev) (v0 v1 v2 v3 : V) : vl e 17 8 [v0, v1, v2, v3] = y.seicheref13_In_8 (vl e) v0 v1 v2 v3 := val_of (s.seicheref13_In_8 e _ v0 v1 v2 v3)
noncomputable def y.suffix_Unix (Γ : Gam) (v0 : V) : Option V :=
 pr (.ld none 0) [(.agg [.sl false 1 [.str [97, 105, 120], .str [97, 110, 100, 114, 111, 105, 100], .str [100, 97, 114, 119, 105, 110], .str [100, 114, 97, 103, 111, 110, 102, 108, 121], .str [102, 114, 101, 101, 98, 115, 100], .str [105, 108, 108, 117, 109, 111, 115], .str [105, 111, 115], .str [108, 105, 110, 117, 120], .str [110, 101, 116, 98, 115, 100], .str [111, 112, 101, 110, 98, 115, 100], .str [115, 111, 108, 97, 114, 105, 115]]])] fun v1 =>
 ca Γ 22 [v1, v0] fun v2 =>
 some v2
theorem s.suffix_Unix (e : Ev) (Γ : Gam) (v0 : V) : stp e Γ 21 0 [v0] = y.suffix_Unix Γ v0 := by kernel_rfl
theorem w.suffix_Unix (e : Ev) (v0 : V) : vl e 21 0 [v0] = y.suffix_Unix (vl e) v0 := val_of (s.suffix_Unix e _ v0)
noncomputable def y.plus_Parse (Γ : Gam) (v0 : V) : Option V :=
 ca Γ 44 [v0, (.str [43])] fun v1 =>
 pr (.un (.not)) [v1] fun v2 =>
 vif v2 (
 ca Γ 45 [v0] fun v3 =>
 pr (.ext 0) [v3] fun v4 =>
 pr (.ext 1) [v3] fun v5 =>
 some (.tup [v4, v5])) (
 ca Γ 46 [v0, (.str [10])] fun v3 =>
 pr (.len false) [v3] fun v4 =>
 Γ 25 18 [(.sl false 1 []), v3, v4, (.int .i64 0)])
theorem s.plus_Parse (e : Ev) (Γ : Gam) (v0 : V) : stp e Γ 25 0 [v0] = y.plus_Parse Γ v0 := by kernel_rfl
theorem w.plus_Parse (e : Ev) (v0 : V) : vl e 25 0 [v0] = y.plus_Parse (vl e) v0 := val_of (s.plus_Parse e _ v0)
noncomputable def y.plus_Parse_18 (Γ : Gam) (v0 v1 v2 v3 : V) : Option V :=
 pr (.bin (.lss) (.no)) [v3, v2] fun v4 =>
 vif v4 (
 pr (.elem 1) [v1, v3] fun v5 =>
 pr (.ld none 0) [v5] fun v6 =>
 ca Γ 47 [v6, (.str [43])] fun v7 =>
 pr (.bsl 1) [v7] fun v8 =>
 pr (.app 1) [v0, v8] fun v9 =>
 pr (.bin (.add) (.no)) [v3, (.int .i64 1)] fun v10 =>
 Γ 25 18 [v9, v1, v2, v10]) (
 ca Γ 48 [v0] fun v5 =>
 pr (.ext 0) [v5] fun v6 =>
 pr (.ext 1) [v5] fun v7 =>
 pr (.bin (.neq) (.no)) [v7, (.int .i64 0)] fun v8 =>
 vif v8 (
 some (.tup [(.sl false 1 []), v7])) (
 ca Γ 45 [v6] fun v9 =>
 pr (.ext 0) [v9] fun v10 =>
 pr (.ext 1) [v9] fun v11 =>
 some (.tup [v10, v11])))
theorem s.plus_Parse_18 (e : Ev) (Γ : Gam) (v0 v1 v2 v3 : V) : stp e Γ 25 18 [v0, v1, v2, v3] = y.plus_Parse_18 Γ v0 v1 v2 v3 := by kernel_rfl
theorem w.plus_Parse_18 (e : Ev) (v0 v1 v2 v3 : V) : vl e 25 18 [v0, v1, v2, v3] = y.plus_Parse_18 (vl e) v0 v1 v2 v3 := val_of (s.plus_Parse_18 e _ v0 v1 v2 v3)
noncomputable def y.slices_ContainsFunc_Lseiche_api_Import_seiche_api_Import (Γ : Gam) (v0 v1 : V) : Option V :=
 ca Γ 58 [v0, v1] fun v2 =>
 pr (.bin (.geq) (.no)) [v2, (.int .i64 0)] fun v3 =>
 some v3
theorem s.slices_ContainsFunc_Lseiche_api_Import_seiche_api_Import (e : Ev) (Γ : Gam) (v0 v1 : V) : stp e Γ 33 0 [v0, v1] = y.slices_ContainsFunc_Lseiche_api_Import_seiche_api_Import Γ v0 v1 := by kernel_rfl
theorem w.slices_ContainsFunc_Lseiche_api_Import_seiche_api_Import (e : Ev) (v0 v1 : V) : vl e 33 0 [v0, v1] = y.slices_ContainsFunc_Lseiche_api_Import_seiche_api_Import (vl e) v0 v1 := val_of (s.slices_ContainsFunc_Lseiche_api_Import_seiche_api_Import e _ v0 v1)
noncomputable def y.seicheref15_Ends (Γ : Gam) (v0 v1 : V) : Option V :=
 pr (.len true) [v0] fun v2 =>
 pr (.len true) [v1] fun v3 =>
 pr (.bin (.geq) (.no)) [v2, v3] fun v4 =>
 vif v4 (
 pr (.len true) [v0] fun v5 =>
 pr (.len true) [v1] fun v6 =>
 pr (.bin (.sub) (.no)) [v5, v6] fun v7 =>
 pr (.sls true false) [v0, v7] fun v8 =>
 pr (.bin (.eql) (.no)) [v8, v1] fun v9 =>
 some v9) (
 some (.bool false))
theorem s.seicheref15_Ends (e : Ev) (Γ : Gam) (v0 v1 : V) : stp e Γ 37 0 [v0, v1] = y.seicheref15_Ends Γ v0 v1 := by kernel_rfl
theorem w.seicheref15_Ends (e : Ev) (v0 v1 : V) : vl e 37 0 [v0, v1] = y.seicheref15_Ends (vl e) v0 v1 := val_of (s.seicheref15_Ends e _ v0 v1)
noncomputable def y.expr_Parse (Γ : Gam) (v0 : V) : Option V :=
 pr (.len true) [v0] fun v1 =>
 pr (.bin (.gtr) (.no)) [v1, (.int .i64 1024)] fun v2 =>
 vif v2 (
 some (.tup [(.sl false 1 []), (.int .i64 3)])) (
 pr (.cat [none]) [v0] fun v3 =>
 pr (.cat [none, none, none, none]) [v0, (.int .i64 0), (.sl false 1 []), (.int .i64 0)] fun v4 =>
 ch Γ 11056 [v0, (.int .i64 0), (.sl false 1 []), (.int .i64 0)] fun v5 =>
 pr (.ext 0) [v5] fun v6 =>
 pr (.ext 1) [v5] fun v7 =>
 pr (.ext 2) [v5] fun v8 =>
 pr (.ext 3) [v5] fun v9 =>
 pr (.ext 4) [v5] fun v10 =>
 pr (.bin (.neq) (.no)) [v6, (.int .i64 0)] fun v11 =>
 vif v11 (
 some (.tup [(.sl false 1 []), v6])) (
 ch Γ 11072 [v7, v8, v9, v10] fun v12 =>
 pr (.ext 0) [v12] fun v13 =>
 pr (.ext 1) [v12] fun v14 =>
 pr (.ext 2) [v12] fun v15 =>
 pr (.ext 3) [v12] fun v16 =>
 pr (.len true) [v13] fun v17 =>
 pr (.bin (.lss) (.no)) [v14, v17] fun v18 =>
 vif v18 (
 some (.tup [(.sl false 1 []), (.int .i64 4)])) (
 some (.tup [v15, (.int .i64 0)]))))
theorem s.expr_Parse (e : Ev) (Γ : Gam) (v0 : V) : stp e Γ 45 0 [v0] = y.expr_Parse Γ v0 := by kernel_rfl
theorem w.expr_Parse (e : Ev) (v0 : V) : vl e 45 0 [v0] = y.expr_Parse (vl e) v0 := val_of (s.expr_Parse e _ v0)
noncomputable def y.expr_Tag (Γ : Gam) (v0 : V) : Option V :=
 pr (.bin (.neq) (.no)) [v0, (.str [])] fun v1 =>
 vif v1 (
 pr .s2b [v0] fun v2 =>
 ca Γ 72 [v2, (.fn 73 [])] fun v3 =>
 pr (.un (.not)) [v3] fun v4 =>
 some v4) (
 some (.bool false))
theorem s.expr_Tag (e : Ev) (Γ : Gam) (v0 : V) : stp e Γ 49 0 [v0] = y.expr_Tag Γ v0 := by kernel_rfl
theorem w.expr_Tag (e : Ev) (v0 : V) : vl e 49 0 [v0] = y.expr_Tag (vl e) v0 := val_of (s.expr_Tag e _ v0)
noncomputable def y.seicheref14_Lines (Γ : Gam) (v0 : V) : Option V :=
 pr (.len false) [v0] fun v1 =>
 Γ 53 10 [(.sl false 1 []), v0, v1, (.int .i64 0)]
theorem s.seicheref14_Lines (e : Ev) (Γ : Gam) (v0 : V) : stp e Γ 53 0 [v0] = y.seicheref14_Lines Γ v0 := by kernel_rfl
theorem w.seicheref14_Lines (e : Ev) (v0 : V) : vl e 53 0 [v0] = y.seicheref14_Lines (vl e) v0 := val_of (s.seicheref14_Lines e _ v0)
noncomputable def y.seicheref14_Lines_10 (Γ : Gam) (v0 v1 v2 v3 : V) : Option V :=
 pr (.bin (.lss) (.no)) [v3, v2] fun v4 =>
 vif v4 (
 pr (.elem 1) [v1, v3] fun v5 =>
 pr (.ld none 0) [v5] fun v6 =>
 ca Γ 77 [v6] fun v7 =>
 pr (.un (.not)) [v7] fun v8 =>
 vif v8 (
 some (.tup [(.str []), (.bool false)])) (
 ca Γ 78 [v6] fun v9 =>
 pr (.bsl 1) [v9] fun v10 =>
 pr (.app 1) [v0, v10] fun v11 =>
 pr (.bin (.add) (.no)) [v3, (.int .i64 1)] fun v12 =>
 Γ 53 10 [v11, v1, v2, v12])) (
 pr (.len false) [v0] fun v5 =>
 pr (.bin (.eql) (.no)) [v5, (.int .i64 0)] fun v6 =>
 vif v6 (
 some (.tup [(.str []), (.bool false)])) (
 ca Γ 79 [v0, (.str [32, 38, 38, 32])] fun v7 =>
 some (.tup [v7, (.bool true)])))
theorem s.seicheref14_Lines_10 (e : Ev) (Γ : Gam) (v0 v1 v2 v3 : V) : stp e Γ 53 10 [v0, v1, v2, v3] = y.seicheref14_Lines_10 Γ v0 v1 v2 v3 := by kernel_rfl
theorem w.seicheref14_Lines_10 (e : Ev) (v0 v1 v2 v3 : V) : vl e 53 10 [v0, v1, v2, v3] = y.seicheref14_Lines_10 (vl e) v0 v1 v2 v3 := val_of (s.seicheref14_Lines_10 e _ v0 v1 v2 v3)
noncomputable def y.suffix_Processor (Γ : Gam) (v0 : V) : Option V :=
 pr (.ld none 0) [(.agg [.sl false 1 [.str [51, 56, 54], .str [97, 109, 100, 54, 52], .str [97, 114, 109], .str [97, 114, 109, 54, 52], .str [108, 111, 111, 110, 103, 54, 52], .str [109, 105, 112, 115], .str [109, 105, 112, 115, 54, 52], .str [109, 105, 112, 115, 54, 52, 108, 101], .str [109, 105, 112, 115, 108, 101], .str [112, 112, 99, 54, 52], .str [112, 112, 99, 54, 52, 108, 101], .str [114, 105, 115, 99, 118, 54, 52], .str [115, 51, 57, 48, 120], .str [119, 97, 115, 109]]])] fun v1 =>
 ca Γ 22 [v1, v0] fun v2 =>
 some v2
theorem s.suffix_Processor (e : Ev) (Γ : Gam) (v0 : V) : stp e Γ 57 0 [v0] = y.suffix_Processor Γ v0 := by kernel_rfl
theorem w.suffix_Processor (e : Ev) (v0 : V) : vl e 57 0 [v0] = y.suffix_Processor (vl e) v0 := val_of (s.suffix_Processor e _ v0)
noncomputable def y.internal_stringslite_CutPrefix (Γ : Gam) (v0 v1 : V) : Option V :=
 ca Γ 65 [v0, v1] fun v2 =>
 pr (.un (.not)) [v2] fun v3 =>
 vif v3 (
 some (.tup [v0, (.bool false)])) (
 pr (.len true) [v1] fun v4 =>
 pr (.sls true false) [v0, v4] fun v5 =>
 some (.tup [v5, (.bool true)]))
theorem s.internal_stringslite_CutPrefix (e : Ev) (Γ : Gam) (v0 v1 : V) : stp e Γ 61 0 [v0, v1] = y.internal_stringslite_CutPrefix Γ v0 v1 := by kernel_rfl
theorem w.internal_stringslite_CutPrefix (e : Ev) (v0 v1 : V) : vl e 61 0 [v0, v1] = y.internal_stringslite_CutPrefix (vl e) v0 v1 := val_of (s.internal_stringslite_CutPrefix e _ v0 v1)
noncomputable def y.internal_stringslite_HasPrefix (Γ : Gam) (v0 v1 : V) : Option V :=
 pr (.len true) [v0] fun v2 =>
 pr (.len true) [v1] fun v3 =>
 pr (.bin (.geq) (.no)) [v2, v3] fun v4 =>
 vif v4 (
 pr (.len true) [v1] fun v5 =>
 pr (.sls false true) [v0, v5] fun v6 =>
 pr (.bin (.eql) (.no)) [v6, v1] fun v7 =>
 some v7) (
 some (.bool false))
theorem s.internal_stringslite_HasPrefix (e : Ev) (Γ : Gam) (v0 v1 : V) : stp e Γ 65 0 [v0, v1] = y.internal_stringslite_HasPrefix Γ v0 v1 := by kernel_rfl
theorem w.internal_stringslite_HasPrefix (e : Ev) (v0 v1 : V) : vl e 65 0 [v0, v1] = y.internal_stringslite_HasPrefix (vl e) v0 v1 := val_of (s.internal_stringslite_HasPrefix e _ v0 v1)
noncomputable def y.internal_stringslite_TrimPrefix (Γ : Gam) (v0 v1 : V) : Option V :=
 ca Γ 65 [v0, v1] fun v2 =>
 vif v2 (
 pr (.len true) [v1] fun v3 =>
 pr (.sls true false) [v0, v3] fun v4 =>
 some v4) (
 some v0)
theorem s.internal_stringslite_TrimPrefix (e : Ev) (Γ : Gam) (v0 v1 : V) : stp e Γ 69 0 [v0, v1] = y.internal_stringslite_TrimPrefix Γ v0 v1 := by kernel_rfl
theorem w.internal_stringslite_TrimPrefix (e : Ev) (v0 v1 : V) : vl e 69 0 [v0, v1] = y.internal_stringslite_TrimPrefix (vl e) v0 v1 := val_of (s.internal_stringslite_TrimPrefix e _ v0 v1)
noncomputable def y.expr_Tag_1 (Γ : Gam) (v0 : V) : Option V :=
 ca Γ 74 [v0] fun v1 =>
 pr (.un (.not)) [v1] fun v2 =>
 some v2
theorem s.expr_Tag_1 (e : Ev) (Γ : Gam) (v0 : V) : stp e Γ 73 0 [v0] = y.expr_Tag_1 Γ v0 := by kernel_rfl
theorem w.expr_Tag_1 (e : Ev) (v0 : V) : vl e 73 0 [v0] = y.expr_Tag_1 (vl e) v0 := val_of (s.expr_Tag_1 e _ v0)
noncomputable def y.seicheref14_Good (Γ : Gam) (v0 : V) : Option V :=
 ca Γ 38 [v0] fun v1 =>
 pr (.len false) [v1] fun v2 =>
 Γ 77 8 [v0, v1, v2, (.int .i64 0)]
theorem s.seicheref14_Good (e : Ev) (Γ : Gam) (v0 : V) : stp e Γ 77 0 [v0] = y.seicheref14_Good Γ v0 := by kernel_rfl
theorem w.seicheref14_Good (e : Ev) (v0 : V) : vl e 77 0 [v0] = y.seicheref14_Good (vl e) v0 := val_of (s.seicheref14_Good e _ v0)
noncomputable def y.seicheref14_Good_8 (Γ : Gam) (v0 v1 v2 v3 : V) : Option V :=
 pr (.bin (.lss) (.no)) [v3, v2] fun v4 =>
 vif v4 (
 pr (.elem 1) [v1, v3] fun v5 =>
 pr (.ld none 0) [v5] fun v6 =>
 ca Γ 52 [v6, (.int .u8 44)] fun v7 =>
 pr (.len false) [v7] fun v8 =>
 Γ 77 22 [v0, v1, v2, v3, v7, v8, (.int .i64 0)]) (
 ca Γ 38 [v0] fun v5 =>
 pr (.len false) [v5] fun v6 =>
 pr (.bin (.gtr) (.no)) [v6, (.int .i64 0)] fun v7 =>
 some v7)
theorem s.seicheref14_Good_8 (e : Ev) (Γ : Gam) (v0 v1 v2 v3 : V) : stp e Γ 77 8 [v0, v1, v2, v3] = y.seicheref14_Good_8 Γ v0 v1 v2 v3 := by kernel_rfl
theorem w.seicheref14_Good_8 (e : Ev) (v0 v1 v2 v3 : V) : vl e 77 8 [v0, v1, v2, v3] = y.seicheref14_Good_8 (vl e) v0 v1 v2 v3 := val_of (s.seicheref14_Good_8 e _ v0 v1 v2 v3)
noncomputable def y.seicheref14_Good_22 (Γ : Gam) (v0 v1 v2 v3 v4 v5 v6 : V) : Option V :=
 pr (.bin (.lss) (.no)) [v6, v5] fun v7 =>
 vif v7 (
 pr (.elem 1) [v4, v6] fun v8 =>
 pr (.ld none 0) [v8] fun v9 =>
 ca Γ 100 [v9] fun v10 =>
 pr (.ext 0) [v10] fun v11 =>
 pr (.ext 1) [v10] fun v12 =>
 pr (.ext 2) [v10] fun v13 =>
 pr (.un (.not)) [v13] fun v14 =>
 vif v14 (
 some (.bool false)) (
 pr (.bin (.add) (.no)) [v6, (.int .i64 1)] fun v15 =>
 Γ 77 22 [v0, v1, v2, v3, v4, v5, v15])) (
 pr (.bin (.add) (.no)) [v3, (.int .i64 1)] fun v8 =>
 Γ 77 8 [v0, v1, v2, v8])
theorem s.seicheref14_Good_22 (e : Ev) (Γ : Gam) (v0 v1 v2 v3 v4 v5 v6 : V) : stp e Γ 77 22 [v0, v1, v2, v3, v4, v5, v6] = y.seicheref14_Good_22 Γ v0 v1 v2 v3 v4 v5 v6 := by kernel_rfl
theorem w.seicheref14_Good_22 (e : Ev) (v0 v1 v2 v3 v4 v5 v6 : V) : vl e 77 22 [v0, v1, v2, v3, v4, v5, v6] = y.seicheref14_Good_22 (vl e) v0 v1 v2 v3 v4 v5 v6 := val_of (s.seicheref14_Good_22 e _ v0 v1 v2 v3 v4 v5 v6)
noncomputable def y.internal_stringslite_CutSuffix (Γ : Gam) (v0 v1 : V) : Option V :=
 ca Γ 59 [v0, v1] fun v2 =>
 pr (.un (.not)) [v2] fun v3 =>
 vif v3 (
 some (.tup [v0, (.bool false)])) (
 pr (.len true) [v0] fun v4 =>
 pr (.len true) [v1] fun v5 =>
 pr (.bin (.sub) (.no)) [v4, v5] fun v6 =>
 pr (.sls false true) [v0, v6] fun v7 =>
 some (.tup [v7, (.bool true)]))
theorem s.internal_stringslite_CutSuffix (e : Ev) (Γ : Gam) (v0 v1 : V) : stp e Γ 81 0 [v0, v1] = y.internal_stringslite_CutSuffix Γ v0 v1 := by kernel_rfl
theorem w.internal_stringslite_CutSuffix (e : Ev) (v0 v1 : V) : vl e 81 0 [v0, v1] = y.internal_stringslite_CutSuffix (vl e) v0 v1 := val_of (s.internal_stringslite_CutSuffix e _ v0 v1)
noncomputable def y.slices_IndexFunc_Lbyte_byte (Γ : Gam) (v0 v1 : V) : Option V :=
 pr (.len false) [v0] fun v2 =>
 Γ 97 8 [v0, v1, v2, (.int .i64 0)]
theorem s.slices_IndexFunc_Lbyte_byte (e : Ev) (Γ : Gam) (v0 v1 : V) : stp e Γ 97 0 [v0, v1] = y.slices_IndexFunc_Lbyte_byte Γ v0 v1 := by kernel_rfl
theorem w.slices_IndexFunc_Lbyte_byte (e : Ev) (v0 v1 : V) : vl e 97 0 [v0, v1] = y.slices_IndexFunc_Lbyte_byte (vl e) v0 v1 := val_of (s.slices_IndexFunc_Lbyte_byte e _ v0 v1)
noncomputable def y.slices_IndexFunc_Lbyte_byte_8 (Γ : Gam) (v0 v1 v2 v3 : V) : Option V :=
 pr (.bin (.lss) (.no)) [v3, v2] fun v4 =>
 vif v4 (
 pr (.elem 1) [v0, v3] fun v5 =>
 pr (.ld none 0) [v5] fun v6 =>
 cv Γ v1 [v6] fun v7 =>
 vif v7 (
 some v3) (
 pr (.bin (.add) (.no)) [v3, (.int .i64 1)] fun v8 =>
 Γ 97 8 [v0, v1, v2, v8])) (
 some (.int .i64 (-1)))
theorem s.slices_IndexFunc_Lbyte_byte_8 (e : Ev) (Γ : Gam) (v0 v1 v2 v3 : V) : stp e Γ 97 8 [v0, v1, v2, v3] = y.slices_IndexFunc_Lbyte_byte_8 Γ v0 v1 v2 v3 := by kernel_rfl
theorem w.slices_IndexFunc_Lbyte_byte_8 (e : Ev) (v0 v1 v2 v3 : V) : vl e 97 8 [v0, v1, v2, v3] = y.slices_IndexFunc_Lbyte_byte_8 (vl e) v0 v1 v2 v3 := val_of (s.slices_IndexFunc_Lbyte_byte_8 e _ v0 v1 v2 v3)
noncomputable def y.plus_term (Γ : Gam) (v0 : V) : Option V :=
 ca Γ 39 [v0, (.str [33])] fun v1 =>
 pr (.ext 0) [v1] fun v2 =>
 pr (.ext 1) [v1] fun v3 =>
 ca Γ 49 [v2] fun v4 =>
 pr (.un (.not)) [v4] fun v5 =>
 vif v5 (
 some (.tup [(.str []), (.int .i64 4)])) (
 vif v3 (
 pr (.bin (.add) (.no)) [(.str [33]), v2] fun v6 =>
 some (.tup [v6, (.int .i64 0)])) (
 some (.tup [v2, (.int .i64 0)])))
theorem s.plus_term (e : Ev) (Γ : Gam) (v0 : V) : stp e Γ 117 0 [v0] = y.plus_term Γ v0 := by kernel_rfl
theorem w.plus_term (e : Ev) (v0 : V) : vl e 117 0 [v0] = y.plus_term (vl e) v0 := val_of (s.plus_term e _ v0)
noncomputable def y.seichelaw16_CondLevels (Γ : Gam) (v0 v1 v2 v3 : V) : Option V :=
 pr .scs [v0] fun v4 =>
 ca Γ 9 [] fun v5 =>
 pr (.un (.not)) [v5] fun v6 =>
 vif v6 (
 some (.bool false)) (
 pr (.ld (some 5) 0) [v4] fun v7 =>
 ca Γ 10 [v7] fun v8 =>
 vif v8 (
 Γ 6 15 [v1, v2, v3, (.bool true), v4]) (
 pr (.len true) [v2] fun v9 =>
 pr (.bin (.gtr) (.no)) [v9, (.int .i64 512)] fun v10 =>
 vif v10 (
 Γ 6 15 [v1, v2, v3, (.bool true), v4]) (
 pr (.ld none 3) [v4] fun v11 =>
 pr (.bin (.lss) (.no)) [v1, v11] fun v12 =>
 Γ 6 15 [v1, v2, v3, v12, v4])))
theorem s.seichelaw16_CondLevels (e : Ev) (Γ : Gam) (v0 v1 v2 v3 : V) : stp e Γ 6 0 [v0, v1, v2, v3] = y.seichelaw16_CondLevels Γ v0 v1 v2 v3 := by kernel_rfl
theorem w.seichelaw16_CondLevels (e : Ev) (v0 v1 v2 v3 : V) : vl e 6 0 [v0, v1, v2, v3] = y.seichelaw16_CondLevels (vl e) v0 v1 v2 v3 := val_of (s.seichelaw16_CondLevels e _ v0 v1 v2 v3)
noncomputable def y.seichelaw16_CondLevels_15 (Γ : Gam) (v0 v1 v2 v3 v4 : V) : Option V :=
 vif v3 (
 some (.bool true)) (
 pr (.ld (some 5) 0) [v4] fun v5 =>
 pr (.cat [some 5]) [v5] fun v6 =>
 pr (.set 1 3) [v6, v0] fun v7 =>
 pr (.ld (some 5) 0) [v4] fun v8 =>
 ca Γ 11 [v8, v1] fun v9 =>
 vif v9 (
 ca Γ 11 [v7, v1] fun v10 =>
 pr (.un (.not)) [v10] fun v11 =>
 vif v11 (
 some (.bool false)) (
 pr (.bin (.lss) (.no)) [v2, (.int .i64 1)] fun v12 =>
 vif v12 (
 some (.bool true)) (
 pr (.bin (.gtr) (.no)) [v2, (.int .i64 9999)] fun v13 =>
 vif v13 (
 some (.bool true)) (
 Γ 6 46 [v2, (.str []), v2, v4])))) (
 pr (.bin (.lss) (.no)) [v2, (.int .i64 1)] fun v10 =>
 vif v10 (
 some (.bool true)) (
 pr (.bin (.gtr) (.no)) [v2, (.int .i64 9999)] fun v11 =>
 vif v11 (
 some (.bool true)) (
 Γ 6 46 [v2, (.str []), v2, v4]))))
theorem s.seichelaw16_CondLevels_15 (e : Ev) (Γ : Gam) (v0 v1 v2 v3 v4 : V) : stp e Γ 6 15 [v0, v1, v2, v3, v4] = y.seichelaw16_CondLevels_15 Γ v0 v1 v2 v3 v4 := by kernel_rfl
theorem w.seichelaw16_CondLevels_15 (e : Ev) (v0 v1 v2 v3 v4 : V) : vl e 6 15 [v0, v1, v2, v3, v4] = y.seichelaw16_CondLevels_15 (vl e) v0 v1 v2 v3 v4 := val_of (s.seichelaw16_CondLevels_15 e _ v0 v1 v2 v3 v4)
noncomputable def y.seichelaw16_CondLevels_46 (Γ : Gam) (v0 v1 v2 v3 : V) : Option V :=
 pr (.bin (.gtr) (.no)) [v2, (.int .i64 0)] fun v4 =>
 vif v4 (
 pr (.bin (.rem) (.no)) [v2, (.int .i64 10)] fun v5 =>
 pr (.bin (.add) (.no)) [(.int .i64 48), v5] fun v6 =>
 pr (.i2i (.u8)) [v6] fun v7 =>
 pr (.bsl 1) [v7] fun v8 =>
 pr .b2s [v8] fun v9 =>
 pr (.bin (.add) (.no)) [v9, v1] fun v10 =>
 pr (.bin (.quo) (.no)) [v2, (.int .i64 10)] fun v11 =>
 Γ 6 46 [v0, v10, v11, v3]) (
 pr (.bin (.add) (.no)) [(.str [103, 111, 49, 46]), v1] fun v5 =>
 pr (.ld (some 5) 0) [v3] fun v6 =>
 ca Γ 11 [v6, v5] fun v7 =>
 pr (.ld none 3) [v3] fun v8 =>
 pr (.bin (.leq) (.no)) [v0, v8] fun v9 =>
 vif v9 (
 pr (.bin (.eql) (.bool)) [v7, (.bool true)] fun v10 =>
 some v10) (
 pr (.ld none 0) [v3] fun v10 =>
 pr (.bin (.eql) (.no)) [v10, v5] fun v11 =>
 vif v11 (
 pr (.bin (.eql) (.bool)) [v7, (.bool true)] fun v12 =>
 some v12) (
 pr (.ld none 1) [v3] fun v12 =>
 pr (.bin (.eql) (.no)) [v12, v5] fun v13 =>
 vif v13 (
 pr (.bin (.eql) (.bool)) [v7, (.bool true)] fun v14 =>
 some v14) (
 pr (.ld none 4) [v3] fun v14 =>
 ca Γ 17 [v14, v5] fun v15 =>
 pr (.bin (.eql) (.bool)) [v7, v15] fun v16 =>
 some v16))))
theorem s.seichelaw16_CondLevels_46 (e : Ev) (Γ : Gam) (v0 v1 v2 v3 : V) : stp e Γ 6 46 [v0, v1, v2, v3] = y.seichelaw16_CondLevels_46 Γ v0 v1 v2 v3 := by kernel_rfl
theorem w.seichelaw16_CondLevels_46 (e : Ev) (v0 v1 v2 v3 : V) : vl e 6 46 [v0, v1, v2, v3] = y.seichelaw16_CondLevels_46 (vl e) v0 v1 v2 v3 := val_of (s.seichelaw16_CondLevels_46 e _ v0 v1 v2 v3)
noncomputable def y.seicheref16_Great (Γ : Gam) (v0 : V) : Option V :=
 pr .scs [v0] fun v1 =>
 pr (.ld none 0) [v1] fun v2 =>
 pr (.len true) [v2] fun v3 =>
 pr (.ld none 1) [v1] fun v4 =>
 pr (.len true) [v4] fun v5 =>
 pr (.bin (.add) (.no)) [v3, v5] fun v6 =>
 pr (.ld none 4) [v1] fun v7 =>
 pr (.len false) [v7] fun v8 =>
 Γ 10 10 [v6, v7, v8, (.int .i64 0), v1]
theorem s.seicheref16_Great (e : Ev) (Γ : Gam) (v0 : V) : stp e Γ 10 0 [v0] = y.seicheref16_Great Γ v0 := by kernel_rfl
theorem w.seicheref16_Great (e : Ev) (v0 : V) : vl e 10 0 [v0] = y.seicheref16_Great (vl e) v0 := val_of (s.seicheref16_Great e _ v0)
noncomputable def y.seicheref16_Great_10 (Γ : Gam) (v0 v1 v2 v3 v4 : V) : Option V :=
 pr (.bin (.lss) (.no)) [v3, v2] fun v5 =>
 vif v5 (
 pr (.elem 1) [v1, v3] fun v6 =>
 pr (.ld none 0) [v6] fun v7 =>
 pr (.len true) [v7] fun v8 =>
 pr (.bin (.add) (.no)) [v0, v8] fun v9 =>
 pr (.bin (.gtr) (.no)) [v9, (.int .i64 512)] fun v10 =>
 vif v10 (
 some (.bool true)) (
 pr (.bin (.add) (.no)) [v3, (.int .i64 1)] fun v11 =>
 Γ 10 10 [v9, v1, v2, v11, v4])) (
 pr (.ld none 4) [v4] fun v6 =>
 pr (.len false) [v6] fun v7 =>
 pr (.bin (.gtr) (.no)) [v7, (.int .i64 20)] fun v8 =>
 vif v8 (
 some (.bool true)) (
 pr (.bin (.gtr) (.no)) [v0, (.int .i64 512)] fun v9 =>
 some v9))
theorem s.seicheref16_Great_10 (e : Ev) (Γ : Gam) (v0 v1 v2 v3 v4 : V) : stp e Γ 10 10 [v0, v1, v2, v3, v4] = y.seicheref16_Great_10 Γ v0 v1 v2 v3 v4 := by kernel_rfl
theorem w.seicheref16_Great_10 (e : Ev) (v0 v1 v2 v3 v4 : V) : vl e 10 10 [v0, v1, v2, v3, v4] = y.seicheref16_Great_10 (vl e) v0 v1 v2 v3 v4 := val_of (s.seicheref16_Great_10 e _ v0 v1 v2 v3 v4)
noncomputable def y.seicheref16_Holds (Γ : Gam) (v0 v1 : V) : Option V :=
 pr .scs [v0] fun v2 =>
 pr (.bin (.eql) (.no)) [v1, (.str [])] fun v3 =>
 vif v3 (
 some (.tup [(.bool true), (.int .i64 0)])) (
 ca Γ 30 [v1] fun v4 =>
 pr (.ext 0) [v4] fun v5 =>
 pr (.ext 1) [v4] fun v6 =>
 pr (.bin (.neq) (.no)) [v6, (.int .i64 0)] fun v7 =>
 vif v7 (
 some (.tup [(.bool false), v6])) (
 pr (.len false) [v5] fun v8 =>
 Γ 14 28 [v5, (.sl false 1 []), v5, v8, (.int .i64 0), v2]))
theorem s.seicheref16_Holds (e : Ev) (Γ : Gam) (v0 v1 : V) : stp e Γ 14 0 [v0, v1] = y.seicheref16_Holds Γ v0 v1 := by kernel_rfl
theorem w.seicheref16_Holds (e : Ev) (v0 v1 : V) : vl e 14 0 [v0, v1] = y.seicheref16_Holds (vl e) v0 v1 := val_of (s.seicheref16_Holds e _ v0 v1)
noncomputable def y.seicheref16_Holds_28 (Γ : Gam) (v0 v1 v2 v3 v4 v5 : V) : Option V :=
 pr (.bin (.lss) (.no)) [v4, v3] fun v6 =>
 vif v6 (
 pr (.elem 1) [v2, v4] fun v7 =>
 pr (.ld none 0) [v7] fun v8 =>
 pr (.ld (some 5) 0) [v5] fun v9 =>
 ca Γ 12 [v9, v8] fun v10 =>
 vif v10 (
 pr (.bsl 1) [v8] fun v11 =>
 pr (.app 1) [v1, v11] fun v12 =>
 pr (.bin (.add) (.no)) [v4, (.int .i64 1)] fun v13 =>
 Γ 14 28 [v0, v12, v2, v3, v13, v5]) (
 pr (.bin (.add) (.no)) [v4, (.int .i64 1)] fun v11 =>
 Γ 14 28 [v0, v1, v2, v3, v11, v5])) (
 ca Γ 31 [v0, v1] fun v7 =>
 pr (.ext 0) [v7] fun v8 =>
 pr (.ext 1) [v7] fun v9 =>
 some (.tup [v8, (.int .i64 0)]))
theorem s.seicheref16_Holds_28 (e : Ev) (Γ : Gam) (v0 v1 v2 v3 v4 v5 : V) : stp e Γ 14 28 [v0, v1, v2, v3, v4, v5] = y.seicheref16_Holds_28 Γ v0 v1 v2 v3 v4 v5 := by kernel_rfl
theorem w.seicheref16_Holds_28 (e : Ev) (v0 v1 v2 v3 v4 v5 : V) : vl e 14 28 [v0, v1, v2, v3, v4, v5] = y.seicheref16_Holds_28 (vl e) v0 v1 v2 v3 v4 v5 := val_of (s.seicheref16_Holds_28 e _ v0 v1 v2 v3 v4 v5)
noncomputable def y.seicheref15_Systems (Γ : Gam) : Option V :=
 ca Γ 38 [(.str (97 :: 105 :: 120 :: 32 :: 97 :: 110 :: 100 :: 114 :: 111 :: 105 :: 100 :: 32 :: 100 :: 97 :: 114 :: 119 :: 105 :: 110 :: 32 :: 100 :: 114 :: 97 :: 103 :: 111 :: 110 :: 102 :: 108 :: 121 :: 32 :: 102 :: 114 :: 101 :: 101 :: 98 :: 115 :: 100 :: 32 :: 105 :: 108 :: 108 :: 117 :: 109 :: 111 :: 115 :: 32 :: 105 :: 111 :: 115 :: 32 :: 106 :: 115 :: 32 :: 108 :: 105 :: 110 :: 117 :: 120 :: 32 :: 110 :: 101 :: 116 :: 98 :: 115 :: 100 :: 32 :: 111 :: 112 :: 101 :: 110 :: 98 :: 115 :: 100 :: 32 :: 112 :: 108 :: 97 :: 110 :: 57 :: 32 :: 115 :: 111 :: 108 :: 97 :: 114 :: 105 :: 115 :: 32 :: 119 :: 97 :: 115 :: 105 :: 112 :: 49 :: 32 :: 119 :: 105 :: 110 :: 100 :: 111 :: 119 :: 115 :: []))] fun v0 =>
 some v0
theorem s.seicheref15_Systems (e : Ev) (Γ : Gam) : stp e Γ 18 0 [] = y.seicheref15_Systems Γ := by kernel_rfl
theorem w.seicheref15_Systems (e : Ev) : vl e 18 0 [] = y.seicheref15_Systems (vl e) := val_of (s.seicheref15_Systems e _)
noncomputable def y.slices_Contains_Lstring_string (Γ : Gam) (v0 v1 : V) : Option V :=
 ca Γ 42 [v0, v1] fun v2 =>
 pr (.bin (.geq) (.no)) [v2, (.int .i64 0)] fun v3 =>
 some v3
theorem s.slices_Contains_Lstring_string (e : Ev) (Γ : Gam) (v0 v1 : V) : stp e Γ 22 0 [v0, v1] = y.slices_Contains_Lstring_string Γ v0 v1 := by kernel_rfl
theorem w.slices_Contains_Lstring_string (e : Ev) (v0 v1 : V) : vl e 22 0 [v0, v1] = y.slices_Contains_Lstring_string (vl e) v0 v1 := val_of (s.slices_Contains_Lstring_string e _ v0 v1)
noncomputable def y.expr_Eval (Γ : Gam) (v0 v1 : V) : Option V :=
 pr (.len false) [v0] fun v3 =>
 Γ 26 10 [v1, (.int .i64 0), v0, v3, (.int .i64 0), (.agg [])]
theorem s.expr_Eval (e : Ev) (Γ : Gam) (v0 v1 : V) : stp e Γ 26 0 [v0, v1] = y.expr_Eval Γ v0 v1 := by kernel_rfl
theorem w.expr_Eval (e : Ev) (v0 v1 : V) : vl e 26 0 [v0, v1] = y.expr_Eval (vl e) v0 v1 := val_of (s.expr_Eval e _ v0 v1)
noncomputable def y.expr_Eval_10 (Γ : Gam) (v0 v1 v2 v3 v4 v5 : V) : Option V :=
 pr (.bin (.lss) (.no)) [v4, v3] fun v6 =>
 vif v6 (
 pr (.elem 1) [v2, v4] fun v7 =>
 pr (.ld none 0) [v7] fun v8 =>
 pr (.bin (.eql) (.no)) [v8, (.str [33])] fun v9 =>
 vif v9 (
 pr (.bin (.gtr) (.no)) [v1, (.int .i64 0)] fun v10 =>
 Γ 26 26 [v0, v1, v8, v1, v2, v3, v4, v10, v5]) (
 Γ 26 26 [v0, v1, v8, v1, v2, v3, v4, (.bool false), v5])) (
 pr (.bin (.neq) (.no)) [v1, (.int .i64 1)] fun v7 =>
 vif v7 (
 some (.tup [(.bool false), (.int .i64 4)])) (
 pr .chkd [v1, (.int .i64 0)] fun v8 =>
 pr (.ldd none 0 1) [v5, v8] fun v9 =>
 some (.tup [v9, (.int .i64 0)])))
theorem s.expr_Eval_10 (e : Ev) (Γ : Gam) (v0 v1 v2 v3 v4 v5 : V) : stp e Γ 26 10 [v0, v1, v2, v3, v4, v5] = y.expr_Eval_10 Γ v0 v1 v2 v3 v4 v5 := by kernel_rfl
theorem w.expr_Eval_10 (e : Ev) (v0 v1 v2 v3 v4 v5 : V) : vl e 26 10 [v0, v1, v2, v3, v4, v5] = y.expr_Eval_10 (vl e) v0 v1 v2 v3 v4 v5 := val_of (s.expr_Eval_10 e _ v0 v1 v2 v3 v4 v5)
noncomputable def y.expr_Eval_26 (Γ : Gam) (v0 v1 v2 v3 v4 v5 v6 v7 v8 : V) : Option V :=
 vif v7 (
 pr (.bin (.sub) (.no)) [v3, (.int .i64 1)] fun v9 =>
 pr (.bin (.sub) (.no)) [v3, (.int .i64 1)] fun v10 =>
 pr .chkd [v1, v10] fun v11 =>
 pr (.ldd none 0 1) [v8, v11] fun v12 =>
 pr (.un (.not)) [v12] fun v13 =>
 pr .chkd [v1, v9] fun v14 =>
 pr (.std 1 0 1) [v8, v14, v13] fun v15 =>
 pr (.bin (.add) (.no)) [v6, (.int .i64 1)] fun v16 =>
 Γ 26 10 [v0, v1, v4, v5, v16, v15]) (
 pr (.bin (.eql) (.no)) [v2, (.str [38, 38])] fun v9 =>
 vif v9 (
 pr (.bin (.gtr) (.no)) [v3, (.int .i64 1)] fun v10 =>
 vif v10 (
 pr (.bin (.sub) (.no)) [v3, (.int .i64 2)] fun v11 =>
 pr .chkl [v1, v11] fun v12 =>
 pr (.bin (.sub) (.no)) [v3, (.int .i64 2)] fun v13 =>
 pr .chkd [v1, v13] fun v14 =>
 pr (.ldd none 0 1) [v8, v14] fun v15 =>
 vif v15 (
 pr (.bin (.sub) (.no)) [v3, (.int .i64 1)] fun v16 =>
 pr .chkd [v1, v16] fun v17 =>
 pr (.ldd none 0 1) [v8, v17] fun v18 =>
 pr (.bsl 1) [v18] fun v19 =>
 pr (.rapp 1) [v8, v12, v19] fun v20 =>
 pr (.rlen 1) [v12, v19] fun v21 =>
 pr (.bin (.add) (.no)) [v6, (.int .i64 1)] fun v22 =>
 Γ 26 10 [v0, v21, v4, v5, v22, v20]) (
 pr (.bsl 1) [(.bool false)] fun v16 =>
 pr (.rapp 1) [v8, v12, v16] fun v17 =>
 pr (.rlen 1) [v12, v16] fun v18 =>
 pr (.bin (.add) (.no)) [v6, (.int .i64 1)] fun v19 =>
 Γ 26 10 [v0, v18, v4, v5, v19, v17])) (
 pr (.bin (.eql) (.no)) [v2, (.str [124, 124])] fun v11 =>
 vif v11 (
 pr (.bin (.gtr) (.no)) [v3, (.int .i64 1)] fun v12 =>
 vif v12 (
 pr (.bin (.sub) (.no)) [v3, (.int .i64 2)] fun v13 =>
 pr .chkl [v1, v13] fun v14 =>
 pr (.bin (.sub) (.no)) [v3, (.int .i64 2)] fun v15 =>
 pr .chkd [v1, v15] fun v16 =>
 pr (.ldd none 0 1) [v8, v16] fun v17 =>
 vif v17 (
 pr (.bsl 1) [(.bool true)] fun v18 =>
 pr (.rapp 1) [v8, v14, v18] fun v19 =>
 pr (.rlen 1) [v14, v18] fun v20 =>
 pr (.bin (.add) (.no)) [v6, (.int .i64 1)] fun v21 =>
 Γ 26 10 [v0, v20, v4, v5, v21, v19]) (
 pr (.bin (.sub) (.no)) [v3, (.int .i64 1)] fun v18 =>
 pr .chkd [v1, v18] fun v19 =>
 pr (.ldd none 0 1) [v8, v19] fun v20 =>
 pr (.bsl 1) [v20] fun v21 =>
 pr (.rapp 1) [v8, v14, v21] fun v22 =>
 pr (.rlen 1) [v14, v21] fun v23 =>
 pr (.bin (.add) (.no)) [v6, (.int .i64 1)] fun v24 =>
 Γ 26 10 [v0, v23, v4, v5, v24, v22])) (
 ca Γ 49 [v2] fun v13 =>
 vif v13 (
 ca Γ 22 [v0, v2] fun v14 =>
 pr (.bsl 1) [v14] fun v15 =>
 pr (.rapp 1) [v8, v1, v15] fun v16 =>
 pr (.rlen 1) [v1, v15] fun v17 =>
 pr (.bin (.add) (.no)) [v6, (.int .i64 1)] fun v18 =>
 Γ 26 10 [v0, v17, v4, v5, v18, v16]) (
 some (.tup [(.bool false), (.int .i64 4)])))) (
 ca Γ 49 [v2] fun v12 =>
 vif v12 (
 ca Γ 22 [v0, v2] fun v13 =>
 pr (.bsl 1) [v13] fun v14 =>
 pr (.rapp 1) [v8, v1, v14] fun v15 =>
 pr (.rlen 1) [v1, v14] fun v16 =>
 pr (.bin (.add) (.no)) [v6, (.int .i64 1)] fun v17 =>
 Γ 26 10 [v0, v16, v4, v5, v17, v15]) (
 some (.tup [(.bool false), (.int .i64 4)]))))) (
 pr (.bin (.eql) (.no)) [v2, (.str [124, 124])] fun v10 =>
 vif v10 (
 pr (.bin (.gtr) (.no)) [v3, (.int .i64 1)] fun v11 =>
 vif v11 (
 pr (.bin (.sub) (.no)) [v3, (.int .i64 2)] fun v12 =>
 pr .chkl [v1, v12] fun v13 =>
 pr (.bin (.sub) (.no)) [v3, (.int .i64 2)] fun v14 =>
 pr .chkd [v1, v14] fun v15 =>
 pr (.ldd none 0 1) [v8, v15] fun v16 =>
 vif v16 (
 pr (.bsl 1) [(.bool true)] fun v17 =>
 pr (.rapp 1) [v8, v13, v17] fun v18 =>
 pr (.rlen 1) [v13, v17] fun v19 =>
 pr (.bin (.add) (.no)) [v6, (.int .i64 1)] fun v20 =>
 Γ 26 10 [v0, v19, v4, v5, v20, v18]) (
 pr (.bin (.sub) (.no)) [v3, (.int .i64 1)] fun v17 =>
 pr .chkd [v1, v17] fun v18 =>
 pr (.ldd none 0 1) [v8, v18] fun v19 =>
 pr (.bsl 1) [v19] fun v20 =>
 pr (.rapp 1) [v8, v13, v20] fun v21 =>
 pr (.rlen 1) [v13, v20] fun v22 =>
 pr (.bin (.add) (.no)) [v6, (.int .i64 1)] fun v23 =>
 Γ 26 10 [v0, v22, v4, v5, v23, v21])) (
 ca Γ 49 [v2] fun v12 =>
 vif v12 (
 ca Γ 22 [v0, v2] fun v13 =>
 pr (.bsl 1) [v13] fun v14 =>
 pr (.rapp 1) [v8, v1, v14] fun v15 =>
 pr (.rlen 1) [v1, v14] fun v16 =>
 pr (.bin (.add) (.no)) [v6, (.int .i64 1)] fun v17 =>
 Γ 26 10 [v0, v16, v4, v5, v17, v15]) (
 some (.tup [(.bool false), (.int .i64 4)])))) (
 ca Γ 49 [v2] fun v11 =>
 vif v11 (
 ca Γ 22 [v0, v2] fun v12 =>
 pr (.bsl 1) [v12] fun v13 =>
 pr (.rapp 1) [v8, v1, v13] fun v14 =>
 pr (.rlen 1) [v1, v13] fun v15 =>
 pr (.bin (.add) (.no)) [v6, (.int .i64 1)] fun v16 =>
 Γ 26 10 [v0, v15, v4, v5, v16, v14]) (
 some (.tup [(.bool false), (.int .i64 4)])))))
theorem s.expr_Eval_26 (e : Ev) (Γ : Gam) (v0 v1 v2 v3 v4 v5 v6 v7 v8 : V) : stp e Γ 26 26 [v0, v1, v2, v3, v4, v5, v6, v7, v8] = y.expr_Eval_26 Γ v0 v1 v2 v3 v4 v5 v6 v7 v8 := by kernel_rfl
theorem w.expr_Eval_26 (e : Ev) (v0 v1 v2 v3 v4 v5 v6 v7 v8 : V) : vl e 26 26 [v0, v1, v2, v3, v4, v5, v6, v7, v8] = y.expr_Eval_26 (vl e) v0 v1 v2 v3 v4 v5 v6 v7 v8 := val_of (s.expr_Eval_26 e _ v0 v1 v2 v3 v4 v5 v6 v7 v8)
noncomputable def y.seicheref14_Parse (Γ : Gam) (v0 : V) : Option V :=
 pr (.bin (.eql) (.no)) [v0, (.str [])] fun v1 =>
 vif v1 (
 ca Γ 51 [v0] fun v2 =>
 pr (.ext 0) [v2] fun v3 =>
 pr (.ext 1) [v2] fun v4 =>
 some (.tup [v3, v4])) (
 pr .idx [v0, (.int .i64 0)] fun v2 =>
 pr (.bin (.neq) (.no)) [v2, (.int .u8 43)] fun v3 =>
 vif v3 (
 ca Γ 51 [v0] fun v4 =>
 pr (.ext 0) [v4] fun v5 =>
 pr (.ext 1) [v4] fun v6 =>
 some (.tup [v5, v6])) (
 ca Γ 52 [v0, (.int .u8 10)] fun v4 =>
 pr (.len false) [v4] fun v5 =>
 Γ 30 18 [(.sl false 1 []), v4, v5, (.int .i64 0)]))
theorem s.seicheref14_Parse (e : Ev) (Γ : Gam) (v0 : V) : stp e Γ 30 0 [v0] = y.seicheref14_Parse Γ v0 := by kernel_rfl
theorem w.seicheref14_Parse (e : Ev) (v0 : V) : vl e 30 0 [v0] = y.seicheref14_Parse (vl e) v0 := val_of (s.seicheref14_Parse e _ v0)
noncomputable def y.seicheref14_Parse_18 (Γ : Gam) (v0 v1 v2 v3 : V) : Option V :=
 pr (.bin (.lss) (.no)) [v3, v2] fun v4 =>
 vif v4 (
 pr (.elem 1) [v1, v3] fun v5 =>
 pr (.ld none 0) [v5] fun v6 =>
 pr (.len true) [v6] fun v7 =>
 pr (.bin (.gtr) (.no)) [v7, (.int .i64 0)] fun v8 =>
 vif v8 (
 pr .idx [v6, (.int .i64 0)] fun v9 =>
 pr (.bin (.eql) (.no)) [v9, (.int .u8 43)] fun v10 =>
 vif v10 (
 pr (.sls true false) [v6, (.int .i64 1)] fun v11 =>
 pr (.bsl 1) [v11] fun v12 =>
 pr (.app 1) [v0, v12] fun v13 =>
 pr (.bin (.add) (.no)) [v3, (.int .i64 1)] fun v14 =>
 Γ 30 18 [v13, v1, v2, v14]) (
 pr (.bsl 1) [v6] fun v11 =>
 pr (.app 1) [v0, v11] fun v12 =>
 pr (.bin (.add) (.no)) [v3, (.int .i64 1)] fun v13 =>
 Γ 30 18 [v12, v1, v2, v13])) (
 pr (.bsl 1) [v6] fun v9 =>
 pr (.app 1) [v0, v9] fun v10 =>
 pr (.bin (.add) (.no)) [v3, (.int .i64 1)] fun v11 =>
 Γ 30 18 [v10, v1, v2, v11])) (
 ca Γ 53 [v0] fun v5 =>
 pr (.ext 0) [v5] fun v6 =>
 pr (.ext 1) [v5] fun v7 =>
 pr (.un (.not)) [v7] fun v8 =>
 vif v8 (
 some (.tup [(.sl false 1 []), (.int .i64 4)])) (
 ca Γ 51 [v6] fun v9 =>
 pr (.ext 0) [v9] fun v10 =>
 pr (.ext 1) [v9] fun v11 =>
 some (.tup [v10, v11])))
theorem s.seicheref14_Parse_18 (e : Ev) (Γ : Gam) (v0 v1 v2 v3 : V) : stp e Γ 30 18 [v0, v1, v2, v3] = y.seicheref14_Parse_18 Γ v0 v1 v2 v3 := by kernel_rfl
theorem w.seicheref14_Parse_18 (e : Ev) (v0 v1 v2 v3 : V) : vl e 30 18 [v0, v1, v2, v3] = y.seicheref14_Parse_18 (vl e) v0 v1 v2 v3 := val_of (s.seicheref14_Parse_18 e _ v0 v1 v2 v3)
noncomputable def y.cond_In_1 (Γ : Gam) (v0 : V) : Option V :=
 pr .scs [v0] fun v1 =>
 pr (.ld none 1) [v1] fun v2 =>
 pr (.bin (.eql) (.no)) [v2, (.str [67])] fun v3 =>
 some v3
theorem s.cond_In_1 (e : Ev) (Γ : Gam) (v0 : V) : stp e Γ 34 0 [v0] = y.cond_In_1 Γ v0 := by kernel_rfl
theorem w.cond_In_1 (e : Ev) (v0 : V) : vl e 34 0 [v0] = y.cond_In_1 (vl e) v0 := val_of (s.cond_In_1 e _ v0)
noncomputable def y.seicheref14_Words (Γ : Gam) (v0 : V) : Option V :=
 ca Γ 52 [v0, (.int .u8 32)] fun v1 =>
 pr (.len false) [v1] fun v2 =>
 Γ 38 10 [(.sl false 1 []), v1, v2, (.int .i64 0)]
theorem s.seicheref14_Words (e : Ev) (Γ : Gam) (v0 : V) : stp e Γ 38 0 [v0] = y.seicheref14_Words Γ v0 := by kernel_rfl
theorem w.seicheref14_Words (e : Ev) (v0 : V) : vl e 38 0 [v0] = y.seicheref14_Words (vl e) v0 := val_of (s.seicheref14_Words e _ v0)
noncomputable def y.seicheref14_Words_10 (Γ : Gam) (v0 v1 v2 v3 : V) : Option V :=
 pr (.bin (.lss) (.no)) [v3, v2] fun v4 =>
 vif v4 (
 pr (.elem 1) [v1, v3] fun v5 =>
 pr (.ld none 0) [v5] fun v6 =>
 ca Γ 52 [v6, (.int .u8 9)] fun v7 =>
 pr (.len false) [v7] fun v8 =>
 Γ 38 24 [v0, v1, v2, v3, v7, v8, (.int .i64 0)]) (
 some v0)
theorem s.seicheref14_Words_10 (e : Ev) (Γ : Gam) (v0 v1 v2 v3 : V) : stp e Γ 38 10 [v0, v1, v2, v3] = y.seicheref14_Words_10 Γ v0 v1 v2 v3 := by kernel_rfl
theorem w.seicheref14_Words_10 (e : Ev) (v0 v1 v2 v3 : V) : vl e 38 10 [v0, v1, v2, v3] = y.seicheref14_Words_10 (vl e) v0 v1 v2 v3 := val_of (s.seicheref14_Words_10 e _ v0 v1 v2 v3)
noncomputable def y.seicheref14_Words_24 (Γ : Gam) (v0 v1 v2 v3 v4 v5 v6 : V) : Option V :=
 pr (.bin (.lss) (.no)) [v6, v5] fun v7 =>
 vif v7 (
 pr (.elem 1) [v4, v6] fun v8 =>
 pr (.ld none 0) [v8] fun v9 =>
 pr (.bin (.neq) (.no)) [v9, (.str [])] fun v10 =>
 vif v10 (
 pr (.bsl 1) [v9] fun v11 =>
 pr (.app 1) [v0, v11] fun v12 =>
 pr (.bin (.add) (.no)) [v6, (.int .i64 1)] fun v13 =>
 Γ 38 24 [v12, v1, v2, v3, v4, v5, v13]) (
 pr (.bin (.add) (.no)) [v6, (.int .i64 1)] fun v11 =>
 Γ 38 24 [v0, v1, v2, v3, v4, v5, v11])) (
 pr (.bin (.add) (.no)) [v3, (.int .i64 1)] fun v8 =>
 Γ 38 10 [v0, v1, v2, v8])
theorem s.seicheref14_Words_24 (e : Ev) (Γ : Gam) (v0 v1 v2 v3 v4 v5 v6 : V) : stp e Γ 38 24 [v0, v1, v2, v3, v4, v5, v6] = y.seicheref14_Words_24 Γ v0 v1 v2 v3 v4 v5 v6 := by kernel_rfl
theorem w.seicheref14_Words_24 (e : Ev) (v0 v1 v2 v3 v4 v5 v6 : V) : vl e 38 24 [v0, v1, v2, v3, v4, v5, v6] = y.seicheref14_Words_24 (vl e) v0 v1 v2 v3 v4 v5 v6 := val_of (s.seicheref14_Words_24 e _ v0 v1 v2 v3 v4 v5 v6)
end Go.Proofs.YtanocopjancaiaaGreatDoor
namespace Go.Proofs.YtanocopjancaiaaGreatDoor
open Go.Abs
noncomputable def y.slices_Index_Lstring_string (Γ : Gam) (v0 v1 : V) : Option V :=
 pr (.len false) [v0] fun v2 =>
 Γ 42 8 [v0, v1, v2, (.int .i64 0)]
theorem s.slices_Index_Lstring_string (e : Ev) (Γ : Gam) (v0 v1 : V) : stp e Γ 42 0 [v0, v1] = y.slices_Index_Lstring_string Γ v0 v1 := by kernel_rfl
theorem w.slices_Index_Lstring_string (e : Ev) (v0 v1 : V) : vl e 42 0 [v0, v1] = y.slices_Index_Lstring_string (vl e) v0 v1 := val_of (s.slices_Index_Lstring_string e _ v0 v1)
noncomputable def y.slices_Index_Lstring_string_8 (Γ : Gam) (v0 v1 v2 v3 : V) : Option V :=
 pr (.bin (.lss) (.no)) [v3, v2] fun v4 =>
 vif v4 (
 pr (.elem 1) [v0, v3] fun v5 =>
 pr (.ld none 0) [v5] fun v6 =>
 pr (.bin (.eql) (.no)) [v1, v6] fun v7 =>
 vif v7 (
 some v3) (
 pr (.bin (.add) (.no)) [v3, (.int .i64 1)] fun v8 =>
 Γ 42 8 [v0, v1, v2, v8])) (
 some (.int .i64 (-1)))
theorem s.slices_Index_Lstring_string_8 (e : Ev) (Γ : Gam) (v0 v1 v2 v3 : V) : stp e Γ 42 8 [v0, v1, v2, v3] = y.slices_Index_Lstring_string_8 Γ v0 v1 v2 v3 := by kernel_rfl
theorem w.slices_Index_Lstring_string_8 (e : Ev) (v0 v1 v2 v3 : V) : vl e 42 8 [v0, v1, v2, v3] = y.slices_Index_Lstring_string_8 (vl e) v0 v1 v2 v3 := val_of (s.slices_Index_Lstring_string_8 e _ v0 v1 v2 v3)
noncomputable def y.seicheref13_Tag (Γ : Gam) (v0 : V) : Option V :=
 Γ 54 8 [v0, (.int .i64 0)]
theorem s.seicheref13_Tag (e : Ev) (Γ : Gam) (v0 : V) : stp e Γ 54 0 [v0] = y.seicheref13_Tag Γ v0 := by kernel_rfl
theorem w.seicheref13_Tag (e : Ev) (v0 : V) : vl e 54 0 [v0] = y.seicheref13_Tag (vl e) v0 := val_of (s.seicheref13_Tag e _ v0)
noncomputable def y.seicheref13_Tag_8 (Γ : Gam) (v0 v1 : V) : Option V :=
 pr (.len true) [v0] fun v2 =>
 pr (.bin (.lss) (.no)) [v1, v2] fun v3 =>
 vif v3 (
 pr .idx [v0, v1] fun v4 =>
 ca Γ 80 [v4] fun v5 =>
 pr (.un (.not)) [v5] fun v6 =>
 vif v6 (
 some (.bool false)) (
 pr (.bin (.add) (.no)) [v1, (.int .i64 1)] fun v7 =>
 Γ 54 8 [v0, v7])) (
 pr (.bin (.neq) (.no)) [v0, (.str [])] fun v4 =>
 some v4)
theorem s.seicheref13_Tag_8 (e : Ev) (Γ : Gam) (v0 v1 : V) : stp e Γ 54 8 [v0, v1] = y.seicheref13_Tag_8 Γ v0 v1 := by kernel_rfl
theorem w.seicheref13_Tag_8 (e : Ev) (v0 v1 : V) : vl e 54 8 [v0, v1] = y.seicheref13_Tag_8 (vl e) v0 v1 := val_of (s.seicheref13_Tag_8 e _ v0 v1)
noncomputable def y.slices_IndexFunc_Lseiche_api_Import_seiche_api_Import (Γ : Gam) (v0 v1 : V) : Option V :=
 pr (.len false) [v0] fun v2 =>
 Γ 58 8 [v0, v1, v2, (.int .i64 0)]
theorem s.slices_IndexFunc_Lseiche_api_Import_seiche_api_Import (e : Ev) (Γ : Gam) (v0 v1 : V) : stp e Γ 58 0 [v0, v1] = y.slices_IndexFunc_Lseiche_api_Import_seiche_api_Import Γ v0 v1 := by kernel_rfl
theorem w.slices_IndexFunc_Lseiche_api_Import_seiche_api_Import (e : Ev) (v0 v1 : V) : vl e 58 0 [v0, v1] = y.slices_IndexFunc_Lseiche_api_Import_seiche_api_Import (vl e) v0 v1 := val_of (s.slices_IndexFunc_Lseiche_api_Import_seiche_api_Import e _ v0 v1)
noncomputable def y.slices_IndexFunc_Lseiche_api_Import_seiche_api_Import_8 (Γ : Gam) (v0 v1 v2 v3 : V) : Option V :=
 pr (.bin (.lss) (.no)) [v3, v2] fun v4 =>
 vif v4 (
 pr (.elem 3) [v0, v3] fun v5 =>
 pr (.ld (some 3) 0) [v5] fun v6 =>
 cv Γ v1 [v6] fun v7 =>
 vif v7 (
 some v3) (
 pr (.bin (.add) (.no)) [v3, (.int .i64 1)] fun v8 =>
 Γ 58 8 [v0, v1, v2, v8])) (
 some (.int .i64 (-1)))
theorem s.slices_IndexFunc_Lseiche_api_Import_seiche_api_Import_8 (e : Ev) (Γ : Gam) (v0 v1 v2 v3 : V) : stp e Γ 58 8 [v0, v1, v2, v3] = y.slices_IndexFunc_Lseiche_api_Import_seiche_api_Import_8 Γ v0 v1 v2 v3 := by kernel_rfl
theorem w.slices_IndexFunc_Lseiche_api_Import_seiche_api_Import_8 (e : Ev) (v0 v1 v2 v3 : V) : vl e 58 8 [v0, v1, v2, v3] = y.slices_IndexFunc_Lseiche_api_Import_seiche_api_Import_8 (vl e) v0 v1 v2 v3 := val_of (s.slices_IndexFunc_Lseiche_api_Import_seiche_api_Import_8 e _ v0 v1 v2 v3)
noncomputable def y.plus_joined (Γ : Gam) (v0 v1 v2 : V) : Option V :=
 pr (.len false) [v0] fun v3 =>
 Γ 70 10 [v1, v2, (.sl false 1 []), v0, v3, (.int .i64 0)]
theorem s.plus_joined (e : Ev) (Γ : Gam) (v0 v1 v2 : V) : stp e Γ 70 0 [v0, v1, v2] = y.plus_joined Γ v0 v1 v2 := by kernel_rfl
theorem w.plus_joined (e : Ev) (v0 v1 v2 : V) : vl e 70 0 [v0, v1, v2] = y.plus_joined (vl e) v0 v1 v2 := val_of (s.plus_joined e _ v0 v1 v2)
noncomputable def y.plus_joined_10 (Γ : Gam) (v0 v1 v2 v3 v4 v5 : V) : Option V :=
 pr (.bin (.lss) (.no)) [v5, v4] fun v6 =>
 vif v6 (
 pr (.elem 1) [v3, v5] fun v7 =>
 pr (.ld none 0) [v7] fun v8 =>
 cv Γ v1 [v8] fun v9 =>
 pr (.ext 0) [v9] fun v10 =>
 pr (.ext 1) [v9] fun v11 =>
 pr (.bin (.neq) (.no)) [v11, (.int .i64 0)] fun v12 =>
 vif v12 (
 some (.tup [(.str []), v11])) (
 pr (.bsl 1) [v10] fun v13 =>
 pr (.app 1) [v2, v13] fun v14 =>
 pr (.bin (.add) (.no)) [v5, (.int .i64 1)] fun v15 =>
 Γ 70 10 [v0, v1, v14, v3, v4, v15])) (
 pr (.len false) [v2] fun v7 =>
 pr (.bin (.eql) (.no)) [v7, (.int .i64 1)] fun v8 =>
 vif v8 (
 pr (.elem 1) [v2, (.int .i64 0)] fun v9 =>
 pr (.ld none 0) [v9] fun v10 =>
 some (.tup [v10, (.int .i64 0)])) (
 ca Γ 93 [v2, v0] fun v9 =>
 pr (.bin (.add) (.no)) [(.str [40]), v9] fun v10 =>
 pr (.bin (.add) (.no)) [v10, (.str [41])] fun v11 =>
 some (.tup [v11, (.int .i64 0)])))
theorem s.plus_joined_10 (e : Ev) (Γ : Gam) (v0 v1 v2 v3 v4 v5 : V) : stp e Γ 70 10 [v0, v1, v2, v3, v4, v5] = y.plus_joined_10 Γ v0 v1 v2 v3 v4 v5 := by kernel_rfl
theorem w.plus_joined_10 (e : Ev) (v0 v1 v2 v3 v4 v5 : V) : vl e 70 10 [v0, v1, v2, v3, v4, v5] = y.plus_joined_10 (vl e) v0 v1 v2 v3 v4 v5 := val_of (s.plus_joined_10 e _ v0 v1 v2 v3 v4 v5)
noncomputable def y.expr_tag (Γ : Gam) (v0 : V) : Option V :=
 pr (.bin (.leq) (.no)) [(.int .u8 97), v0] fun v1 =>
 vif v1 (
 pr (.bin (.leq) (.no)) [v0, (.int .u8 122)] fun v2 =>
 vif v2 (
 some (.bool true)) (
 pr (.bin (.leq) (.no)) [(.int .u8 65), v0] fun v3 =>
 vif v3 (
 pr (.bin (.leq) (.no)) [v0, (.int .u8 90)] fun v4 =>
 vif v4 (
 some (.bool true)) (
 pr (.bin (.leq) (.no)) [(.int .u8 48), v0] fun v5 =>
 vif v5 (
 pr (.bin (.leq) (.no)) [v0, (.int .u8 57)] fun v6 =>
 vif v6 (
 some (.bool true)) (
 pr (.bin (.eql) (.no)) [v0, (.int .u8 95)] fun v7 =>
 vif v7 (
 some (.bool true)) (
 pr (.bin (.eql) (.no)) [v0, (.int .u8 46)] fun v8 =>
 some v8))) (
 pr (.bin (.eql) (.no)) [v0, (.int .u8 95)] fun v6 =>
 vif v6 (
 some (.bool true)) (
 pr (.bin (.eql) (.no)) [v0, (.int .u8 46)] fun v7 =>
 some v7)))) (
 pr (.bin (.leq) (.no)) [(.int .u8 48), v0] fun v4 =>
 vif v4 (
 pr (.bin (.leq) (.no)) [v0, (.int .u8 57)] fun v5 =>
 vif v5 (
 some (.bool true)) (
 pr (.bin (.eql) (.no)) [v0, (.int .u8 95)] fun v6 =>
 vif v6 (
 some (.bool true)) (
 pr (.bin (.eql) (.no)) [v0, (.int .u8 46)] fun v7 =>
 some v7))) (
 pr (.bin (.eql) (.no)) [v0, (.int .u8 95)] fun v5 =>
 vif v5 (
 some (.bool true)) (
 pr (.bin (.eql) (.no)) [v0, (.int .u8 46)] fun v6 =>
 some v6))))) (
 pr (.bin (.leq) (.no)) [(.int .u8 65), v0] fun v2 =>
 vif v2 (
 pr (.bin (.leq) (.no)) [v0, (.int .u8 90)] fun v3 =>
 vif v3 (
 some (.bool true)) (
 pr (.bin (.leq) (.no)) [(.int .u8 48), v0] fun v4 =>
 vif v4 (
 pr (.bin (.leq) (.no)) [v0, (.int .u8 57)] fun v5 =>
 vif v5 (
 some (.bool true)) (
 pr (.bin (.eql) (.no)) [v0, (.int .u8 95)] fun v6 =>
 vif v6 (
 some (.bool true)) (
 pr (.bin (.eql) (.no)) [v0, (.int .u8 46)] fun v7 =>
 some v7))) (
 pr (.bin (.eql) (.no)) [v0, (.int .u8 95)] fun v5 =>
 vif v5 (
 some (.bool true)) (
 pr (.bin (.eql) (.no)) [v0, (.int .u8 46)] fun v6 =>
 some v6)))) (
 pr (.bin (.leq) (.no)) [(.int .u8 48), v0] fun v3 =>
 vif v3 (
 pr (.bin (.leq) (.no)) [v0, (.int .u8 57)] fun v4 =>
 vif v4 (
 some (.bool true)) (
 pr (.bin (.eql) (.no)) [v0, (.int .u8 95)] fun v5 =>
 vif v5 (
 some (.bool true)) (
 pr (.bin (.eql) (.no)) [v0, (.int .u8 46)] fun v6 =>
 some v6))) (
 pr (.bin (.eql) (.no)) [v0, (.int .u8 95)] fun v4 =>
 vif v4 (
 some (.bool true)) (
 pr (.bin (.eql) (.no)) [v0, (.int .u8 46)] fun v5 =>
 some v5))))
theorem s.expr_tag (e : Ev) (Γ : Gam) (v0 : V) : stp e Γ 74 0 [v0] = y.expr_tag Γ v0 := by kernel_rfl
theorem w.expr_tag (e : Ev) (v0 : V) : vl e 74 0 [v0] = y.expr_tag (vl e) v0 := val_of (s.expr_tag e _ v0)
noncomputable def y.seicheref14_Line (Γ : Gam) (v0 : V) : Option V :=
 ca Γ 38 [v0] fun v1 =>
 pr (.len false) [v1] fun v2 =>
 Γ 78 10 [(.sl false 1 []), v1, v2, (.int .i64 0)]
theorem s.seicheref14_Line (e : Ev) (Γ : Gam) (v0 : V) : stp e Γ 78 0 [v0] = y.seicheref14_Line Γ v0 := by kernel_rfl
theorem w.seicheref14_Line (e : Ev) (v0 : V) : vl e 78 0 [v0] = y.seicheref14_Line (vl e) v0 := val_of (s.seicheref14_Line e _ v0)
noncomputable def y.seicheref14_Line_10 (Γ : Gam) (v0 v1 v2 v3 : V) : Option V :=
 pr (.bin (.lss) (.no)) [v3, v2] fun v4 =>
 vif v4 (
 pr (.elem 1) [v1, v3] fun v5 =>
 pr (.ld none 0) [v5] fun v6 =>
 ca Γ 52 [v6, (.int .u8 44)] fun v7 =>
 ca Γ 79 [v7, (.str [32, 38, 38, 32])] fun v8 =>
 pr (.bsl 1) [v8] fun v9 =>
 pr (.app 1) [v0, v9] fun v10 =>
 pr (.bin (.add) (.no)) [v3, (.int .i64 1)] fun v11 =>
 Γ 78 10 [v10, v1, v2, v11]) (
 ca Γ 79 [v0, (.str [32, 124, 124, 32])] fun v5 =>
 some v5)
theorem s.seicheref14_Line_10 (e : Ev) (Γ : Gam) (v0 v1 v2 v3 : V) : stp e Γ 78 10 [v0, v1, v2, v3] = y.seicheref14_Line_10 Γ v0 v1 v2 v3 := by kernel_rfl
theorem w.seicheref14_Line_10 (e : Ev) (v0 v1 v2 v3 : V) : vl e 78 10 [v0, v1, v2, v3] = y.seicheref14_Line_10 (vl e) v0 v1 v2 v3 := val_of (s.seicheref14_Line_10 e _ v0 v1 v2 v3)
noncomputable def y.seichelaw16_CondOthers (Γ : Gam) (v0 v1 v2 : V) : Option V :=
 pr .scs [v0] fun v3 =>
 pr .scs [v2] fun v4 =>
 ca Γ 9 [] fun v5 =>
 pr (.un (.not)) [v5] fun v6 =>
 vif v6 (
 some (.bool false)) (
 pr (.ld (some 5) 0) [v3] fun v7 =>
 ca Γ 10 [v7] fun v8 =>
 vif v8 (
 Γ 7 15 [v1, (.bool true), v3, v4]) (
 pr (.len true) [v1] fun v9 =>
 pr (.ld none 2) [v4] fun v10 =>
 pr (.len true) [v10] fun v11 =>
 pr (.bin (.add) (.no)) [v9, v11] fun v12 =>
 pr (.ld none 0) [v4] fun v13 =>
 pr (.len true) [v13] fun v14 =>
 pr (.bin (.add) (.no)) [v12, v14] fun v15 =>
 pr (.bin (.gtr) (.no)) [v15, (.int .i64 512)] fun v16 =>
 vif v16 (
 Γ 7 15 [v1, (.bool true), v3, v4]) (
 pr (.ld none 1) [v4] fun v17 =>
 pr (.len false) [v17] fun v18 =>
 pr (.bin (.gtr) (.no)) [v18, (.int .i64 20)] fun v19 =>
 Γ 7 15 [v1, v19, v3, v4])))
theorem s.seichelaw16_CondOthers (e : Ev) (Γ : Gam) (v0 v1 v2 : V) : stp e Γ 7 0 [v0, v1, v2] = y.seichelaw16_CondOthers Γ v0 v1 v2 := by kernel_rfl
theorem w.seichelaw16_CondOthers (e : Ev) (v0 v1 v2 : V) : vl e 7 0 [v0, v1, v2] = y.seichelaw16_CondOthers (vl e) v0 v1 v2 := val_of (s.seichelaw16_CondOthers e _ v0 v1 v2)
noncomputable def y.seichelaw16_CondOthers_15 (Γ : Gam) (v0 v1 v2 v3 : V) : Option V :=
 vif v1 (
 some (.bool true)) (
 pr (.ld (some 5) 0) [v2] fun v4 =>
 pr (.cat [some 5]) [v4] fun v5 =>
 pr (.bsl 1) [(.str [45])] fun v6 =>
 pr (.ld (some 4) 0) [v5] fun v7 =>
 pr (.ld none 4) [v5] fun v8 =>
 pr (.ld (some 0) 5) [v5] fun v9 =>
 pr (.ld none 4) [v2] fun v10 =>
 pr (.len false) [v10] fun v11 =>
 Γ 7 28 [v0, v11, (.int .i64 0), v2, v3, v7, v6])
theorem s.seichelaw16_CondOthers_15 (e : Ev) (Γ : Gam) (v0 v1 v2 v3 : V) : stp e Γ 7 15 [v0, v1, v2, v3] = y.seichelaw16_CondOthers_15 Γ v0 v1 v2 v3 := by kernel_rfl
theorem w.seichelaw16_CondOthers_15 (e : Ev) (v0 v1 v2 v3 : V) : vl e 7 15 [v0, v1, v2, v3] = y.seichelaw16_CondOthers_15 (vl e) v0 v1 v2 v3 := val_of (s.seichelaw16_CondOthers_15 e _ v0 v1 v2 v3)
noncomputable def y.seichelaw16_CondOthers_28 (Γ : Gam) (v0 v1 v2 v3 v4 v5 v6 : V) : Option V :=
 pr (.bin (.lss) (.no)) [v2, v1] fun v7 =>
 vif v7 (
 pr (.ld none 4) [v3] fun v8 =>
 pr (.ld none 4) [v3] fun v9 =>
 pr (.len false) [v9] fun v10 =>
 pr (.bin (.sub) (.no)) [v10, (.int .i64 1)] fun v11 =>
 pr (.bin (.sub) (.no)) [v11, v2] fun v12 =>
 pr (.elem 1) [v8, v12] fun v13 =>
 pr (.ld none 0) [v13] fun v14 =>
 pr (.bsl 1) [v14] fun v15 =>
 pr (.app 1) [v6, v15] fun v16 =>
 pr (.bin (.add) (.no)) [v2, (.int .i64 1)] fun v17 =>
 Γ 7 28 [v0, v1, v17, v3, v4, v5, v16]) (
 pr (.ld (some 5) 0) [v3] fun v8 =>
 pr (.ld (some 6) 0) [v4] fun v9 =>
 ca Γ 15 [v8, v0, v9] fun v10 =>
 pr (.ext 0) [v10] fun v11 =>
 pr (.ext 1) [v10] fun v12 =>
 pr (.cat [some 4, none]) [v5, v6] fun v13 =>
 pr (.ld (some 6) 0) [v4] fun v14 =>
 ca Γ 15 [v13, v0, v14] fun v15 =>
 pr (.ext 0) [v15] fun v16 =>
 pr (.ext 1) [v15] fun v17 =>
 pr (.bin (.eql) (.no)) [v11, v16] fun v18 =>
 vif v18 (
 pr (.bin (.eql) (.no)) [v12, v17] fun v19 =>
 some v19) (
 some (.bool false)))
theorem s.seichelaw16_CondOthers_28 (e : Ev) (Γ : Gam) (v0 v1 v2 v3 v4 v5 v6 : V) : stp e Γ 7 28 [v0, v1, v2, v3, v4, v5, v6] = y.seichelaw16_CondOthers_28 Γ v0 v1 v2 v3 v4 v5 v6 := by kernel_rfl
theorem w.seichelaw16_CondOthers_28 (e : Ev) (v0 v1 v2 v3 v4 v5 v6 : V) : vl e 7 28 [v0, v1, v2, v3, v4, v5, v6] = y.seichelaw16_CondOthers_28 (vl e) v0 v1 v2 v3 v4 v5 v6 := val_of (s.seichelaw16_CondOthers_28 e _ v0 v1 v2 v3 v4 v5 v6)
noncomputable def y.cond_On (Γ : Gam) (v0 v1 : V) : Option V :=
 pr .scs [v0] fun v2 =>
 ca Γ 20 [v1] fun v3 =>
 pr (.ext 0) [v3] fun v4 =>
 pr (.ext 1) [v3] fun v5 =>
 vif v5 (
 pr (.ld none 3) [v2] fun v6 =>
 pr (.bin (.leq) (.no)) [v4, v6] fun v7 =>
 Γ 11 9 [v1, v7, v2]) (
 Γ 11 9 [v1, (.bool false), v2])
theorem s.cond_On (e : Ev) (Γ : Gam) (v0 v1 : V) : stp e Γ 11 0 [v0, v1] = y.cond_On Γ v0 v1 := by kernel_rfl
theorem w.cond_On (e : Ev) (v0 v1 : V) : vl e 11 0 [v0, v1] = y.cond_On (vl e) v0 v1 := val_of (s.cond_On e _ v0 v1)
noncomputable def y.cond_On_9 (Γ : Gam) (v0 v1 v2 : V) : Option V :=
 vif v1 (
 some (.bool true)) (
 pr (.bin (.eql) (.no)) [v0, (.str [])] fun v3 =>
 vif v3 (
 some (.bool false)) (
 pr (.ld none 0) [v2] fun v4 =>
 pr (.bin (.eql) (.no)) [v0, v4] fun v5 =>
 vif v5 (
 Γ 11 34 [v0, v0, (.bool true), v2]) (
 pr (.ld none 1) [v2] fun v6 =>
 pr (.bin (.eql) (.no)) [v0, v6] fun v7 =>
 vif v7 (
 Γ 11 34 [v0, v0, (.bool true), v2]) (
 pr (.bin (.eql) (.no)) [v0, (.str [103, 99])] fun v8 =>
 Γ 11 34 [v0, v0, v8, v2]))))
theorem s.cond_On_9 (e : Ev) (Γ : Gam) (v0 v1 v2 : V) : stp e Γ 11 9 [v0, v1, v2] = y.cond_On_9 Γ v0 v1 v2 := by kernel_rfl
theorem w.cond_On_9 (e : Ev) (v0 v1 v2 : V) : vl e 11 9 [v0, v1, v2] = y.cond_On_9 (vl e) v0 v1 v2 := val_of (s.cond_On_9 e _ v0 v1 v2)
noncomputable def y.cond_On_34 (Γ : Gam) (v0 v1 v2 v3 : V) : Option V :=
 vif v2 (
 some (.bool true)) (
 pr (.bin (.eql) (.no)) [v1, (.str [117, 110, 105, 120])] fun v4 =>
 vif v4 (
 pr (.ld none 0) [v3] fun v5 =>
 ca Γ 21 [v5] fun v6 =>
 some v6) (
 pr (.bin (.eql) (.no)) [v1, (.str [99, 103, 111])] fun v5 =>
 vif v5 (
 pr (.ld none 2) [v3] fun v6 =>
 some v6) (
 pr (.bin (.eql) (.no)) [v1, (.str [108, 105, 110, 117, 120])] fun v6 =>
 vif v6 (
 pr (.ld none 0) [v3] fun v7 =>
 pr (.bin (.eql) (.no)) [v7, (.str [97, 110, 100, 114, 111, 105, 100])] fun v8 =>
 vif v8 (
 some (.bool true)) (
 pr (.ld none 4) [v3] fun v9 =>
 ca Γ 22 [v9, v0] fun v10 =>
 some v10)) (
 pr (.bin (.eql) (.no)) [v1, (.str [115, 111, 108, 97, 114, 105, 115])] fun v7 =>
 vif v7 (
 pr (.ld none 0) [v3] fun v8 =>
 pr (.bin (.eql) (.no)) [v8, (.str [105, 108, 108, 117, 109, 111, 115])] fun v9 =>
 vif v9 (
 some (.bool true)) (
 pr (.ld none 4) [v3] fun v10 =>
 ca Γ 22 [v10, v0] fun v11 =>
 some v11)) (
 pr (.bin (.eql) (.no)) [v1, (.str [100, 97, 114, 119, 105, 110])] fun v8 =>
 vif v8 (
 pr (.ld none 0) [v3] fun v9 =>
 pr (.bin (.eql) (.no)) [v9, (.str [105, 111, 115])] fun v10 =>
 vif v10 (
 some (.bool true)) (
 pr (.ld none 4) [v3] fun v11 =>
 ca Γ 22 [v11, v0] fun v12 =>
 some v12)) (
 pr (.ld none 4) [v3] fun v9 =>
 ca Γ 22 [v9, v0] fun v10 =>
 some v10))))))
theorem s.cond_On_34 (e : Ev) (Γ : Gam) (v0 v1 v2 v3 : V) : stp e Γ 11 34 [v0, v1, v2, v3] = y.cond_On_34 Γ v0 v1 v2 v3 := by kernel_rfl
theorem w.cond_On_34 (e : Ev) (v0 v1 v2 v3 : V) : vl e 11 34 [v0, v1, v2, v3] = y.cond_On_34 (vl e) v0 v1 v2 v3 := val_of (s.cond_On_34 e _ v0 v1 v2 v3)
noncomputable def y.cond_In (Γ : Gam) (v0 v1 v2 : V) : Option V :=
 pr .scs [v0] fun v3 =>
 pr .scs [v2] fun v4 =>
 ca Γ 32 [v1] fun v5 =>
 pr (.cat [some 4]) [v5] fun v6 =>
 pr (.ld none 0) [v6] fun v7 =>
 pr (.un (.not)) [v7] fun v8 =>
 vif v8 (
 Γ 15 9 [(.bool true), v3, v4, v6]) (
 pr (.ld none 2) [v6] fun v9 =>
 pr (.bin (.neq) (.no)) [v9, (.str [])] fun v10 =>
 vif v10 (
 pr (.ld (some 5) 0) [v3] fun v11 =>
 pr (.ld none 2) [v6] fun v12 =>
 ca Γ 11 [v11, v12] fun v13 =>
 pr (.un (.not)) [v13] fun v14 =>
 vif v14 (
 Γ 15 9 [(.bool true), v3, v4, v6]) (
 pr (.ld none 3) [v6] fun v15 =>
 pr (.bin (.neq) (.no)) [v15, (.str [])] fun v16 =>
 vif v16 (
 pr (.ld (some 5) 0) [v3] fun v17 =>
 pr (.ld none 3) [v6] fun v18 =>
 ca Γ 11 [v17, v18] fun v19 =>
 pr (.un (.not)) [v19] fun v20 =>
 Γ 15 9 [v20, v3, v4, v6]) (
 Γ 15 9 [(.bool false), v3, v4, v6]))) (
 pr (.ld none 3) [v6] fun v11 =>
 pr (.bin (.neq) (.no)) [v11, (.str [])] fun v12 =>
 vif v12 (
 pr (.ld (some 5) 0) [v3] fun v13 =>
 pr (.ld none 3) [v6] fun v14 =>
 ca Γ 11 [v13, v14] fun v15 =>
 pr (.un (.not)) [v15] fun v16 =>
 Γ 15 9 [v16, v3, v4, v6]) (
 Γ 15 9 [(.bool false), v3, v4, v6])))
theorem s.cond_In (e : Ev) (Γ : Gam) (v0 v1 v2 : V) : stp e Γ 15 0 [v0, v1, v2] = y.cond_In Γ v0 v1 v2 := by kernel_rfl
theorem w.cond_In (e : Ev) (v0 v1 v2 : V) : vl e 15 0 [v0, v1, v2] = y.cond_In (vl e) v0 v1 v2 := val_of (s.cond_In e _ v0 v1 v2)
noncomputable def y.cond_In_9 (Γ : Gam) (v0 v1 v2 v3 : V) : Option V :=
 vif v0 (
 some (.tup [(.int .i64 0), (.int .i64 0)])) (
 pr (.ld none 1) [v3] fun v4 =>
 vif v4 (
 pr (.ld none 4) [v2] fun v5 =>
 pr (.bin (.neq) (.no)) [v5, (.int .i64 0)] fun v6 =>
 vif v6 (
 pr (.ld none 4) [v2] fun v7 =>
 some (.tup [(.int .i64 2), v7])) (
 pr (.ld (some 5) 0) [v1] fun v7 =>
 pr (.ld none 2) [v2] fun v8 =>
 ca Γ 13 [v7, v8] fun v9 =>
 pr (.ext 0) [v9] fun v10 =>
 pr (.ext 1) [v9] fun v11 =>
 pr (.bin (.neq) (.no)) [v11, (.int .i64 0)] fun v12 =>
 vif v12 (
 some (.tup [(.int .i64 2), (.int .i64 4)])) (
 pr (.un (.not)) [v10] fun v13 =>
 vif v13 (
 some (.tup [(.int .i64 0), (.int .i64 0)])) (
 pr (.ld none 2) [v1] fun v14 =>
 pr (.un (.not)) [v14] fun v15 =>
 vif v15 (
 pr (.ld none 1) [v2] fun v16 =>
 ca Γ 33 [v16, (.fn 34 [])] fun v17 =>
 vif v17 (
 some (.tup [(.int .i64 0), (.int .i64 0)])) (
 pr (.ld none 1) [v3] fun v18 =>
 vif v18 (
 pr (.ld none 0) [v2] fun v19 =>
 ca Γ 35 [v19, (.str [95, 116, 101, 115, 116])] fun v20 =>
 vif v20 (
 some (.tup [(.int .i64 3), (.int .i64 0)])) (
 some (.tup [(.int .i64 2), (.int .i64 0)]))) (
 some (.tup [(.int .i64 2), (.int .i64 0)])))) (
 pr (.ld none 1) [v3] fun v16 =>
 vif v16 (
 pr (.ld none 0) [v2] fun v17 =>
 ca Γ 35 [v17, (.str [95, 116, 101, 115, 116])] fun v18 =>
 vif v18 (
 some (.tup [(.int .i64 3), (.int .i64 0)])) (
 some (.tup [(.int .i64 2), (.int .i64 0)]))) (
 some (.tup [(.int .i64 2), (.int .i64 0)]))))))) (
 pr (.ld none 4) [v2] fun v5 =>
 pr (.bin (.neq) (.no)) [v5, (.int .i64 0)] fun v6 =>
 vif v6 (
 pr (.ld none 4) [v2] fun v7 =>
 some (.tup [(.int .i64 1), v7])) (
 pr (.ld (some 5) 0) [v1] fun v7 =>
 pr (.ld none 2) [v2] fun v8 =>
 ca Γ 13 [v7, v8] fun v9 =>
 pr (.ext 0) [v9] fun v10 =>
 pr (.ext 1) [v9] fun v11 =>
 pr (.bin (.neq) (.no)) [v11, (.int .i64 0)] fun v12 =>
 vif v12 (
 some (.tup [(.int .i64 1), (.int .i64 4)])) (
 pr (.un (.not)) [v10] fun v13 =>
 vif v13 (
 some (.tup [(.int .i64 0), (.int .i64 0)])) (
 pr (.ld none 2) [v1] fun v14 =>
 pr (.un (.not)) [v14] fun v15 =>
 vif v15 (
 pr (.ld none 1) [v2] fun v16 =>
 ca Γ 33 [v16, (.fn 34 [])] fun v17 =>
 vif v17 (
 some (.tup [(.int .i64 0), (.int .i64 0)])) (
 pr (.ld none 1) [v3] fun v18 =>
 vif v18 (
 pr (.ld none 0) [v2] fun v19 =>
 ca Γ 35 [v19, (.str [95, 116, 101, 115, 116])] fun v20 =>
 vif v20 (
 some (.tup [(.int .i64 3), (.int .i64 0)])) (
 some (.tup [(.int .i64 1), (.int .i64 0)]))) (
 some (.tup [(.int .i64 1), (.int .i64 0)])))) (
 pr (.ld none 1) [v3] fun v16 =>
 vif v16 (
 pr (.ld none 0) [v2] fun v17 =>
 ca Γ 35 [v17, (.str [95, 116, 101, 115, 116])] fun v18 =>
 vif v18 (
 some (.tup [(.int .i64 3), (.int .i64 0)])) (
 some (.tup [(.int .i64 1), (.int .i64 0)]))) (
 some (.tup [(.int .i64 1), (.int .i64 0)]))))))))
theorem s.cond_In_9 (e : Ev) (Γ : Gam) (v0 v1 v2 v3 : V) : stp e Γ 15 9 [v0, v1, v2, v3] = y.cond_In_9 Γ v0 v1 v2 v3 := by kernel_rfl
theorem w.cond_In_9 (e : Ev) (v0 v1 v2 v3 : V) : vl e 15 9 [v0, v1, v2, v3] = y.cond_In_9 (vl e) v0 v1 v2 v3 := val_of (s.cond_In_9 e _ v0 v1 v2 v3)
noncomputable def y.seicheref15_Processors (Γ : Gam) : Option V :=
 ca Γ 38 [(.str (51 :: 56 :: 54 :: 32 :: 97 :: 109 :: 100 :: 54 :: 52 :: 32 :: 97 :: 114 :: 109 :: 32 :: 97 :: 114 :: 109 :: 54 :: 52 :: 32 :: 108 :: 111 :: 111 :: 110 :: 103 :: 54 :: 52 :: 32 :: 109 :: 105 :: 112 :: 115 :: 32 :: 109 :: 105 :: 112 :: 115 :: 54 :: 52 :: 32 :: 109 :: 105 :: 112 :: 115 :: 54 :: 52 :: 108 :: 101 :: 32 :: 109 :: 105 :: 112 :: 115 :: 108 :: 101 :: 32 :: 112 :: 112 :: 99 :: 54 :: 52 :: 32 :: 112 :: 112 :: 99 :: 54 :: 52 :: 108 :: 101 :: 32 :: 114 :: 105 :: 115 :: 99 :: 118 :: 54 :: 52 :: 32 :: 115 :: 51 :: 57 :: 48 :: 120 :: 32 :: 119 :: 97 :: 115 :: 109 :: []))] fun v0 =>
 some v0
theorem s.seicheref15_Processors (e : Ev) (Γ : Gam) : stp e Γ 19 0 [] = y.seicheref15_Processors Γ := by kernel_rfl
theorem w.seicheref15_Processors (e : Ev) : vl e 19 0 [] = y.seicheref15_Processors (vl e) := val_of (s.seicheref15_Processors e _)
noncomputable def y.seicheref16_Level (Γ : Gam) (v0 : V) : Option V :=
 pr (.len true) [v0] fun v1 =>
 pr (.bin (.lss) (.no)) [v1, (.int .i64 5)] fun v2 =>
 vif v2 (
 Γ 23 7 [v0, (.bool true)]) (
 pr (.len true) [v0] fun v3 =>
 pr (.bin (.gtr) (.no)) [v3, (.int .i64 8)] fun v4 =>
 vif v4 (
 Γ 23 7 [v0, (.bool true)]) (
 pr (.sls false true) [v0, (.int .i64 4)] fun v5 =>
 pr (.bin (.neq) (.no)) [v5, (.str [103, 111, 49, 46])] fun v6 =>
 vif v6 (
 Γ 23 7 [v0, (.bool true)]) (
 pr .idx [v0, (.int .i64 4)] fun v7 =>
 pr (.bin (.eql) (.no)) [v7, (.int .u8 48)] fun v8 =>
 Γ 23 7 [v0, v8])))
theorem s.seicheref16_Level (e : Ev) (Γ : Gam) (v0 : V) : stp e Γ 23 0 [v0] = y.seicheref16_Level Γ v0 := by kernel_rfl
theorem w.seicheref16_Level (e : Ev) (v0 : V) : vl e 23 0 [v0] = y.seicheref16_Level (vl e) v0 := val_of (s.seicheref16_Level e _ v0)
noncomputable def y.seicheref16_Level_7 (Γ : Gam) (v0 v1 : V) : Option V :=
 vif v1 (
 some (.int .i64 0)) (
 Γ 23 18 [v0, (.int .i64 0), (.int .i64 4)])
theorem s.seicheref16_Level_7 (e : Ev) (Γ : Gam) (v0 v1 : V) : stp e Γ 23 7 [v0, v1] = y.seicheref16_Level_7 Γ v0 v1 := by kernel_rfl
theorem w.seicheref16_Level_7 (e : Ev) (v0 v1 : V) : vl e 23 7 [v0, v1] = y.seicheref16_Level_7 (vl e) v0 v1 := val_of (s.seicheref16_Level_7 e _ v0 v1)
noncomputable def y.seicheref16_Level_18 (Γ : Gam) (v0 v1 v2 : V) : Option V :=
 pr (.len true) [v0] fun v3 =>
 pr (.bin (.lss) (.no)) [v2, v3] fun v4 =>
 vif v4 (
 pr .idx [v0, v2] fun v5 =>
 pr (.bin (.lss) (.no)) [v5, (.int .u8 48)] fun v6 =>
 vif v6 (
 some (.int .i64 0)) (
 pr .idx [v0, v2] fun v7 =>
 pr (.bin (.gtr) (.no)) [v7, (.int .u8 57)] fun v8 =>
 vif v8 (
 some (.int .i64 0)) (
 pr (.bin (.mul) (.no)) [(.int .i64 10), v1] fun v9 =>
 pr .idx [v0, v2] fun v10 =>
 pr (.bin (.sub) (.no)) [v10, (.int .u8 48)] fun v11 =>
 pr (.i2i (.i64)) [v11] fun v12 =>
 pr (.bin (.add) (.no)) [v9, v12] fun v13 =>
 pr (.bin (.add) (.no)) [v2, (.int .i64 1)] fun v14 =>
 Γ 23 18 [v0, v13, v14]))) (
 some v1)
theorem s.seicheref16_Level_18 (e : Ev) (Γ : Gam) (v0 v1 v2 : V) : stp e Γ 23 18 [v0, v1, v2] = y.seicheref16_Level_18 Γ v0 v1 v2 := by kernel_rfl
theorem w.seicheref16_Level_18 (e : Ev) (v0 v1 v2 : V) : vl e 23 18 [v0, v1, v2] = y.seicheref16_Level_18 (vl e) v0 v1 v2 := val_of (s.seicheref16_Level_18 e _ v0 v1 v2)
noncomputable def y.seicheref13_Eval (Γ : Gam) (v0 v1 : V) : Option V :=
 pr (.len false) [v0] fun v2 =>
 Γ 31 10 [v1, (.sl false 1 []), v0, v2, (.int .i64 0)]
theorem s.seicheref13_Eval (e : Ev) (Γ : Gam) (v0 v1 : V) : stp e Γ 31 0 [v0, v1] = y.seicheref13_Eval Γ v0 v1 := by kernel_rfl
theorem w.seicheref13_Eval (e : Ev) (v0 v1 : V) : vl e 31 0 [v0, v1] = y.seicheref13_Eval (vl e) v0 v1 := val_of (s.seicheref13_Eval e _ v0 v1)
noncomputable def y.seicheref13_Eval_10 (Γ : Gam) (v0 v1 v2 v3 v4 : V) : Option V :=
 pr (.bin (.lss) (.no)) [v4, v3] fun v5 =>
 vif v5 (
 pr (.elem 1) [v2, v4] fun v6 =>
 pr (.ld none 0) [v6] fun v7 =>
 pr (.len false) [v1] fun v8 =>
 ca Γ 54 [v7] fun v9 =>
 vif v9 (
 ca Γ 17 [v0, v7] fun v10 =>
 pr (.bsl 1) [v10] fun v11 =>
 pr (.app 1) [v1, v11] fun v12 =>
 pr (.bin (.add) (.no)) [v4, (.int .i64 1)] fun v13 =>
 Γ 31 10 [v0, v12, v2, v3, v13]) (
 pr (.bin (.eql) (.no)) [v7, (.str [33])] fun v10 =>
 vif v10 (
 pr (.bin (.geq) (.no)) [v8, (.int .i64 1)] fun v11 =>
 Γ 31 29 [v0, v1, v7, v8, v2, v3, v4, v11]) (
 Γ 31 29 [v0, v1, v7, v8, v2, v3, v4, (.bool false)]))) (
 pr (.len false) [v1] fun v6 =>
 pr (.bin (.eql) (.no)) [v6, (.int .i64 1)] fun v7 =>
 vif v7 (
 pr (.elem 1) [v1, (.int .i64 0)] fun v8 =>
 pr (.ld none 0) [v8] fun v9 =>
 pr (.len false) [v1] fun v10 =>
 pr (.bin (.eql) (.no)) [v10, (.int .i64 1)] fun v11 =>
 some (.tup [v9, v11])) (
 pr (.len false) [v1] fun v8 =>
 pr (.bin (.eql) (.no)) [v8, (.int .i64 1)] fun v9 =>
 some (.tup [(.bool false), v9])))
theorem s.seicheref13_Eval_10 (e : Ev) (Γ : Gam) (v0 v1 v2 v3 v4 : V) : stp e Γ 31 10 [v0, v1, v2, v3, v4] = y.seicheref13_Eval_10 Γ v0 v1 v2 v3 v4 := by kernel_rfl
theorem w.seicheref13_Eval_10 (e : Ev) (v0 v1 v2 v3 v4 : V) : vl e 31 10 [v0, v1, v2, v3, v4] = y.seicheref13_Eval_10 (vl e) v0 v1 v2 v3 v4 := val_of (s.seicheref13_Eval_10 e _ v0 v1 v2 v3 v4)
noncomputable def y.seicheref13_Eval_29 (Γ : Gam) (v0 v1 v2 v3 v4 v5 v6 v7 : V) : Option V :=
 vif v7 (
 pr (.bsl 1) [] fun v8 =>
 pr (.bin (.sub) (.no)) [v3, (.int .i64 1)] fun v9 =>
 pr (.slc 1 false true false) [v1, v9] fun v10 =>
 pr (.app 1) [v8, v10] fun v11 =>
 pr (.bin (.sub) (.no)) [v3, (.int .i64 1)] fun v12 =>
 pr (.elem 1) [v1, v12] fun v13 =>
 pr (.ld none 0) [v13] fun v14 =>
 pr (.un (.not)) [v14] fun v15 =>
 pr (.bsl 1) [v15] fun v16 =>
 pr (.app 1) [v11, v16] fun v17 =>
 pr (.bin (.add) (.no)) [v6, (.int .i64 1)] fun v18 =>
 Γ 31 10 [v0, v17, v4, v5, v18]) (
 pr (.bin (.eql) (.no)) [v2, (.str [38, 38])] fun v8 =>
 vif v8 (
 pr (.bin (.geq) (.no)) [v3, (.int .i64 2)] fun v9 =>
 vif v9 (
 pr (.bsl 1) [] fun v10 =>
 pr (.bin (.sub) (.no)) [v3, (.int .i64 2)] fun v11 =>
 pr (.slc 1 false true false) [v1, v11] fun v12 =>
 pr (.app 1) [v10, v12] fun v13 =>
 pr (.bin (.sub) (.no)) [v3, (.int .i64 2)] fun v14 =>
 pr (.elem 1) [v1, v14] fun v15 =>
 pr (.ld none 0) [v15] fun v16 =>
 vif v16 (
 pr (.bin (.sub) (.no)) [v3, (.int .i64 1)] fun v17 =>
 pr (.elem 1) [v1, v17] fun v18 =>
 pr (.ld none 0) [v18] fun v19 =>
 pr (.bsl 1) [v19] fun v20 =>
 pr (.app 1) [v13, v20] fun v21 =>
 pr (.bin (.add) (.no)) [v6, (.int .i64 1)] fun v22 =>
 Γ 31 10 [v0, v21, v4, v5, v22]) (
 pr (.bsl 1) [(.bool false)] fun v17 =>
 pr (.app 1) [v13, v17] fun v18 =>
 pr (.bin (.add) (.no)) [v6, (.int .i64 1)] fun v19 =>
 Γ 31 10 [v0, v18, v4, v5, v19])) (
 pr (.bin (.eql) (.no)) [v2, (.str [124, 124])] fun v10 =>
 vif v10 (
 pr (.bin (.geq) (.no)) [v3, (.int .i64 2)] fun v11 =>
 vif v11 (
 pr (.bsl 1) [] fun v12 =>
 pr (.bin (.sub) (.no)) [v3, (.int .i64 2)] fun v13 =>
 pr (.slc 1 false true false) [v1, v13] fun v14 =>
 pr (.app 1) [v12, v14] fun v15 =>
 pr (.bin (.sub) (.no)) [v3, (.int .i64 2)] fun v16 =>
 pr (.elem 1) [v1, v16] fun v17 =>
 pr (.ld none 0) [v17] fun v18 =>
 vif v18 (
 pr (.bsl 1) [(.bool true)] fun v19 =>
 pr (.app 1) [v15, v19] fun v20 =>
 pr (.bin (.add) (.no)) [v6, (.int .i64 1)] fun v21 =>
 Γ 31 10 [v0, v20, v4, v5, v21]) (
 pr (.bin (.sub) (.no)) [v3, (.int .i64 1)] fun v19 =>
 pr (.elem 1) [v1, v19] fun v20 =>
 pr (.ld none 0) [v20] fun v21 =>
 pr (.bsl 1) [v21] fun v22 =>
 pr (.app 1) [v15, v22] fun v23 =>
 pr (.bin (.add) (.no)) [v6, (.int .i64 1)] fun v24 =>
 Γ 31 10 [v0, v23, v4, v5, v24])) (
 some (.tup [(.bool false), (.bool false)]))) (
 some (.tup [(.bool false), (.bool false)])))) (
 pr (.bin (.eql) (.no)) [v2, (.str [124, 124])] fun v9 =>
 vif v9 (
 pr (.bin (.geq) (.no)) [v3, (.int .i64 2)] fun v10 =>
 vif v10 (
 pr (.bsl 1) [] fun v11 =>
 pr (.bin (.sub) (.no)) [v3, (.int .i64 2)] fun v12 =>
 pr (.slc 1 false true false) [v1, v12] fun v13 =>
 pr (.app 1) [v11, v13] fun v14 =>
 pr (.bin (.sub) (.no)) [v3, (.int .i64 2)] fun v15 =>
 pr (.elem 1) [v1, v15] fun v16 =>
 pr (.ld none 0) [v16] fun v17 =>
 vif v17 (
 pr (.bsl 1) [(.bool true)] fun v18 =>
 pr (.app 1) [v14, v18] fun v19 =>
 pr (.bin (.add) (.no)) [v6, (.int .i64 1)] fun v20 =>
 Γ 31 10 [v0, v19, v4, v5, v20]) (
 pr (.bin (.sub) (.no)) [v3, (.int .i64 1)] fun v18 =>
 pr (.elem 1) [v1, v18] fun v19 =>
 pr (.ld none 0) [v19] fun v20 =>
 pr (.bsl 1) [v20] fun v21 =>
 pr (.app 1) [v14, v21] fun v22 =>
 pr (.bin (.add) (.no)) [v6, (.int .i64 1)] fun v23 =>
 Γ 31 10 [v0, v22, v4, v5, v23])) (
 some (.tup [(.bool false), (.bool false)]))) (
 some (.tup [(.bool false), (.bool false)]))))
theorem s.seicheref13_Eval_29 (e : Ev) (Γ : Gam) (v0 v1 v2 v3 v4 v5 v6 v7 : V) : stp e Γ 31 29 [v0, v1, v2, v3, v4, v5, v6, v7] = y.seicheref13_Eval_29 Γ v0 v1 v2 v3 v4 v5 v6 v7 := by kernel_rfl
theorem w.seicheref13_Eval_29 (e : Ev) (v0 v1 v2 v3 v4 v5 v6 v7 : V) : vl e 31 29 [v0, v1, v2, v3, v4, v5, v6, v7] = y.seicheref13_Eval_29 (vl e) v0 v1 v2 v3 v4 v5 v6 v7 := val_of (s.seicheref13_Eval_29 e _ v0 v1 v2 v3 v4 v5 v6 v7)
noncomputable def y.strings_HasSuffix (Γ : Gam) (v0 v1 : V) : Option V :=
 ca Γ 59 [v0, v1] fun v2 =>
 some v2
theorem s.strings_HasSuffix (e : Ev) (Γ : Gam) (v0 v1 : V) : stp e Γ 35 0 [v0, v1] = y.strings_HasSuffix Γ v0 v1 := by kernel_rfl
theorem w.strings_HasSuffix (e : Ev) (v0 v1 : V) : vl e 35 0 [v0, v1] = y.strings_HasSuffix (vl e) v0 v1 := val_of (s.strings_HasSuffix e _ v0 v1)
noncomputable def y.strings_CutPrefix (Γ : Gam) (v0 v1 : V) : Option V :=
 ca Γ 61 [v0, v1] fun v2 =>
 pr (.ext 0) [v2] fun v3 =>
 pr (.ext 1) [v2] fun v4 =>
 some (.tup [v3, v4])
theorem s.strings_CutPrefix (e : Ev) (Γ : Gam) (v0 v1 : V) : stp e Γ 39 0 [v0, v1] = y.strings_CutPrefix Γ v0 v1 := by kernel_rfl
theorem w.strings_CutPrefix (e : Ev) (v0 v1 : V) : vl e 39 0 [v0, v1] = y.strings_CutPrefix (vl e) v0 v1 := val_of (s.strings_CutPrefix e _ v0 v1)
noncomputable def y.seicheref15_System (Γ : Gam) (v0 : V) : Option V :=
 ca Γ 18 [] fun v1 =>
 ca Γ 17 [v1, v0] fun v2 =>
 some v2
theorem s.seicheref15_System (e : Ev) (Γ : Gam) (v0 : V) : stp e Γ 43 0 [v0] = y.seicheref15_System Γ v0 := by kernel_rfl
theorem w.seicheref15_System (e : Ev) (v0 : V) : vl e 43 0 [v0] = y.seicheref15_System (vl e) v0 := val_of (s.seicheref15_System e _ v0)
noncomputable def y.strings_TrimPrefix (Γ : Gam) (v0 v1 : V) : Option V :=
 ca Γ 69 [v0, v1] fun v2 =>
 some v2
theorem s.strings_TrimPrefix (e : Ev) (Γ : Gam) (v0 v1 : V) : stp e Γ 47 0 [v0, v1] = y.strings_TrimPrefix Γ v0 v1 := by kernel_rfl
theorem w.strings_TrimPrefix (e : Ev) (v0 v1 : V) : vl e 47 0 [v0, v1] = y.strings_TrimPrefix (vl e) v0 v1 := val_of (s.strings_TrimPrefix e _ v0 v1)
noncomputable def y.seicheref13_Parse (Γ : Gam) (v0 : V) : Option V :=
 pr (.len true) [v0] fun v1 =>
 pr (.bin (.gtr) (.no)) [v1, (.int .i64 1024)] fun v2 =>
 vif v2 (
 some (.tup [(.sl false 1 []), (.int .i64 3)])) (
 ca Γ 75 [v0] fun v3 =>
 pr (.cat [none]) [v3] fun v4 =>
 pr (.cat [none, none, none]) [v3, (.sl false 1 []), (.int .i64 0)] fun v5 =>
 ch Γ 11216 [v3, (.sl false 1 []), (.int .i64 0)] fun v6 =>
 pr (.ext 0) [v6] fun v7 =>
 pr (.ext 1) [v6] fun v8 =>
 pr (.ext 2) [v6] fun v9 =>
 pr (.ext 3) [v6] fun v10 =>
 pr (.bin (.eql) (.no)) [v7, (.int .i64 0)] fun v11 =>
 vif v11 (
 pr (.len false) [v8] fun v12 =>
 pr (.bin (.gtr) (.no)) [v12, (.int .i64 0)] fun v13 =>
 vif v13 (
 some (.tup [(.sl false 1 []), (.int .i64 4)])) (
 pr (.bin (.neq) (.no)) [v7, (.int .i64 0)] fun v14 =>
 vif v14 (
 some (.tup [(.sl false 1 []), v7])) (
 some (.tup [v9, (.int .i64 0)])))) (
 pr (.bin (.neq) (.no)) [v7, (.int .i64 0)] fun v12 =>
 vif v12 (
 some (.tup [(.sl false 1 []), v7])) (
 some (.tup [v9, (.int .i64 0)]))))
theorem s.seicheref13_Parse (e : Ev) (Γ : Gam) (v0 : V) : stp e Γ 51 0 [v0] = y.seicheref13_Parse Γ v0 := by kernel_rfl
theorem w.seicheref13_Parse (e : Ev) (v0 : V) : vl e 51 0 [v0] = y.seicheref13_Parse (vl e) v0 := val_of (s.seicheref13_Parse e _ v0)
noncomputable def y.strings_CutSuffix (Γ : Gam) (v0 v1 : V) : Option V :=
 ca Γ 81 [v0, v1] fun v2 =>
 pr (.ext 0) [v2] fun v3 =>
 pr (.ext 1) [v2] fun v4 =>
 some (.tup [v3, v4])
theorem s.strings_CutSuffix (e : Ev) (Γ : Gam) (v0 v1 : V) : stp e Γ 55 0 [v0, v1] = y.strings_CutSuffix Γ v0 v1 := by kernel_rfl
theorem w.strings_CutSuffix (e : Ev) (v0 v1 : V) : vl e 55 0 [v0, v1] = y.strings_CutSuffix (vl e) v0 v1 := val_of (s.strings_CutSuffix e _ v0 v1)
noncomputable def y.internal_stringslite_HasSuffix (Γ : Gam) (v0 v1 : V) : Option V :=
 pr (.len true) [v0] fun v2 =>
 pr (.len true) [v1] fun v3 =>
 pr (.bin (.geq) (.no)) [v2, v3] fun v4 =>
 vif v4 (
 pr (.len true) [v0] fun v5 =>
 pr (.len true) [v1] fun v6 =>
 pr (.bin (.sub) (.no)) [v5, v6] fun v7 =>
 pr (.sls true false) [v0, v7] fun v8 =>
 pr (.bin (.eql) (.no)) [v8, v1] fun v9 =>
 some v9) (
 some (.bool false))
theorem s.internal_stringslite_HasSuffix (e : Ev) (Γ : Gam) (v0 v1 : V) : stp e Γ 59 0 [v0, v1] = y.internal_stringslite_HasSuffix Γ v0 v1 := by kernel_rfl
theorem w.internal_stringslite_HasSuffix (e : Ev) (v0 v1 : V) : vl e 59 0 [v0, v1] = y.internal_stringslite_HasSuffix (vl e) v0 v1 := val_of (s.internal_stringslite_HasSuffix e _ v0 v1)
noncomputable def y.plus_Line (Γ : Gam) (v0 : V) : Option V :=
 ca Γ 94 [v0, (.fn 95 [])] fun v1 =>
 pr (.len false) [v1] fun v2 =>
 pr (.bin (.eql) (.no)) [v2, (.int .i64 0)] fun v3 =>
 vif v3 (
 some (.tup [(.str []), (.int .i64 4)])) (
 ca Γ 70 [v1, (.str [32, 124, 124, 32]), (.fn 96 [])] fun v4 =>
 pr (.ext 0) [v4] fun v5 =>
 pr (.ext 1) [v4] fun v6 =>
 some (.tup [v5, v6]))
theorem s.plus_Line (e : Ev) (Γ : Gam) (v0 : V) : stp e Γ 71 0 [v0] = y.plus_Line Γ v0 := by kernel_rfl
theorem w.plus_Line (e : Ev) (v0 : V) : vl e 71 0 [v0] = y.plus_Line (vl e) v0 := val_of (s.plus_Line e _ v0)
end Go.Proofs.YtanocopjancaiaaGreatDoor
namespace Go.Proofs.YtanocopjancaiaaGreatDoor
open Go.Abs
noncomputable def y.seicheref13_Pieces (Γ : Gam) (v0 : V) : Option V :=
 Γ 75 10 [v0, (.sl false 1 []), (.int .i64 0)]
theorem s.seicheref13_Pieces (e : Ev) (Γ : Gam) (v0 : V) : stp e Γ 75 0 [v0] = y.seicheref13_Pieces Γ v0 := by kernel_rfl
theorem w.seicheref13_Pieces (e : Ev) (v0 : V) : vl e 75 0 [v0] = y.seicheref13_Pieces (vl e) v0 := val_of (s.seicheref13_Pieces e _ v0)
noncomputable def y.seicheref13_Pieces_10 (Γ : Gam) (v0 v1 v2 : V) : Option V :=
 pr (.len true) [v0] fun v3 =>
 pr (.bin (.lss) (.no)) [v2, v3] fun v4 =>
 vif v4 (
 Γ 75 22 [v0, v1, v2, (.int .i64 0)]) (
 some v1)
theorem s.seicheref13_Pieces_10 (e : Ev) (Γ : Gam) (v0 v1 v2 : V) : stp e Γ 75 10 [v0, v1, v2] = y.seicheref13_Pieces_10 Γ v0 v1 v2 := by kernel_rfl
theorem w.seicheref13_Pieces_10 (e : Ev) (v0 v1 v2 : V) : vl e 75 10 [v0, v1, v2] = y.seicheref13_Pieces_10 (vl e) v0 v1 v2 := val_of (s.seicheref13_Pieces_10 e _ v0 v1 v2)
noncomputable def y.seicheref13_Pieces_22 (Γ : Gam) (v0 v1 v2 v3 : V) : Option V :=
 pr (.bin (.add) (.no)) [v2, v3] fun v4 =>
 pr (.len true) [v0] fun v5 =>
 pr (.bin (.lss) (.no)) [v4, v5] fun v6 =>
 vif v6 (
 pr (.bin (.add) (.no)) [v2, v3] fun v7 =>
 pr .idx [v0, v7] fun v8 =>
 ca Γ 80 [v8] fun v9 =>
 vif v9 (
 pr (.bin (.add) (.no)) [v3, (.int .i64 1)] fun v10 =>
 Γ 75 22 [v0, v1, v2, v10]) (
 Γ 75 31 [v0, v1, v2, v3])) (
 Γ 75 31 [v0, v1, v2, v3])
theorem s.seicheref13_Pieces_22 (e : Ev) (Γ : Gam) (v0 v1 v2 v3 : V) : stp e Γ 75 22 [v0, v1, v2, v3] = y.seicheref13_Pieces_22 Γ v0 v1 v2 v3 := by kernel_rfl
theorem w.seicheref13_Pieces_22 (e : Ev) (v0 v1 v2 v3 : V) : vl e 75 22 [v0, v1, v2, v3] = y.seicheref13_Pieces_22 (vl e) v0 v1 v2 v3 := val_of (s.seicheref13_Pieces_22 e _ v0 v1 v2 v3)
noncomputable def y.seicheref13_Pieces_31 (Γ : Gam) (v0 v1 v2 v3 : V) : Option V :=
 pr .idx [v0, v2] fun v4 =>
 pr (.bin (.eql) (.no)) [v4, (.int .u8 32)] fun v5 =>
 vif v5 (
 pr (.bin (.add) (.no)) [v2, (.int .i64 1)] fun v6 =>
 Γ 75 10 [v0, v1, v6]) (
 pr .idx [v0, v2] fun v6 =>
 pr (.bin (.eql) (.no)) [v6, (.int .u8 9)] fun v7 =>
 vif v7 (
 pr (.bin (.add) (.no)) [v2, (.int .i64 1)] fun v8 =>
 Γ 75 10 [v0, v1, v8]) (
 pr (.bin (.eql) (.no)) [v3, (.int .i64 0)] fun v8 =>
 vif v8 (
 pr .idx [v0, v2] fun v9 =>
 pr (.bin (.eql) (.no)) [v9, (.int .u8 33)] fun v10 =>
 vif v10 (
 Γ 75 42 [v0, v1, v2, v3, (.bool true)]) (
 pr .idx [v0, v2] fun v11 =>
 pr (.bin (.eql) (.no)) [v11, (.int .u8 40)] fun v12 =>
 vif v12 (
 Γ 75 42 [v0, v1, v2, v3, (.bool true)]) (
 pr .idx [v0, v2] fun v13 =>
 pr (.bin (.eql) (.no)) [v13, (.int .u8 41)] fun v14 =>
 Γ 75 42 [v0, v1, v2, v3, v14]))) (
 Γ 75 42 [v0, v1, v2, v3, (.bool false)])))
theorem s.seicheref13_Pieces_31 (e : Ev) (Γ : Gam) (v0 v1 v2 v3 : V) : stp e Γ 75 31 [v0, v1, v2, v3] = y.seicheref13_Pieces_31 Γ v0 v1 v2 v3 := by kernel_rfl
theorem w.seicheref13_Pieces_31 (e : Ev) (v0 v1 v2 v3 : V) : vl e 75 31 [v0, v1, v2, v3] = y.seicheref13_Pieces_31 (vl e) v0 v1 v2 v3 := val_of (s.seicheref13_Pieces_31 e _ v0 v1 v2 v3)
noncomputable def y.seicheref13_Pieces_42 (Γ : Gam) (v0 v1 v2 v3 v4 : V) : Option V :=
 vif v4 (
 Γ 75 51 [v0, v1, v2, (.int .i64 1)]) (
 pr (.bin (.eql) (.no)) [v3, (.int .i64 0)] fun v5 =>
 vif v5 (
 pr (.len true) [v0] fun v6 =>
 pr (.bin (.sub) (.no)) [v6, (.int .i64 1)] fun v7 =>
 pr (.bin (.lss) (.no)) [v2, v7] fun v8 =>
 vif v8 (
 pr (.bin (.add) (.no)) [v2, (.int .i64 2)] fun v9 =>
 pr (.sls true true) [v0, v2, v9] fun v10 =>
 pr (.bin (.eql) (.no)) [v10, (.str [38, 38])] fun v11 =>
 vif v11 (
 Γ 75 51 [v0, v1, v2, (.int .i64 2)]) (
 pr (.bin (.add) (.no)) [v2, (.int .i64 2)] fun v12 =>
 pr (.sls true true) [v0, v2, v12] fun v13 =>
 pr (.bin (.eql) (.no)) [v13, (.str [124, 124])] fun v14 =>
 vif v14 (
 Γ 75 51 [v0, v1, v2, (.int .i64 2)]) (
 Γ 75 51 [v0, v1, v2, v3]))) (
 Γ 75 51 [v0, v1, v2, v3])) (
 Γ 75 51 [v0, v1, v2, v3]))
theorem s.seicheref13_Pieces_42 (e : Ev) (Γ : Gam) (v0 v1 v2 v3 v4 : V) : stp e Γ 75 42 [v0, v1, v2, v3, v4] = y.seicheref13_Pieces_42 Γ v0 v1 v2 v3 v4 := by kernel_rfl
theorem w.seicheref13_Pieces_42 (e : Ev) (v0 v1 v2 v3 v4 : V) : vl e 75 42 [v0, v1, v2, v3, v4] = y.seicheref13_Pieces_42 (vl e) v0 v1 v2 v3 v4 := val_of (s.seicheref13_Pieces_42 e _ v0 v1 v2 v3 v4)
noncomputable def y.seicheref13_Pieces_51 (Γ : Gam) (v0 v1 v2 v3 : V) : Option V :=
 pr (.bin (.eql) (.no)) [v3, (.int .i64 0)] fun v4 =>
 vif v4 (
 pr (.bsl 1) [(.str [])] fun v5 =>
 pr (.app 1) [v1, v5] fun v6 =>
 some v6) (
 pr (.bin (.add) (.no)) [v2, v3] fun v5 =>
 pr (.sls true true) [v0, v2, v5] fun v6 =>
 pr (.bsl 1) [v6] fun v7 =>
 pr (.app 1) [v1, v7] fun v8 =>
 pr (.bin (.add) (.no)) [v2, v3] fun v9 =>
 Γ 75 10 [v0, v8, v9])
theorem s.seicheref13_Pieces_51 (e : Ev) (Γ : Gam) (v0 v1 v2 v3 : V) : stp e Γ 75 51 [v0, v1, v2, v3] = y.seicheref13_Pieces_51 Γ v0 v1 v2 v3 := by kernel_rfl
theorem w.seicheref13_Pieces_51 (e : Ev) (v0 v1 v2 v3 : V) : vl e 75 51 [v0, v1, v2, v3] = y.seicheref13_Pieces_51 (vl e) v0 v1 v2 v3 := val_of (s.seicheref13_Pieces_51 e _ v0 v1 v2 v3)
noncomputable def y.seicheref14_wrap (Γ : Gam) (v0 v1 : V) : Option V :=
 pr (.elem 1) [v0, (.int .i64 0)] fun v2 =>
 pr (.ld none 0) [v2] fun v3 =>
 pr (.slc 1 true false false) [v0, (.int .i64 1)] fun v4 =>
 pr (.len false) [v4] fun v5 =>
 Γ 79 10 [v0, v1, v3, v4, v5, (.int .i64 0)]
theorem s.seicheref14_wrap (e : Ev) (Γ : Gam) (v0 v1 : V) : stp e Γ 79 0 [v0, v1] = y.seicheref14_wrap Γ v0 v1 := by kernel_rfl
theorem w.seicheref14_wrap (e : Ev) (v0 v1 : V) : vl e 79 0 [v0, v1] = y.seicheref14_wrap (vl e) v0 v1 := val_of (s.seicheref14_wrap e _ v0 v1)
noncomputable def y.seicheref14_wrap_10 (Γ : Gam) (v0 v1 v2 v3 v4 v5 : V) : Option V :=
 pr (.bin (.lss) (.no)) [v5, v4] fun v6 =>
 vif v6 (
 pr (.elem 1) [v3, v5] fun v7 =>
 pr (.ld none 0) [v7] fun v8 =>
 pr (.bin (.add) (.no)) [v2, v1] fun v9 =>
 pr (.bin (.add) (.no)) [v9, v8] fun v10 =>
 pr (.bin (.add) (.no)) [v5, (.int .i64 1)] fun v11 =>
 Γ 79 10 [v0, v1, v10, v3, v4, v11]) (
 pr (.len false) [v0] fun v7 =>
 pr (.bin (.gtr) (.no)) [v7, (.int .i64 1)] fun v8 =>
 vif v8 (
 pr (.bin (.add) (.no)) [(.str [40]), v2] fun v9 =>
 pr (.bin (.add) (.no)) [v9, (.str [41])] fun v10 =>
 some v10) (
 some v2))
theorem s.seicheref14_wrap_10 (e : Ev) (Γ : Gam) (v0 v1 v2 v3 v4 v5 : V) : stp e Γ 79 10 [v0, v1, v2, v3, v4, v5] = y.seicheref14_wrap_10 Γ v0 v1 v2 v3 v4 v5 := by kernel_rfl
theorem w.seicheref14_wrap_10 (e : Ev) (v0 v1 v2 v3 v4 v5 : V) : vl e 79 10 [v0, v1, v2, v3, v4, v5] = y.seicheref14_wrap_10 (vl e) v0 v1 v2 v3 v4 v5 := val_of (s.seicheref14_wrap_10 e _ v0 v1 v2 v3 v4 v5)
noncomputable def y.plus_Line_1 (Γ : Gam) (v0 : V) : Option V :=
 pr (.bin (.eql) (.no)) [v0, (.int .i32 32)] fun v1 =>
 vif v1 (
 some (.bool true)) (
 pr (.bin (.eql) (.no)) [v0, (.int .i32 9)] fun v2 =>
 some v2)
theorem s.plus_Line_1 (e : Ev) (Γ : Gam) (v0 : V) : stp e Γ 95 0 [v0] = y.plus_Line_1 Γ v0 := by kernel_rfl
theorem w.plus_Line_1 (e : Ev) (v0 : V) : vl e 95 0 [v0] = y.plus_Line_1 (vl e) v0 := val_of (s.plus_Line_1 e _ v0)
noncomputable def y.slices_Clone_Lstring_string_h0 (Γ : Gam) (v0 : V) : Option V :=
 vamb v0 (
 some (.tup [(.int .i64 0), (.agg [])])) (
 pr (.rapp 1) [(.agg []), (.int .i64 0), v0] fun v3 =>
 pr (.rlen 1) [(.int .i64 0), v0] fun v4 =>
 some (.tup [v4, v3]))
theorem s.slices_Clone_Lstring_string_h0 (e : Ev) (Γ : Gam) (v0 : V) : stp e Γ 10448 1 [v0] = y.slices_Clone_Lstring_string_h0 Γ v0 := by kernel_rfl
theorem w.slices_Clone_Lstring_string_h0 (e : Ev) (v0 : V) : vl e 10448 1 [v0] = y.slices_Clone_Lstring_string_h0 (vl e) v0 := val_of (s.slices_Clone_Lstring_string_h0 e _ v0)
noncomputable def y.seiche_expr_parser_or_h0 (Γ : Gam) (v0 v1 v2 v3 : V) : Option V :=
 ch Γ 11408 [(.str [124, 124]), v0, v1, v2, v3] fun v4 =>
 pr (.ext 0) [v4] fun v5 =>
 pr (.ext 1) [v4] fun v6 =>
 pr (.ext 2) [v4] fun v7 =>
 pr (.ext 3) [v4] fun v8 =>
 pr (.ext 4) [v4] fun v9 =>
 some (.tup [v5, v6, v7, v8, v9])
theorem s.seiche_expr_parser_or_h0 (e : Ev) (Γ : Gam) (v0 v1 v2 v3 : V) : stp e Γ 11056 1 [v0, v1, v2, v3] = y.seiche_expr_parser_or_h0 Γ v0 v1 v2 v3 := by kernel_rfl
theorem w.seiche_expr_parser_or_h0 (e : Ev) (v0 v1 v2 v3 : V) : vl e 11056 1 [v0, v1, v2, v3] = y.seiche_expr_parser_or_h0 (vl e) v0 v1 v2 v3 := val_of (s.seiche_expr_parser_or_h0 e _ v0 v1 v2 v3)
noncomputable def y.seiche_seicheref13_Read_Or_h0 (Γ : Gam) (v0 v1 v2 : V) : Option V :=
 ch Γ 11568 [v0, v1, v2] fun v3 =>
 pr (.ext 0) [v3] fun v4 =>
 pr (.ext 1) [v3] fun v5 =>
 pr (.ext 2) [v3] fun v6 =>
 pr (.ext 3) [v3] fun v7 =>
 Γ 11216 8 [v4, v5, v6, v7]
theorem s.seiche_seicheref13_Read_Or_h0 (e : Ev) (Γ : Gam) (v0 v1 v2 : V) : stp e Γ 11216 1 [v0, v1, v2] = y.seiche_seicheref13_Read_Or_h0 Γ v0 v1 v2 := by kernel_rfl
theorem w.seiche_seicheref13_Read_Or_h0 (e : Ev) (v0 v1 v2 : V) : vl e 11216 1 [v0, v1, v2] = y.seiche_seicheref13_Read_Or_h0 (vl e) v0 v1 v2 := val_of (s.seiche_seicheref13_Read_Or_h0 e _ v0 v1 v2)
noncomputable def y.seiche_seicheref13_Read_Or_h0_8 (Γ : Gam) (v0 v1 v2 v3 : V) : Option V :=
 pr (.bin (.eql) (.no)) [v0, (.int .i64 0)] fun v4 =>
 vif v4 (
 ch Γ 11584 [(.str [124, 124]), v1, v2, v3] fun v5 =>
 pr (.ext 0) [v5] fun v6 =>
 pr (.ext 1) [v5] fun v7 =>
 pr (.ext 2) [v5] fun v8 =>
 pr (.ext 3) [v5] fun v9 =>
 vif v6 (
 ch Γ 11568 [v7, v8, v9] fun v10 =>
 pr (.ext 0) [v10] fun v11 =>
 pr (.ext 1) [v10] fun v12 =>
 pr (.ext 2) [v10] fun v13 =>
 pr (.ext 3) [v10] fun v14 =>
 pr (.bsl 1) [(.str [124, 124])] fun v15 =>
 pr (.app 1) [v13, v15] fun v16 =>
 Γ 11216 8 [v11, v12, v16, v14]) (
 some (.tup [v0, v7, v8, v9]))) (
 some (.tup [v0, v1, v2, v3]))
theorem s.seiche_seicheref13_Read_Or_h0_8 (e : Ev) (Γ : Gam) (v0 v1 v2 v3 : V) : stp e Γ 11216 8 [v0, v1, v2, v3] = y.seiche_seicheref13_Read_Or_h0_8 Γ v0 v1 v2 v3 := by kernel_rfl
theorem w.seiche_seicheref13_Read_Or_h0_8 (e : Ev) (v0 v1 v2 v3 : V) : vl e 11216 8 [v0, v1, v2, v3] = y.seiche_seicheref13_Read_Or_h0_8 (vl e) v0 v1 v2 v3 := val_of (s.seiche_seicheref13_Read_Or_h0_8 e _ v0 v1 v2 v3)
noncomputable def y.seiche_expr_parser_list_h0 (Γ : Gam) (v0 v1 v2 v3 v4 : V) : Option V :=
 ch Γ 11424 [v1, v2, v3, v4] fun v5 =>
 pr (.ext 0) [v5] fun v6 =>
 pr (.ext 1) [v5] fun v7 =>
 pr (.ext 2) [v5] fun v8 =>
 pr (.ext 3) [v5] fun v9 =>
 pr (.ext 4) [v5] fun v10 =>
 pr (.bin (.neq) (.no)) [v6, (.int .i64 0)] fun v11 =>
 vif v11 (
 some (.tup [v6, v7, v8, v9, v10])) (
 Γ 11408 16 [v0, v7, v8, v9, v10])
theorem s.seiche_expr_parser_list_h0 (e : Ev) (Γ : Gam) (v0 v1 v2 v3 v4 : V) : stp e Γ 11408 1 [v0, v1, v2, v3, v4] = y.seiche_expr_parser_list_h0 Γ v0 v1 v2 v3 v4 := by kernel_rfl
theorem w.seiche_expr_parser_list_h0 (e : Ev) (v0 v1 v2 v3 v4 : V) : vl e 11408 1 [v0, v1, v2, v3, v4] = y.seiche_expr_parser_list_h0 (vl e) v0 v1 v2 v3 v4 := val_of (s.seiche_expr_parser_list_h0 e _ v0 v1 v2 v3 v4)
noncomputable def y.seiche_expr_parser_list_h0_16 (Γ : Gam) (v0 v1 v2 v3 v4 : V) : Option V :=
 ch Γ 11728 [v0, v1, v2, v3, v4] fun v5 =>
 pr (.ext 0) [v5] fun v6 =>
 pr (.ext 1) [v5] fun v7 =>
 pr (.ext 2) [v5] fun v8 =>
 pr (.ext 3) [v5] fun v9 =>
 pr (.ext 4) [v5] fun v10 =>
 vif v6 (
 ch Γ 11424 [v7, v8, v9, v10] fun v11 =>
 pr (.ext 0) [v11] fun v12 =>
 pr (.ext 1) [v11] fun v13 =>
 pr (.ext 2) [v11] fun v14 =>
 pr (.ext 3) [v11] fun v15 =>
 pr (.ext 4) [v11] fun v16 =>
 pr (.bin (.neq) (.no)) [v12, (.int .i64 0)] fun v17 =>
 vif v17 (
 some (.tup [v12, v13, v14, v15, v16])) (
 pr (.bsl 1) [v0] fun v18 =>
 pr (.app 1) [v15, v18] fun v19 =>
 Γ 11408 16 [v0, v13, v14, v19, v16])) (
 some (.tup [(.int .i64 0), v7, v8, v9, v10]))
theorem s.seiche_expr_parser_list_h0_16 (e : Ev) (Γ : Gam) (v0 v1 v2 v3 v4 : V) : stp e Γ 11408 16 [v0, v1, v2, v3, v4] = y.seiche_expr_parser_list_h0_16 Γ v0 v1 v2 v3 v4 := by kernel_rfl
theorem w.seiche_expr_parser_list_h0_16 (e : Ev) (v0 v1 v2 v3 v4 : V) : vl e 11408 16 [v0, v1, v2, v3, v4] = y.seiche_expr_parser_list_h0_16 (vl e) v0 v1 v2 v3 v4 := val_of (s.seiche_expr_parser_list_h0_16 e _ v0 v1 v2 v3 v4)
noncomputable def y.seiche_seicheref13_Read_And_h0 (Γ : Gam) (v0 v1 v2 : V) : Option V :=
 ch Γ 11888 [v0, v1, v2] fun v3 =>
 pr (.ext 0) [v3] fun v4 =>
 pr (.ext 1) [v3] fun v5 =>
 pr (.ext 2) [v3] fun v6 =>
 pr (.ext 3) [v3] fun v7 =>
 Γ 11568 8 [v4, v5, v6, v7]
theorem s.seiche_seicheref13_Read_And_h0 (e : Ev) (Γ : Gam) (v0 v1 v2 : V) : stp e Γ 11568 1 [v0, v1, v2] = y.seiche_seicheref13_Read_And_h0 Γ v0 v1 v2 := by kernel_rfl
theorem w.seiche_seicheref13_Read_And_h0 (e : Ev) (v0 v1 v2 : V) : vl e 11568 1 [v0, v1, v2] = y.seiche_seicheref13_Read_And_h0 (vl e) v0 v1 v2 := val_of (s.seiche_seicheref13_Read_And_h0 e _ v0 v1 v2)
noncomputable def y.seiche_seicheref13_Read_And_h0_8 (Γ : Gam) (v0 v1 v2 v3 : V) : Option V :=
 pr (.bin (.eql) (.no)) [v0, (.int .i64 0)] fun v4 =>
 vif v4 (
 ch Γ 11584 [(.str [38, 38]), v1, v2, v3] fun v5 =>
 pr (.ext 0) [v5] fun v6 =>
 pr (.ext 1) [v5] fun v7 =>
 pr (.ext 2) [v5] fun v8 =>
 pr (.ext 3) [v5] fun v9 =>
 vif v6 (
 ch Γ 11888 [v7, v8, v9] fun v10 =>
 pr (.ext 0) [v10] fun v11 =>
 pr (.ext 1) [v10] fun v12 =>
 pr (.ext 2) [v10] fun v13 =>
 pr (.ext 3) [v10] fun v14 =>
 pr (.bsl 1) [(.str [38, 38])] fun v15 =>
 pr (.app 1) [v13, v15] fun v16 =>
 Γ 11568 8 [v11, v12, v16, v14]) (
 some (.tup [v0, v7, v8, v9]))) (
 some (.tup [v0, v1, v2, v3]))
theorem s.seiche_seicheref13_Read_And_h0_8 (e : Ev) (Γ : Gam) (v0 v1 v2 v3 : V) : stp e Γ 11568 8 [v0, v1, v2, v3] = y.seiche_seicheref13_Read_And_h0_8 Γ v0 v1 v2 v3 := by kernel_rfl
theorem w.seiche_seicheref13_Read_And_h0_8 (e : Ev) (v0 v1 v2 v3 : V) : vl e 11568 8 [v0, v1, v2, v3] = y.seiche_seicheref13_Read_And_h0_8 (vl e) v0 v1 v2 v3 := val_of (s.seiche_seicheref13_Read_And_h0_8 e _ v0 v1 v2 v3)
noncomputable def y.seiche_expr_parser_and_h0 (Γ : Gam) (v0 v1 v2 v3 : V) : Option V :=
 ch Γ 11409 [(.str [38, 38]), v0, v1, v2, v3] fun v4 =>
 pr (.ext 0) [v4] fun v5 =>
 pr (.ext 1) [v4] fun v6 =>
 pr (.ext 2) [v4] fun v7 =>
 pr (.ext 3) [v4] fun v8 =>
 pr (.ext 4) [v4] fun v9 =>
 some (.tup [v5, v6, v7, v8, v9])
theorem s.seiche_expr_parser_and_h0 (e : Ev) (Γ : Gam) (v0 v1 v2 v3 : V) : stp e Γ 11424 1 [v0, v1, v2, v3] = y.seiche_expr_parser_and_h0 Γ v0 v1 v2 v3 := by kernel_rfl
theorem w.seiche_expr_parser_and_h0 (e : Ev) (v0 v1 v2 v3 : V) : vl e 11424 1 [v0, v1, v2, v3] = y.seiche_expr_parser_and_h0 (vl e) v0 v1 v2 v3 := val_of (s.seiche_expr_parser_and_h0 e _ v0 v1 v2 v3)
noncomputable def y.seiche_seicheref13_Read_Not_h0 (Γ : Gam) (v0 v1 v2 : V) : Option V :=
 ch Γ 11584 [(.str [33]), v0, v1, v2] fun v3 =>
 pr (.ext 0) [v3] fun v4 =>
 pr (.ext 1) [v3] fun v5 =>
 pr (.ext 2) [v3] fun v6 =>
 pr (.ext 3) [v3] fun v7 =>
 ch Γ 12144 [v5, v6, v7] fun v8 =>
 pr (.ext 0) [v8] fun v9 =>
 pr (.ext 1) [v8] fun v10 =>
 pr (.ext 2) [v8] fun v11 =>
 pr (.ext 3) [v8] fun v12 =>
 pr (.bin (.eql) (.no)) [v9, (.int .i64 0)] fun v13 =>
 vif v13 (
 vif v4 (
 pr (.bsl 1) [(.str [33])] fun v14 =>
 pr (.app 1) [v11, v14] fun v15 =>
 some (.tup [v9, v10, v15, v12])) (
 some (.tup [v9, v10, v11, v12]))) (
 some (.tup [v9, v10, v11, v12]))
theorem s.seiche_seicheref13_Read_Not_h0 (e : Ev) (Γ : Gam) (v0 v1 v2 : V) : stp e Γ 11888 1 [v0, v1, v2] = y.seiche_seicheref13_Read_Not_h0 Γ v0 v1 v2 := by kernel_rfl
theorem w.seiche_seicheref13_Read_Not_h0 (e : Ev) (v0 v1 v2 : V) : vl e 11888 1 [v0, v1, v2] = y.seiche_seicheref13_Read_Not_h0 (vl e) v0 v1 v2 := val_of (s.seiche_seicheref13_Read_Not_h0 e _ v0 v1 v2)
noncomputable def y.seiche_expr_parser_list_h1 (Γ : Gam) (v0 v1 v2 v3 v4 : V) : Option V :=
 ch Γ 11744 [v1, v2, v3, v4] fun v5 =>
 pr (.ext 0) [v5] fun v6 =>
 pr (.ext 1) [v5] fun v7 =>
 pr (.ext 2) [v5] fun v8 =>
 pr (.ext 3) [v5] fun v9 =>
 pr (.ext 4) [v5] fun v10 =>
 pr (.bin (.neq) (.no)) [v6, (.int .i64 0)] fun v11 =>
 vif v11 (
 some (.tup [v6, v7, v8, v9, v10])) (
 Γ 11409 16 [v0, v7, v8, v9, v10])
theorem s.seiche_expr_parser_list_h1 (e : Ev) (Γ : Gam) (v0 v1 v2 v3 v4 : V) : stp e Γ 11409 1 [v0, v1, v2, v3, v4] = y.seiche_expr_parser_list_h1 Γ v0 v1 v2 v3 v4 := by kernel_rfl
theorem w.seiche_expr_parser_list_h1 (e : Ev) (v0 v1 v2 v3 v4 : V) : vl e 11409 1 [v0, v1, v2, v3, v4] = y.seiche_expr_parser_list_h1 (vl e) v0 v1 v2 v3 v4 := val_of (s.seiche_expr_parser_list_h1 e _ v0 v1 v2 v3 v4)
noncomputable def y.seiche_expr_parser_list_h1_16 (Γ : Gam) (v0 v1 v2 v3 v4 : V) : Option V :=
 ch Γ 11728 [v0, v1, v2, v3, v4] fun v5 =>
 pr (.ext 0) [v5] fun v6 =>
 pr (.ext 1) [v5] fun v7 =>
 pr (.ext 2) [v5] fun v8 =>
 pr (.ext 3) [v5] fun v9 =>
 pr (.ext 4) [v5] fun v10 =>
 vif v6 (
 ch Γ 11744 [v7, v8, v9, v10] fun v11 =>
 pr (.ext 0) [v11] fun v12 =>
 pr (.ext 1) [v11] fun v13 =>
 pr (.ext 2) [v11] fun v14 =>
 pr (.ext 3) [v11] fun v15 =>
 pr (.ext 4) [v11] fun v16 =>
 pr (.bin (.neq) (.no)) [v12, (.int .i64 0)] fun v17 =>
 vif v17 (
 some (.tup [v12, v13, v14, v15, v16])) (
 pr (.bsl 1) [v0] fun v18 =>
 pr (.app 1) [v15, v18] fun v19 =>
 Γ 11409 16 [v0, v13, v14, v19, v16])) (
 some (.tup [(.int .i64 0), v7, v8, v9, v10]))
theorem s.seiche_expr_parser_list_h1_16 (e : Ev) (Γ : Gam) (v0 v1 v2 v3 v4 : V) : stp e Γ 11409 16 [v0, v1, v2, v3, v4] = y.seiche_expr_parser_list_h1_16 Γ v0 v1 v2 v3 v4 := by kernel_rfl
theorem w.seiche_expr_parser_list_h1_16 (e : Ev) (v0 v1 v2 v3 v4 : V) : vl e 11409 16 [v0, v1, v2, v3, v4] = y.seiche_expr_parser_list_h1_16 (vl e) v0 v1 v2 v3 v4 := val_of (s.seiche_expr_parser_list_h1_16 e _ v0 v1 v2 v3 v4)
noncomputable def y.seiche_seicheref13_Read_Take_h0 (Γ : Gam) (v0 v1 v2 v3 : V) : Option V :=
 pr (.len false) [v1] fun v4 =>
 pr (.bin (.eql) (.no)) [v4, (.int .i64 0)] fun v5 =>
 vif v5 (
 some (.tup [(.bool false), v1, v2, v3])) (
 pr (.elem 1) [v1, (.int .i64 0)] fun v6 =>
 pr (.ld none 0) [v6] fun v7 =>
 pr (.bin (.neq) (.no)) [v7, v0] fun v8 =>
 vif v8 (
 some (.tup [(.bool false), v1, v2, v3])) (
 pr (.slc 1 true false false) [v1, (.int .i64 1)] fun v9 =>
 some (.tup [(.bool true), v9, v2, v3])))
theorem s.seiche_seicheref13_Read_Take_h0 (e : Ev) (Γ : Gam) (v0 v1 v2 v3 : V) : stp e Γ 11584 1 [v0, v1, v2, v3] = y.seiche_seicheref13_Read_Take_h0 Γ v0 v1 v2 v3 := by kernel_rfl
theorem w.seiche_seicheref13_Read_Take_h0 (e : Ev) (v0 v1 v2 v3 : V) : vl e 11584 1 [v0, v1, v2, v3] = y.seiche_seicheref13_Read_Take_h0 (vl e) v0 v1 v2 v3 := val_of (s.seiche_seicheref13_Read_Take_h0 e _ v0 v1 v2 v3)
noncomputable def y.seiche_expr_parser_not_h0 (Γ : Gam) (v0 v1 v2 v3 : V) : Option V :=
 ch Γ 11728 [(.str [33]), v0, v1, v2, v3] fun v4 =>
 pr (.ext 0) [v4] fun v5 =>
 pr (.ext 1) [v4] fun v6 =>
 pr (.ext 2) [v4] fun v7 =>
 pr (.ext 3) [v4] fun v8 =>
 pr (.ext 4) [v4] fun v9 =>
 pr (.un (.not)) [v5] fun v10 =>
 vif v10 (
 ch Γ 12016 [v6, v7, v8, v9] fun v11 =>
 pr (.ext 0) [v11] fun v12 =>
 pr (.ext 1) [v11] fun v13 =>
 pr (.ext 2) [v11] fun v14 =>
 pr (.ext 3) [v11] fun v15 =>
 pr (.ext 4) [v11] fun v16 =>
 some (.tup [v12, v13, v14, v15, v16])) (
 ch Γ 11728 [(.str [33]), v6, v7, v8, v9] fun v11 =>
 pr (.ext 0) [v11] fun v12 =>
 pr (.ext 1) [v11] fun v13 =>
 pr (.ext 2) [v11] fun v14 =>
 pr (.ext 3) [v11] fun v15 =>
 pr (.ext 4) [v11] fun v16 =>
 vif v12 (
 some (.tup [(.int .i64 4), v13, v14, v15, v16])) (
 ch Γ 12016 [v13, v14, v15, v16] fun v17 =>
 pr (.ext 0) [v17] fun v18 =>
 pr (.ext 1) [v17] fun v19 =>
 pr (.ext 2) [v17] fun v20 =>
 pr (.ext 3) [v17] fun v21 =>
 pr (.ext 4) [v17] fun v22 =>
 pr (.bin (.neq) (.no)) [v18, (.int .i64 0)] fun v23 =>
 vif v23 (
 some (.tup [v18, v19, v20, v21, v22])) (
 pr (.bsl 1) [(.str [33])] fun v24 =>
 pr (.app 1) [v21, v24] fun v25 =>
 some (.tup [(.int .i64 0), v19, v20, v25, v22]))))
theorem s.seiche_expr_parser_not_h0 (e : Ev) (Γ : Gam) (v0 v1 v2 v3 : V) : stp e Γ 11744 1 [v0, v1, v2, v3] = y.seiche_expr_parser_not_h0 Γ v0 v1 v2 v3 := by kernel_rfl
theorem w.seiche_expr_parser_not_h0 (e : Ev) (v0 v1 v2 v3 : V) : vl e 11744 1 [v0, v1, v2, v3] = y.seiche_expr_parser_not_h0 (vl e) v0 v1 v2 v3 := val_of (s.seiche_expr_parser_not_h0 e _ v0 v1 v2 v3)
noncomputable def y.seiche_expr_parser_takes_h0 (Γ : Gam) (v0 v1 v2 v3 v4 : V) : Option V :=
 ch Γ 11072 [v1, v2, v3, v4] fun v5 =>
 pr (.ext 0) [v5] fun v6 =>
 pr (.ext 1) [v5] fun v7 =>
 pr (.ext 2) [v5] fun v8 =>
 pr (.ext 3) [v5] fun v9 =>
 pr (.len true) [v6] fun v10 =>
 pr (.bin (.sub) (.no)) [v10, v7] fun v11 =>
 pr (.len true) [v0] fun v12 =>
 pr (.bin (.lss) (.no)) [v11, v12] fun v13 =>
 vif v13 (
 some (.tup [(.bool false), v6, v7, v8, v9])) (
 pr (.len true) [v0] fun v14 =>
 pr (.bin (.add) (.no)) [v7, v14] fun v15 =>
 pr (.sls true true) [v6, v7, v15] fun v16 =>
 pr (.bin (.neq) (.no)) [v16, v0] fun v17 =>
 vif v17 (
 some (.tup [(.bool false), v6, v7, v8, v9])) (
 pr (.len true) [v0] fun v18 =>
 pr (.bin (.add) (.no)) [v7, v18] fun v19 =>
 some (.tup [(.bool true), v6, v19, v8, v9])))
theorem s.seiche_expr_parser_takes_h0 (e : Ev) (Γ : Gam) (v0 v1 v2 v3 v4 : V) : stp e Γ 11728 1 [v0, v1, v2, v3, v4] = y.seiche_expr_parser_takes_h0 Γ v0 v1 v2 v3 v4 := by kernel_rfl
theorem w.seiche_expr_parser_takes_h0 (e : Ev) (v0 v1 v2 v3 v4 : V) : vl e 11728 1 [v0, v1, v2, v3, v4] = y.seiche_expr_parser_takes_h0 (vl e) v0 v1 v2 v3 v4 := val_of (s.seiche_expr_parser_takes_h0 e _ v0 v1 v2 v3 v4)
noncomputable def y.seiche_expr_parser_blanks_h0 (Γ : Gam) (v0 v1 v2 v3 : V) : Option V :=
 Γ 11072 3 [v0, v1, v2, v3]
theorem s.seiche_expr_parser_blanks_h0 (e : Ev) (Γ : Gam) (v0 v1 v2 v3 : V) : stp e Γ 11072 1 [v0, v1, v2, v3] = y.seiche_expr_parser_blanks_h0 Γ v0 v1 v2 v3 := by kernel_rfl
theorem w.seiche_expr_parser_blanks_h0 (e : Ev) (v0 v1 v2 v3 : V) : vl e 11072 1 [v0, v1, v2, v3] = y.seiche_expr_parser_blanks_h0 (vl e) v0 v1 v2 v3 := val_of (s.seiche_expr_parser_blanks_h0 e _ v0 v1 v2 v3)
noncomputable def y.seiche_expr_parser_blanks_h0_3 (Γ : Gam) (v0 v1 v2 v3 : V) : Option V :=
 pr (.len true) [v0] fun v4 =>
 pr (.bin (.lss) (.no)) [v1, v4] fun v5 =>
 vif v5 (
 pr .idx [v0, v1] fun v6 =>
 pr (.bin (.eql) (.no)) [v6, (.int .u8 32)] fun v7 =>
 vif v7 (
 pr (.bin (.add) (.no)) [v1, (.int .i64 1)] fun v8 =>
 Γ 11072 3 [v0, v8, v2, v3]) (
 pr .idx [v0, v1] fun v8 =>
 pr (.bin (.eql) (.no)) [v8, (.int .u8 9)] fun v9 =>
 vif v9 (
 pr (.bin (.add) (.no)) [v1, (.int .i64 1)] fun v10 =>
 Γ 11072 3 [v0, v10, v2, v3]) (
 some (.tup [v0, v1, v2, v3])))) (
 some (.tup [v0, v1, v2, v3]))
theorem s.seiche_expr_parser_blanks_h0_3 (e : Ev) (Γ : Gam) (v0 v1 v2 v3 : V) : stp e Γ 11072 3 [v0, v1, v2, v3] = y.seiche_expr_parser_blanks_h0_3 Γ v0 v1 v2 v3 := by kernel_rfl
theorem w.seiche_expr_parser_blanks_h0_3 (e : Ev) (v0 v1 v2 v3 : V) : vl e 11072 3 [v0, v1, v2, v3] = y.seiche_expr_parser_blanks_h0_3 (vl e) v0 v1 v2 v3 := val_of (s.seiche_expr_parser_blanks_h0_3 e _ v0 v1 v2 v3)
noncomputable def y.slices_DeleteFunc_Lstring_string_h0 (Γ : Gam) (v0 v1 v2 : V) : Option V :=
 ch Γ 10800 [v0, v1, v2] fun v4 =>
 pr (.ext 0) [v4] fun v5 =>
 pr (.ext 1) [v4] fun v6 =>
 pr (.ext 2) [v4] fun v7 =>
 pr (.bin (.eql) (.no)) [v5, (.int .i64 (-1))] fun v8 =>
 vif v8 (
 some (.tup [v0, v6, v7])) (
 pr (.bin (.add) (.no)) [v5, (.int .i64 1)] fun v9 =>
 Γ 10432 18 [v0, v5, v9, v6, v7])
theorem s.slices_DeleteFunc_Lstring_string_h0 (e : Ev) (Γ : Gam) (v0 v1 v2 : V) : stp e Γ 10432 1 [v0, v1, v2] = y.slices_DeleteFunc_Lstring_string_h0 Γ v0 v1 v2 := by kernel_rfl
theorem w.slices_DeleteFunc_Lstring_string_h0 (e : Ev) (v0 v1 v2 : V) : vl e 10432 1 [v0, v1, v2] = y.slices_DeleteFunc_Lstring_string_h0 (vl e) v0 v1 v2 := val_of (s.slices_DeleteFunc_Lstring_string_h0 e _ v0 v1 v2)
noncomputable def y.slices_DeleteFunc_Lstring_string_h0_18 (Γ : Gam) (v0 v1 v2 v3 v4 : V) : Option V :=
 pr (.bin (.lss) (.no)) [v2, v0] fun v5 =>
 vif v5 (
 pr .chkd [v0, v2] fun v6 =>
 pr (.ldd none 0 1) [v3, v6] fun v7 =>
 ch Γ 10464 [v7, v4] fun v8 =>
 pr (.ext 0) [v8] fun v9 =>
 pr (.ext 1) [v8] fun v10 =>
 pr (.un (.not)) [v9] fun v11 =>
 vif v11 (
 pr .chkd [v0, v1] fun v12 =>
 pr (.std 1 0 1) [v3, v12, v7] fun v13 =>
 pr (.bin (.add) (.no)) [v1, (.int .i64 1)] fun v14 =>
 pr (.bin (.add) (.no)) [v2, (.int .i64 1)] fun v15 =>
 Γ 10432 18 [v0, v14, v15, v13, v10]) (
 pr (.bin (.add) (.no)) [v2, (.int .i64 1)] fun v12 =>
 Γ 10432 18 [v0, v1, v12, v3, v10])) (
 pr .chkd [v0, v1] fun v6 =>
 pr (.clrx (.str [])) [v3, v0, v6] fun v7 =>
 pr .chkl [v0, v1] fun v8 =>
 some (.tup [v8, v7, v4]))
theorem s.slices_DeleteFunc_Lstring_string_h0_18 (e : Ev) (Γ : Gam) (v0 v1 v2 v3 v4 : V) : stp e Γ 10432 18 [v0, v1, v2, v3, v4] = y.slices_DeleteFunc_Lstring_string_h0_18 Γ v0 v1 v2 v3 v4 := by kernel_rfl
theorem w.slices_DeleteFunc_Lstring_string_h0_18 (e : Ev) (v0 v1 v2 v3 v4 : V) : vl e 10432 18 [v0, v1, v2, v3, v4] = y.slices_DeleteFunc_Lstring_string_h0_18 (vl e) v0 v1 v2 v3 v4 := val_of (s.slices_DeleteFunc_Lstring_string_h0_18 e _ v0 v1 v2 v3 v4)
noncomputable def y.seiche_seicheref13_Read_Part_h0 (Γ : Gam) (v0 v1 v2 : V) : Option V :=
 ch Γ 11584 [(.str [40]), v0, v1, v2] fun v3 =>
 pr (.ext 0) [v3] fun v4 =>
 pr (.ext 1) [v3] fun v5 =>
 pr (.ext 2) [v3] fun v6 =>
 pr (.ext 3) [v3] fun v7 =>
 vif v4 (
 pr (.bin (.add) (.no)) [v7, (.int .i64 1)] fun v8 =>
 pr (.bin (.gtr) (.no)) [v8, (.int .i64 64)] fun v9 =>
 vif v9 (
 some (.tup [(.int .i64 8), v5, v6, v8])) (
 ch Γ 11216 [v5, v6, v8] fun v10 =>
 pr (.ext 0) [v10] fun v11 =>
 pr (.ext 1) [v10] fun v12 =>
 pr (.ext 2) [v10] fun v13 =>
 pr (.ext 3) [v10] fun v14 =>
 pr (.bin (.neq) (.no)) [v11, (.int .i64 0)] fun v15 =>
 vif v15 (
 some (.tup [v11, v12, v13, v14])) (
 pr (.bin (.sub) (.no)) [v14, (.int .i64 1)] fun v16 =>
 ch Γ 11584 [(.str [41]), v12, v13, v16] fun v17 =>
 pr (.ext 0) [v17] fun v18 =>
 pr (.ext 1) [v17] fun v19 =>
 pr (.ext 2) [v17] fun v20 =>
 pr (.ext 3) [v17] fun v21 =>
 pr (.un (.not)) [v18] fun v22 =>
 vif v22 (
 some (.tup [(.int .i64 4), v19, v20, v21])) (
 some (.tup [(.int .i64 0), v19, v20, v21]))))) (
 pr (.len false) [v5] fun v8 =>
 pr (.bin (.eql) (.no)) [v8, (.int .i64 0)] fun v9 =>
 vif v9 (
 some (.tup [(.int .i64 4), v5, v6, v7])) (
 pr (.elem 1) [v5, (.int .i64 0)] fun v10 =>
 pr (.ld none 0) [v10] fun v11 =>
 ca Γ 54 [v11] fun v12 =>
 pr (.un (.not)) [v12] fun v13 =>
 vif v13 (
 some (.tup [(.int .i64 4), v5, v6, v7])) (
 pr (.elem 1) [v5, (.int .i64 0)] fun v14 =>
 pr (.ld none 0) [v14] fun v15 =>
 pr (.bsl 1) [v15] fun v16 =>
 pr (.app 1) [v6, v16] fun v17 =>
 pr (.slc 1 true false false) [v5, (.int .i64 1)] fun v18 =>
 some (.tup [(.int .i64 0), v18, v17, v7]))))
theorem s.seiche_seicheref13_Read_Part_h0 (e : Ev) (Γ : Gam) (v0 v1 v2 : V) : stp e Γ 12144 1 [v0, v1, v2] = y.seiche_seicheref13_Read_Part_h0 Γ v0 v1 v2 := by kernel_rfl
theorem w.seiche_seicheref13_Read_Part_h0 (e : Ev) (v0 v1 v2 : V) : vl e 12144 1 [v0, v1, v2] = y.seiche_seicheref13_Read_Part_h0 (vl e) v0 v1 v2 := val_of (s.seiche_seicheref13_Read_Part_h0 e _ v0 v1 v2)
noncomputable def y.slices_IndexFunc_Lstring_string_h0 (Γ : Gam) (v0 v1 v2 : V) : Option V :=
 Γ 10800 8 [v0, v0, (.int .i64 0), v1, v2]
theorem s.slices_IndexFunc_Lstring_string_h0 (e : Ev) (Γ : Gam) (v0 v1 v2 : V) : stp e Γ 10800 1 [v0, v1, v2] = y.slices_IndexFunc_Lstring_string_h0 Γ v0 v1 v2 := by kernel_rfl
theorem w.slices_IndexFunc_Lstring_string_h0 (e : Ev) (v0 v1 v2 : V) : vl e 10800 1 [v0, v1, v2] = y.slices_IndexFunc_Lstring_string_h0 (vl e) v0 v1 v2 := val_of (s.slices_IndexFunc_Lstring_string_h0 e _ v0 v1 v2)
noncomputable def y.slices_IndexFunc_Lstring_string_h0_8 (Γ : Gam) (v0 v1 v2 v3 v4 : V) : Option V :=
 pr (.bin (.lss) (.no)) [v2, v1] fun v5 =>
 vif v5 (
 pr .chkd [v0, v2] fun v6 =>
 pr (.ldd none 0 1) [v3, v6] fun v7 =>
 ch Γ 10464 [v7, v4] fun v8 =>
 pr (.ext 0) [v8] fun v9 =>
 pr (.ext 1) [v8] fun v10 =>
 vif v9 (
 some (.tup [v2, v3, v10])) (
 pr (.bin (.add) (.no)) [v2, (.int .i64 1)] fun v11 =>
 Γ 10800 8 [v0, v1, v11, v3, v10])) (
 some (.tup [(.int .i64 (-1)), v3, v4]))
theorem s.slices_IndexFunc_Lstring_string_h0_8 (e : Ev) (Γ : Gam) (v0 v1 v2 v3 v4 : V) : stp e Γ 10800 8 [v0, v1, v2, v3, v4] = y.slices_IndexFunc_Lstring_string_h0_8 Γ v0 v1 v2 v3 v4 := by kernel_rfl
theorem w.slices_IndexFunc_Lstring_string_h0_8 (e : Ev) (v0 v1 v2 v3 v4 : V) : vl e 10800 8 [v0, v1, v2, v3, v4] = y.slices_IndexFunc_Lstring_string_h0_8 (vl e) v0 v1 v2 v3 v4 := val_of (s.slices_IndexFunc_Lstring_string_h0_8 e _ v0 v1 v2 v3 v4)
noncomputable def y.cond_Holds_1_h0 (Γ : Gam) (v0 v1 : V) : Option V :=
 pr (.ld (some 5) 0) [v1] fun v2 =>
 ca Γ 11 [v2, v0] fun v3 =>
 pr (.un (.not)) [v3] fun v4 =>
 some (.tup [v4, v1])
theorem s.cond_Holds_1_h0 (e : Ev) (Γ : Gam) (v0 v1 : V) : stp e Γ 10464 1 [v0, v1] = y.cond_Holds_1_h0 Γ v0 v1 := by kernel_rfl
theorem w.cond_Holds_1_h0 (e : Ev) (v0 v1 : V) : vl e 10464 1 [v0, v1] = y.cond_Holds_1_h0 (vl e) v0 v1 := val_of (s.cond_Holds_1_h0 e _ v0 v1)
noncomputable def y.seiche_expr_parser_part_h0 (Γ : Gam) (v0 v1 v2 v3 : V) : Option V :=
 ch Γ 11728 [(.str [40]), v0, v1, v2, v3] fun v4 =>
 pr (.ext 0) [v4] fun v5 =>
 pr (.ext 1) [v4] fun v6 =>
 pr (.ext 2) [v4] fun v7 =>
 pr (.ext 3) [v4] fun v8 =>
 pr (.ext 4) [v4] fun v9 =>
 vif v5 (
 pr (.bin (.add) (.no)) [v9, (.int .i64 1)] fun v10 =>
 pr (.bin (.gtr) (.no)) [v10, (.int .i64 64)] fun v11 =>
 vif v11 (
 some (.tup [(.int .i64 8), v6, v7, v8, v10])) (
 ch Γ 11056 [v6, v7, v8, v10] fun v12 =>
 pr (.ext 0) [v12] fun v13 =>
 pr (.ext 1) [v12] fun v14 =>
 pr (.ext 2) [v12] fun v15 =>
 pr (.ext 3) [v12] fun v16 =>
 pr (.ext 4) [v12] fun v17 =>
 pr (.bin (.neq) (.no)) [v13, (.int .i64 0)] fun v18 =>
 vif v18 (
 some (.tup [v13, v14, v15, v16, v17])) (
 pr (.bin (.sub) (.no)) [v17, (.int .i64 1)] fun v19 =>
 ch Γ 11728 [(.str [41]), v14, v15, v16, v19] fun v20 =>
 pr (.ext 0) [v20] fun v21 =>
 pr (.ext 1) [v20] fun v22 =>
 pr (.ext 2) [v20] fun v23 =>
 pr (.ext 3) [v20] fun v24 =>
 pr (.ext 4) [v20] fun v25 =>
 pr (.un (.not)) [v21] fun v26 =>
 vif v26 (
 some (.tup [(.int .i64 4), v22, v23, v24, v25])) (
 some (.tup [(.int .i64 0), v22, v23, v24, v25]))))) (
 ch Γ 11072 [v6, v7, v8, v9] fun v10 =>
 pr (.ext 0) [v10] fun v11 =>
 pr (.ext 1) [v10] fun v12 =>
 pr (.ext 2) [v10] fun v13 =>
 pr (.ext 3) [v10] fun v14 =>
 Γ 12016 48 [v12, v11, v12, v13, v14])
theorem s.seiche_expr_parser_part_h0 (e : Ev) (Γ : Gam) (v0 v1 v2 v3 : V) : stp e Γ 12016 1 [v0, v1, v2, v3] = y.seiche_expr_parser_part_h0 Γ v0 v1 v2 v3 := by kernel_rfl
theorem w.seiche_expr_parser_part_h0 (e : Ev) (v0 v1 v2 v3 : V) : vl e 12016 1 [v0, v1, v2, v3] = y.seiche_expr_parser_part_h0 (vl e) v0 v1 v2 v3 := val_of (s.seiche_expr_parser_part_h0 e _ v0 v1 v2 v3)
noncomputable def y.seiche_expr_parser_part_h0_48 (Γ : Gam) (v0 v1 v2 v3 v4 : V) : Option V :=
 pr (.len true) [v1] fun v5 =>
 pr (.bin (.lss) (.no)) [v2, v5] fun v6 =>
 vif v6 (
 pr .idx [v1, v2] fun v7 =>
 ca Γ 74 [v7] fun v8 =>
 vif v8 (
 pr (.bin (.add) (.no)) [v2, (.int .i64 1)] fun v9 =>
 Γ 12016 48 [v0, v1, v9, v3, v4]) (
 pr (.bin (.eql) (.no)) [v2, v0] fun v9 =>
 vif v9 (
 some (.tup [(.int .i64 4), v1, v2, v3, v4])) (
 pr (.sls true true) [v1, v0, v2] fun v10 =>
 pr (.bsl 1) [v10] fun v11 =>
 pr (.app 1) [v3, v11] fun v12 =>
 some (.tup [(.int .i64 0), v1, v2, v12, v4])))) (
 pr (.bin (.eql) (.no)) [v2, v0] fun v7 =>
 vif v7 (
 some (.tup [(.int .i64 4), v1, v2, v3, v4])) (
 pr (.sls true true) [v1, v0, v2] fun v8 =>
 pr (.bsl 1) [v8] fun v9 =>
 pr (.app 1) [v3, v9] fun v10 =>
 some (.tup [(.int .i64 0), v1, v2, v10, v4])))
theorem s.seiche_expr_parser_part_h0_48 (e : Ev) (Γ : Gam) (v0 v1 v2 v3 v4 : V) : stp e Γ 12016 48 [v0, v1, v2, v3, v4] = y.seiche_expr_parser_part_h0_48 Γ v0 v1 v2 v3 v4 := by kernel_rfl
theorem w.seiche_expr_parser_part_h0_48 (e : Ev) (v0 v1 v2 v3 v4 : V) : vl e 12016 48 [v0, v1, v2, v3, v4] = y.seiche_expr_parser_part_h0_48 (vl e) v0 v1 v2 v3 v4 := val_of (s.seiche_expr_parser_part_h0_48 e _ v0 v1 v2 v3 v4)
end Go.Proofs.YtanocopjancaiaaGreatDoor

namespace Go.Proofs.YtanocopjancaiaaGreatDoor
open Go.Abs
theorem next64 {i n : Nat} (h : i < n) (hn : n <= 1152921504606846976) : IntKind.i64.wrap ((i : Int) + 1) = ((i + 1 : Nat) : Int) := w64 _ (by omega)
theorem v_s2b {x : Bytes} : evp .s2b [.str x] = some (.sl false 1 (encB x)) := rfl
theorem v_ld0 {x : V} (h : x.sc = true) : evp (.ld none 0) [x] = some x := by cases x <;> first | rfl | cases h
theorem encB_get (x : Bytes) (i : Nat) : (encB x)[i]? = (x[i]?).map byteV := by simp [encB]
theorem encB_len (x : Bytes) : (encB x).length = x.length := by simp [encB]
abbrev I (n : Int) : V := .int .i64 n
abbrev strs (l : List Bytes) : V := .sl false 1 (l.map .str)
theorem v_push {l : List Bytes} {x : Bytes} (h : l.length + 1 <= Lim) : evp (.app 1) [strs l, .sl false 1 [.str x]] = some (strs (l ++ [x])) := by
  rw [strs, v_app (by simpa using h)]; simp
theorem v_bsl1 {x : Bytes} : evp (.bsl 1) [.str x] = some (.sl false 1 [.str x]) := rfl
theorem v_get {l : List Bytes} {i : Nat} (h : i < l.length) : evp (.elem 1) [strs l, .int .i64 i] = some (.str l[i]) := v_elem (by simp [h])
theorem v_get0 {x : Bytes} {l : List Bytes} : evp (.elem 1) [strs (x :: l), .int .i64 0] = some (.str x) := v_elem (i := 0) rfl
theorem v_lds {x : Bytes} : evp (.ld none 0) [.str x] = some (.str x) := rfl
theorem v_lenS {l : List Bytes} : evp (.len false) [strs l] = some (.int .i64 l.length) := by rw [strs, v_len, List.length_map]
theorem bind_eq {o : Option V} {v : V} {k : V -> Option V} {R : Option V} (h : o = some v) (hk : k v = R) : o.bind k = R := by rw [h]; exact hk
theorem v_mul {k : IntKind} {a b : Int} : evp (.bin .mul .no) [.int k a, .int k b] = some (.int k (k.wrap (a * b))) := by simp [evp, abin, aint]
abbrev bsl (l : Bytes) : V := .sl false 1 (l.map byteV)
end Go.Proofs.YtanocopjancaiaaGreatDoor
namespace Go.Proofs.YtanocopjancaiaaGreatDoor
open Go.Abs Go.RowKit
noncomputable def cxD (w : World) : Cx := ⟨Tryz.prog, w, fun _ => none⟩
theorem mixed : Tryz.prog.follows .mixedOrders = true := by kernel_rfl
def HasMax (w : World) : Prop := ∃ m, w.cell? ⟨6, 0, none⟩ = some (.int .i64 m)
structure EnvOK (w : World) : Prop where
  max : HasMax w
end Go.Proofs.YtanocopjancaiaaGreatDoor
namespace Go.Proofs
open Go.Shelf
def Tryz.lays156_ren : Go.Shelf.Ren := ⟨fun | 156 => 93 | 165 => 114 | 166 => 115 | 169 => 116 | 240 => 132 | 241 => 133 | 276 => 139 | 277 => 140 | n => n, fun | 31 => 22 | 9 => 9 | 3 => 3 | 4 => 4 | 0 => 0 | 20 => 20 | 72 => 128 | 76 => 69 | 70 => 126 | 37 => 37 | 75 => 68 | 127 => 135 | 164 => 153 | 5 => 5 | 80 => 130 | n => n, fun | n => n⟩
theorem Tryz.lays156 : Go.Proofs.Lays.n156 Tryz.prog Tryz.lays156_ren := {
  mixed := by kernel_rfl
  f156 := Tryz.func93.trans (congrArg some (by kernel_rfl))
  f165 := Tryz.func114.trans (congrArg some (by kernel_rfl))
  f166 := Tryz.func115.trans (congrArg some (by kernel_rfl))
  f169 := Tryz.func116.trans (congrArg some (by kernel_rfl))
  f240 := Tryz.func132.trans (congrArg some (by kernel_rfl))
  f241 := Tryz.func133.trans (congrArg some (by kernel_rfl))
  f276 := Tryz.func139.trans (congrArg some (by kernel_rfl))
  f277 := Tryz.func140.trans (congrArg some (by kernel_rfl))
  t0 := Tryz.underlying0
  a0 := Tryz.isAgg0
  z0 := Tryz.sizeOf0
  v0 := Tryz.zeroValue0
  t3 := Tryz.underlying3
  a3 := Tryz.isAgg3
  z3 := Tryz.sizeOf3
  v3 := Tryz.zeroValue3
  t4 := Tryz.underlying4
  a4 := Tryz.isAgg4
  z4 := Tryz.sizeOf4
  v4 := Tryz.zeroValue4
  t9 := Tryz.underlying9
  a9 := Tryz.isAgg9
  z9 := Tryz.sizeOf9
  v9 := Tryz.zeroValue9
  t20 := Tryz.underlying20
  a20 := Tryz.isAgg20
  z20 := Tryz.sizeOf20
  v20 := Tryz.zeroValue20
  t31 := Tryz.underlying22
  a31 := Tryz.isAgg22
  z31 := Tryz.sizeOf22
  v31 := Tryz.zeroValue22
  t37 := Tryz.underlying37
  a37 := Tryz.isAgg37
  z37 := Tryz.sizeOf37
  v37 := Tryz.zeroValue37
  t70 := Tryz.underlying126
  a70 := Tryz.isAgg126
  z70 := Tryz.sizeOf126
  v70 := Tryz.zeroValue126
  t72 := Tryz.underlying128
  a72 := Tryz.isAgg128
  z72 := Tryz.sizeOf128
  v72 := Tryz.zeroValue128
  t75 := Tryz.underlying68
  a75 := Tryz.isAgg68
  z75 := Tryz.sizeOf68
  v75 := Tryz.zeroValue68
  t76 := Tryz.underlying69
  a76 := Tryz.isAgg69
  z76 := Tryz.sizeOf69
  v76 := Tryz.zeroValue69
  t127 := Tryz.underlying135
  a127 := Tryz.isAgg135
  z127 := Tryz.sizeOf135
  v127 := Tryz.zeroValue135
  t164 := Tryz.underlying153
  a164 := Tryz.isAgg153
  z164 := Tryz.sizeOf153
  v164 := Tryz.zeroValue153 }
theorem Tryz.Builder_Extra_156 : Builder.Extra Tryz.prog Tryz.lays156_ren := {
  sizeBuilder := by kernel_rfl
  liesBuilder := by kernel_rfl
  t5 := Tryz.underlying5
  a5 := Tryz.isAgg5
  z5 := Tryz.sizeOf5
  v5 := Tryz.zeroValue5
  infoByte := by kernel_rfl
  cellsByte := by kernel_rfl
  sizeByte := by kernel_rfl
  neB5 := by decide }
open Go.RowKit in
theorem Tryz.strings_Join_none (a : Option Addr) (c : Nat) (sep : ByteArray) (w : World) :
    Calls Tryz.prog 93 #[.slice a 0 c, .string sep] w fun e w' => e = .returned (.string ⟨#[]⟩) /\ w' = w := Any.strings_Join_none Tryz.lays156 Tryz.Builder_Extra_156 a c sep w
open Go.RowKit in
theorem Tryz.strings_Join (bk o c : Nat) (xs : List ByteArray) (sep : ByteArray) (w : World) (hcells : ∀ (j : Nat) x, xs[j]? = some x -> w.cell? ⟨bk, o + j, none⟩ = some (.string x)) (hbk : bk < w.heap.size) (hN : xs.length <= 140737488355328) (hcap : xs.length <= c) (hlen : (Lib.join (xs.map (·.data.toList)) sep.data.toList).length <= 140737488355328) :
    Calls Tryz.prog 93 #[.slice (some ⟨bk, o, none⟩) xs.length c, .string sep] w fun e w' => e = .returned (.string ⟨(Lib.join (xs.map (·.data.toList)) sep.data.toList).toArray⟩) /\ Below w.heap.size w w' := Any.strings_Join Tryz.lays156 Tryz.Builder_Extra_156 bk o c xs sep w hcells hbk hN hcap hlen
def Tryz.lays103_ren : Go.Shelf.Ren := ⟨fun | 103 => 39 | 210 => 61 | 206 => 65 | n => n, fun | 9 => 9 | 4 => 4 | 24 => 65 | 3 => 3 | n => n, fun | n => n⟩
theorem Tryz.lays103 : Go.Proofs.Lays.n103 Tryz.prog Tryz.lays103_ren := {
  mixed := by kernel_rfl
  f103 := Tryz.func39.trans (congrArg some (by kernel_rfl))
  f206 := Tryz.func65.trans (congrArg some (by kernel_rfl))
  f210 := Tryz.func61.trans (congrArg some (by kernel_rfl))
  t3 := Tryz.underlying3
  a3 := Tryz.isAgg3
  z3 := Tryz.sizeOf3
  v3 := Tryz.zeroValue3
  t4 := Tryz.underlying4
  a4 := Tryz.isAgg4
  z4 := Tryz.sizeOf4
  v4 := Tryz.zeroValue4
  t9 := Tryz.underlying9
  a9 := Tryz.isAgg9
  z9 := Tryz.sizeOf9
  v9 := Tryz.zeroValue9
  t24 := Tryz.underlying65
  a24 := Tryz.isAgg65
  z24 := Tryz.sizeOf65
  v24 := Tryz.zeroValue65 }
open Go.RowKit in
theorem Tryz.strings_CutPrefix (s p : ByteArray) (w : World) :
    Calls Tryz.prog 39 #[.string s, .string p] w fun e w' => e = .returned (.tuple #[.string ⟨(Lib.trimPrefix s.data.toList p.data.toList).toArray⟩, .bool (Lib.hasPrefix s.data.toList p.data.toList)]) /\ w' = w := Any.strings_CutPrefix Tryz.lays103 s p w
def Tryz.lays104_ren : Go.Shelf.Ren := ⟨fun | 104 => 55 | 211 => 81 | 207 => 59 | n => n, fun | 9 => 9 | 4 => 4 | 24 => 65 | 3 => 3 | n => n, fun | n => n⟩
theorem Tryz.lays104 : Go.Proofs.Lays.n104 Tryz.prog Tryz.lays104_ren := {
  mixed := by kernel_rfl
  f104 := Tryz.func55.trans (congrArg some (by kernel_rfl))
  f207 := Tryz.func59.trans (congrArg some (by kernel_rfl))
  f211 := Tryz.func81.trans (congrArg some (by kernel_rfl))
  t3 := Tryz.underlying3
  a3 := Tryz.isAgg3
  z3 := Tryz.sizeOf3
  v3 := Tryz.zeroValue3
  t4 := Tryz.underlying4
  a4 := Tryz.isAgg4
  z4 := Tryz.sizeOf4
  v4 := Tryz.zeroValue4
  t9 := Tryz.underlying9
  a9 := Tryz.isAgg9
  z9 := Tryz.sizeOf9
  v9 := Tryz.zeroValue9
  t24 := Tryz.underlying65
  a24 := Tryz.isAgg65
  z24 := Tryz.sizeOf65
  v24 := Tryz.zeroValue65 }
open Go.RowKit in
theorem Tryz.strings_CutSuffix (s p : ByteArray) (w : World) (hs : s.size <= 9223372036854775807) :
    Calls Tryz.prog 55 #[.string s, .string p] w fun e w' => e = .returned (.tuple #[.string ⟨(Lib.trimSuffix s.data.toList p.data.toList).toArray⟩, .bool (Lib.hasSuffix s.data.toList p.data.toList)]) /\ w' = w := Any.strings_CutSuffix Tryz.lays104 s p w hs
def Tryz.lays172_ren : Go.Shelf.Ren := ⟨fun | 172 => 40 | 244 => 62 | 245 => 63 | 247 => 82 | 279 => 83 | 280 => 84 | 281 => 85 | 282 => 86 | 287 => 101 | 316 => 102 | 171 => 41 | 205 => 103 | 321 => 119 | 322 => 120 | 243 => 64 | 246 => 87 | 283 => 104 | 284 => 105 | 285 => 106 | 286 => 107 | 129 => 122 | 317 => 121 | 318 => 123 | 319 => 124 | 320 => 125 | 337 => 135 | 338 => 136 | n => n, fun | 9 => 9 | 3 => 3 | 75 => 68 | 76 => 69 | 4 => 4 | 5 => 5 | 167 => 97 | 37 => 37 | 0 => 0 | 85 => 98 | 2 => 2 | 168 => 100 | 53 => 112 | 175 => 113 | 46 => 41 | 210 => 116 | 127 => 135 | 145 => 138 | 143 => 136 | 21 => 21 | 171 => 118 | 173 => 121 | 212 => 141 | 51 => 142 | 20 => 20 | 213 => 143 | 232 => 156 | 233 => 157 | 80 => 130 | n => n, fun | 15 => 3 | 16 => 4 | 17 => 5 | 18 => 9 | 19 => 10 | n => n⟩
theorem Tryz.lays172 : Go.Proofs.Lays.n172 Tryz.prog Tryz.lays172_ren := {
  mixed := by kernel_rfl
  f129 := Tryz.func122.trans (congrArg some (by kernel_rfl))
  f171 := Tryz.func41.trans (congrArg some (by kernel_rfl))
  f172 := Tryz.func40.trans (congrArg some (by kernel_rfl))
  f205 := Tryz.func103.trans (congrArg some (by kernel_rfl))
  f243 := Tryz.func64.trans (congrArg some (by kernel_rfl))
  f244 := Tryz.func62.trans (congrArg some (by kernel_rfl))
  f245 := Tryz.func63.trans (congrArg some (by kernel_rfl))
  f246 := Tryz.func87.trans (congrArg some (by kernel_rfl))
  f247 := Tryz.func82.trans (congrArg some (by kernel_rfl))
  f279 := Tryz.func83.trans (congrArg some (by kernel_rfl))
  f280 := Tryz.func84.trans (congrArg some (by kernel_rfl))
  f281 := Tryz.func85.trans (congrArg some (by kernel_rfl))
  f282 := Tryz.func86.trans (congrArg some (by kernel_rfl))
  f283 := Tryz.func104.trans (congrArg some (by kernel_rfl))
  f284 := Tryz.func105.trans (congrArg some (by kernel_rfl))
  f285 := Tryz.func106.trans (congrArg some (by kernel_rfl))
  f286 := Tryz.func107.trans (congrArg some (by kernel_rfl))
  f287 := Tryz.func101.trans (congrArg some (by kernel_rfl))
  f316 := Tryz.func102.trans (congrArg some (by kernel_rfl))
  f317 := Tryz.func121.trans (congrArg some (by kernel_rfl))
  f318 := Tryz.func123.trans (congrArg some (by kernel_rfl))
  f319 := Tryz.func124.trans (congrArg some (by kernel_rfl))
  f320 := Tryz.func125.trans (congrArg some (by kernel_rfl))
  f321 := Tryz.func119.trans (congrArg some (by kernel_rfl))
  f322 := Tryz.func120.trans (congrArg some (by kernel_rfl))
  f337 := Tryz.func135.trans (congrArg some (by kernel_rfl))
  f338 := Tryz.func136.trans (congrArg some (by kernel_rfl))
  t0 := Tryz.underlying0
  a0 := Tryz.isAgg0
  z0 := Tryz.sizeOf0
  v0 := Tryz.zeroValue0
  t2 := Tryz.underlying2
  a2 := Tryz.isAgg2
  z2 := Tryz.sizeOf2
  v2 := Tryz.zeroValue2
  t3 := Tryz.underlying3
  a3 := Tryz.isAgg3
  z3 := Tryz.sizeOf3
  v3 := Tryz.zeroValue3
  t4 := Tryz.underlying4
  a4 := Tryz.isAgg4
  z4 := Tryz.sizeOf4
  v4 := Tryz.zeroValue4
  t5 := Tryz.underlying5
  a5 := Tryz.isAgg5
  z5 := Tryz.sizeOf5
  v5 := Tryz.zeroValue5
  t9 := Tryz.underlying9
  a9 := Tryz.isAgg9
  z9 := Tryz.sizeOf9
  v9 := Tryz.zeroValue9
  t20 := Tryz.underlying20
  a20 := Tryz.isAgg20
  z20 := Tryz.sizeOf20
  v20 := Tryz.zeroValue20
  t21 := Tryz.underlying21
  a21 := Tryz.isAgg21
  z21 := Tryz.sizeOf21
  v21 := Tryz.zeroValue21
  t37 := Tryz.underlying37
  a37 := Tryz.isAgg37
  z37 := Tryz.sizeOf37
  v37 := Tryz.zeroValue37
  t46 := Tryz.underlying41
  a46 := Tryz.isAgg41
  z46 := Tryz.sizeOf41
  v46 := Tryz.zeroValue41
  t51 := Tryz.underlying142
  a51 := Tryz.isAgg142
  z51 := Tryz.sizeOf142
  v51 := Tryz.zeroValue142
  t53 := Tryz.underlying112
  a53 := Tryz.isAgg112
  z53 := Tryz.sizeOf112
  v53 := Tryz.zeroValue112
  t75 := Tryz.underlying68
  a75 := Tryz.isAgg68
  z75 := Tryz.sizeOf68
  v75 := Tryz.zeroValue68
  t76 := Tryz.underlying69
  a76 := Tryz.isAgg69
  z76 := Tryz.sizeOf69
  v76 := Tryz.zeroValue69
  t85 := Tryz.underlying98
  a85 := Tryz.isAgg98
  z85 := Tryz.sizeOf98
  v85 := Tryz.zeroValue98
  t127 := Tryz.underlying135
  a127 := Tryz.isAgg135
  z127 := Tryz.sizeOf135
  v127 := Tryz.zeroValue135
  t143 := Tryz.underlying136
  a143 := Tryz.isAgg136
  z143 := Tryz.sizeOf136
  v143 := Tryz.zeroValue136
  t145 := Tryz.underlying138
  a145 := Tryz.isAgg138
  z145 := Tryz.sizeOf138
  v145 := Tryz.zeroValue138
  t167 := Tryz.underlying97
  a167 := Tryz.isAgg97
  z167 := Tryz.sizeOf97
  v167 := Tryz.zeroValue97
  t168 := Tryz.underlying100
  a168 := Tryz.isAgg100
  z168 := Tryz.sizeOf100
  v168 := Tryz.zeroValue100
  t171 := Tryz.underlying118
  a171 := Tryz.isAgg118
  z171 := Tryz.sizeOf118
  v171 := Tryz.zeroValue118
  t173 := Tryz.underlying121
  a173 := Tryz.isAgg121
  z173 := Tryz.sizeOf121
  v173 := Tryz.zeroValue121
  t175 := Tryz.underlying113
  a175 := Tryz.isAgg113
  z175 := Tryz.sizeOf113
  v175 := Tryz.zeroValue113
  t210 := Tryz.underlying116
  a210 := Tryz.isAgg116
  z210 := Tryz.sizeOf116
  v210 := Tryz.zeroValue116
  t212 := Tryz.underlying141
  a212 := Tryz.isAgg141
  z212 := Tryz.sizeOf141
  v212 := Tryz.zeroValue141
  t213 := Tryz.underlying143
  a213 := Tryz.isAgg143
  z213 := Tryz.sizeOf143
  t232 := Tryz.underlying156
  a232 := Tryz.isAgg156
  z232 := Tryz.sizeOf156
  v232 := Tryz.zeroValue156
  t233 := Tryz.underlying157
  a233 := Tryz.isAgg157
  z233 := Tryz.sizeOf157
  v233 := Tryz.zeroValue157
  g15 := by kernel_rfl
  g16 := by kernel_rfl
  g17 := by kernel_rfl
  g18 := by kernel_rfl
  g19 := by kernel_rfl }
open Go.RowKit in
theorem Tryz.strconv_Atoi (s : ByteArray) (n : Int) (hl : s.size <= 18) (h : Lib.atoi s.data.toList = some n) (w : World) :
    Calls Tryz.prog 40 #[.string s] w fun e w' => e = .returned (.tuple #[.int .i64 n, .nilIface]) /\ ∃ t, w' = Lib.bytesWorld w 5 t := Any.strconv_Atoi Tryz.lays172 s n hl h w
def Tryz.laysM171_ren : Go.Shelf.Ren := ⟨fun | 171 => 41 | 243 => 64 | 246 => 87 | 283 => 104 | 284 => 105 | 285 => 106 | 286 => 107 | 129 => 122 | 317 => 121 | 318 => 123 | 319 => 124 | 320 => 125 | 337 => 135 | 338 => 136 | n => n, fun | 3 => 3 | 9 => 9 | 2 => 2 | 4 => 4 | 171 => 118 | 0 => 0 | 53 => 112 | 37 => 37 | 5 => 5 | 173 => 121 | 212 => 141 | 51 => 142 | 20 => 20 | 213 => 143 | 46 => 41 | 232 => 156 | 233 => 157 | n => n, fun | 17 => 5 | 18 => 9 | 19 => 10 | n => n⟩
theorem Tryz.laysM171 : Go.Proofs.LaysM.n171 Tryz.prog Tryz.laysM171_ren := {
  mixed := by kernel_rfl
  f129 := Tryz.func122.trans (congrArg some (by kernel_rfl))
  f171 := Tryz.func41.trans (congrArg some (by kernel_rfl))
  f243 := Tryz.func64.trans (congrArg some (by kernel_rfl))
  f246 := Tryz.func87.trans (congrArg some (by kernel_rfl))
  f283 := Tryz.func104.trans (congrArg some (by kernel_rfl))
  f284 := Tryz.func105.trans (congrArg some (by kernel_rfl))
  f285 := Tryz.func106.trans (congrArg some (by kernel_rfl))
  f286 := Tryz.func107.trans (congrArg some (by kernel_rfl))
  f317 := Tryz.func121.trans (congrArg some (by kernel_rfl))
  f318 := Tryz.func123.trans (congrArg some (by kernel_rfl))
  f319 := Tryz.func124.trans (congrArg some (by kernel_rfl))
  f320 := Tryz.func125.trans (congrArg some (by kernel_rfl))
  f337 := Tryz.func135.trans (congrArg some (by kernel_rfl))
  f338 := Tryz.func136.trans (congrArg some (by kernel_rfl))
  t0 := Tryz.underlying0
  a0 := Tryz.isAgg0
  z0 := Tryz.sizeOf0
  v0 := Tryz.zeroValue0
  t2 := Tryz.underlying2
  a2 := Tryz.isAgg2
  z2 := Tryz.sizeOf2
  v2 := Tryz.zeroValue2
  t3 := Tryz.underlying3
  a3 := Tryz.isAgg3
  z3 := Tryz.sizeOf3
  v3 := Tryz.zeroValue3
  t4 := Tryz.underlying4
  a4 := Tryz.isAgg4
  z4 := Tryz.sizeOf4
  v4 := Tryz.zeroValue4
  t5 := Tryz.underlying5
  a5 := Tryz.isAgg5
  z5 := Tryz.sizeOf5
  v5 := Tryz.zeroValue5
  t9 := Tryz.underlying9
  a9 := Tryz.isAgg9
  z9 := Tryz.sizeOf9
  v9 := Tryz.zeroValue9
  t20 := Tryz.underlying20
  a20 := Tryz.isAgg20
  z20 := Tryz.sizeOf20
  v20 := Tryz.zeroValue20
  t37 := Tryz.underlying37
  a37 := Tryz.isAgg37
  z37 := Tryz.sizeOf37
  v37 := Tryz.zeroValue37
  t46 := Tryz.underlying41
  a46 := Tryz.isAgg41
  z46 := Tryz.sizeOf41
  v46 := Tryz.zeroValue41
  t51 := Tryz.underlying142
  a51 := Tryz.isAgg142
  z51 := Tryz.sizeOf142
  v51 := Tryz.zeroValue142
  t53 := Tryz.underlying112
  a53 := Tryz.isAgg112
  z53 := Tryz.sizeOf112
  v53 := Tryz.zeroValue112
  t171 := Tryz.underlying118
  a171 := Tryz.isAgg118
  z171 := Tryz.sizeOf118
  v171 := Tryz.zeroValue118
  t173 := Tryz.underlying121
  a173 := Tryz.isAgg121
  z173 := Tryz.sizeOf121
  v173 := Tryz.zeroValue121
  t212 := Tryz.underlying141
  a212 := Tryz.isAgg141
  z212 := Tryz.sizeOf141
  v212 := Tryz.zeroValue141
  t213 := Tryz.underlying143
  a213 := Tryz.isAgg143
  z213 := Tryz.sizeOf143
  t232 := Tryz.underlying156
  a232 := Tryz.isAgg156
  z232 := Tryz.sizeOf156
  v232 := Tryz.zeroValue156
  t233 := Tryz.underlying157
  a233 := Tryz.isAgg157
  z233 := Tryz.sizeOf157
  v233 := Tryz.zeroValue157
  g17 := by kernel_rfl
  g18 := by kernel_rfl
  g19 := by kernel_rfl
  i0 := by kernel_rfl
  i2 := by kernel_rfl
  i3 := by kernel_rfl
  i4 := by kernel_rfl
  i5 := by kernel_rfl
  i9 := by kernel_rfl
  i20 := by kernel_rfl
  i37 := by kernel_rfl
  i46 := by kernel_rfl
  i51 := by kernel_rfl
  i53 := by kernel_rfl
  i171 := by kernel_rfl
  i173 := by kernel_rfl
  i212 := by kernel_rfl
  i232 := by kernel_rfl
  i233 := by kernel_rfl
  m17 := by kernel_rfl
  m18 := by kernel_rfl
  m19 := by kernel_rfl }
open Go.RowKit Go.Sort Go.Lib in
theorem Tryz.strconv_Itoa (n : Int) (h0 : -9223372036854775808 ≤ n) (h1 : n ≤ 9223372036854775807) (w : World) (htab : Lib.TabIs Tryz.prog w "internal/strconv.uint64pow10" .u64 Lib.pow10Tab) :
    Calls Tryz.prog 41 #[.int .i64 n] w fun e w' => e = .returned (.string ⟨(Lib.itoa n).toArray⟩) /\ ∃ k os, w' = grow (w.drewN k) os := Any.strconv_Itoa Tryz.laysM171 n h0 h1 w htab
def Tryz.laysC172_ren : Go.Shelf.Ren := ⟨fun | 172 => 40 | 244 => 62 | 245 => 63 | 247 => 82 | 279 => 83 | 280 => 84 | 281 => 85 | 282 => 86 | 287 => 101 | 316 => 102 | 171 => 41 | 205 => 103 | 321 => 119 | 322 => 120 | 243 => 64 | 246 => 87 | 283 => 104 | 284 => 105 | 285 => 106 | 286 => 107 | 129 => 122 | 317 => 121 | 318 => 123 | 319 => 124 | 320 => 125 | 337 => 135 | 338 => 136 | n => n, fun | 9 => 9 | 3 => 3 | 75 => 68 | 76 => 69 | 4 => 4 | 5 => 5 | 167 => 97 | 37 => 37 | 0 => 0 | 85 => 98 | 2 => 2 | 168 => 100 | 53 => 112 | 175 => 113 | 46 => 41 | 210 => 116 | 127 => 135 | 145 => 138 | 143 => 136 | 21 => 21 | 171 => 118 | 173 => 121 | 212 => 141 | 51 => 142 | 20 => 20 | 213 => 143 | 232 => 156 | 233 => 157 | 80 => 130 | n => n, fun | 15 => 3 | 16 => 4 | 17 => 5 | 18 => 9 | 19 => 10 | n => n⟩
theorem Tryz.laysC172 : Go.Proofs.LaysC.n172 Tryz.prog Tryz.laysC172_ren := {
  mixed := by kernel_rfl
  f129 := Tryz.func122.trans (congrArg some (by kernel_rfl))
  f171 := Tryz.func41.trans (congrArg some (by kernel_rfl))
  f172 := Tryz.func40.trans (congrArg some (by kernel_rfl))
  f205 := Tryz.func103.trans (congrArg some (by kernel_rfl))
  f243 := Tryz.func64.trans (congrArg some (by kernel_rfl))
  f244 := Tryz.func62.trans (congrArg some (by kernel_rfl))
  f245 := Tryz.func63.trans (congrArg some (by kernel_rfl))
  f246 := Tryz.func87.trans (congrArg some (by kernel_rfl))
  f247 := Tryz.func82.trans (congrArg some (by kernel_rfl))
  f279 := Tryz.func83.trans (congrArg some (by kernel_rfl))
  f280 := Tryz.func84.trans (congrArg some (by kernel_rfl))
  f281 := Tryz.func85.trans (congrArg some (by kernel_rfl))
  f282 := Tryz.func86.trans (congrArg some (by kernel_rfl))
  f283 := Tryz.func104.trans (congrArg some (by kernel_rfl))
  f284 := Tryz.func105.trans (congrArg some (by kernel_rfl))
  f285 := Tryz.func106.trans (congrArg some (by kernel_rfl))
  f286 := Tryz.func107.trans (congrArg some (by kernel_rfl))
  f287 := Tryz.func101.trans (congrArg some (by kernel_rfl))
  f316 := Tryz.func102.trans (congrArg some (by kernel_rfl))
  f317 := Tryz.func121.trans (congrArg some (by kernel_rfl))
  f318 := Tryz.func123.trans (congrArg some (by kernel_rfl))
  f319 := Tryz.func124.trans (congrArg some (by kernel_rfl))
  f320 := Tryz.func125.trans (congrArg some (by kernel_rfl))
  f321 := Tryz.func119.trans (congrArg some (by kernel_rfl))
  f322 := Tryz.func120.trans (congrArg some (by kernel_rfl))
  f337 := Tryz.func135.trans (congrArg some (by kernel_rfl))
  f338 := Tryz.func136.trans (congrArg some (by kernel_rfl))
  t0 := Tryz.underlying0
  a0 := Tryz.isAgg0
  z0 := Tryz.sizeOf0
  v0 := Tryz.zeroValue0
  t2 := Tryz.underlying2
  a2 := Tryz.isAgg2
  z2 := Tryz.sizeOf2
  v2 := Tryz.zeroValue2
  t3 := Tryz.underlying3
  a3 := Tryz.isAgg3
  z3 := Tryz.sizeOf3
  v3 := Tryz.zeroValue3
  t4 := Tryz.underlying4
  a4 := Tryz.isAgg4
  z4 := Tryz.sizeOf4
  v4 := Tryz.zeroValue4
  t5 := Tryz.underlying5
  a5 := Tryz.isAgg5
  z5 := Tryz.sizeOf5
  v5 := Tryz.zeroValue5
  t9 := Tryz.underlying9
  a9 := Tryz.isAgg9
  z9 := Tryz.sizeOf9
  v9 := Tryz.zeroValue9
  t20 := Tryz.underlying20
  a20 := Tryz.isAgg20
  z20 := Tryz.sizeOf20
  v20 := Tryz.zeroValue20
  t21 := Tryz.underlying21
  a21 := Tryz.isAgg21
  z21 := Tryz.sizeOf21
  v21 := Tryz.zeroValue21
  t37 := Tryz.underlying37
  a37 := Tryz.isAgg37
  z37 := Tryz.sizeOf37
  v37 := Tryz.zeroValue37
  t46 := Tryz.underlying41
  a46 := Tryz.isAgg41
  z46 := Tryz.sizeOf41
  v46 := Tryz.zeroValue41
  t51 := Tryz.underlying142
  a51 := Tryz.isAgg142
  z51 := Tryz.sizeOf142
  v51 := Tryz.zeroValue142
  t53 := Tryz.underlying112
  a53 := Tryz.isAgg112
  z53 := Tryz.sizeOf112
  v53 := Tryz.zeroValue112
  t75 := Tryz.underlying68
  a75 := Tryz.isAgg68
  z75 := Tryz.sizeOf68
  v75 := Tryz.zeroValue68
  t76 := Tryz.underlying69
  a76 := Tryz.isAgg69
  z76 := Tryz.sizeOf69
  v76 := Tryz.zeroValue69
  t85 := Tryz.underlying98
  a85 := Tryz.isAgg98
  z85 := Tryz.sizeOf98
  v85 := Tryz.zeroValue98
  t127 := Tryz.underlying135
  a127 := Tryz.isAgg135
  z127 := Tryz.sizeOf135
  v127 := Tryz.zeroValue135
  t143 := Tryz.underlying136
  a143 := Tryz.isAgg136
  z143 := Tryz.sizeOf136
  v143 := Tryz.zeroValue136
  t145 := Tryz.underlying138
  a145 := Tryz.isAgg138
  z145 := Tryz.sizeOf138
  v145 := Tryz.zeroValue138
  t167 := Tryz.underlying97
  a167 := Tryz.isAgg97
  z167 := Tryz.sizeOf97
  v167 := Tryz.zeroValue97
  t168 := Tryz.underlying100
  a168 := Tryz.isAgg100
  z168 := Tryz.sizeOf100
  v168 := Tryz.zeroValue100
  t171 := Tryz.underlying118
  a171 := Tryz.isAgg118
  z171 := Tryz.sizeOf118
  v171 := Tryz.zeroValue118
  t173 := Tryz.underlying121
  a173 := Tryz.isAgg121
  z173 := Tryz.sizeOf121
  v173 := Tryz.zeroValue121
  t175 := Tryz.underlying113
  a175 := Tryz.isAgg113
  z175 := Tryz.sizeOf113
  v175 := Tryz.zeroValue113
  t210 := Tryz.underlying116
  a210 := Tryz.isAgg116
  z210 := Tryz.sizeOf116
  v210 := Tryz.zeroValue116
  t212 := Tryz.underlying141
  a212 := Tryz.isAgg141
  z212 := Tryz.sizeOf141
  v212 := Tryz.zeroValue141
  t213 := Tryz.underlying143
  a213 := Tryz.isAgg143
  z213 := Tryz.sizeOf143
  t232 := Tryz.underlying156
  a232 := Tryz.isAgg156
  z232 := Tryz.sizeOf156
  v232 := Tryz.zeroValue156
  t233 := Tryz.underlying157
  a233 := Tryz.isAgg157
  z233 := Tryz.sizeOf157
  v233 := Tryz.zeroValue157
  g15 := by kernel_rfl
  g16 := by kernel_rfl
  g17 := by kernel_rfl
  g18 := by kernel_rfl
  g19 := by kernel_rfl
  t80 := Tryz.underlying130
  a80 := Tryz.isAgg130
  z80 := Tryz.sizeOf130
  v80 := Tryz.zeroValue130
  i0 := by kernel_rfl
  i2 := by kernel_rfl
  i3 := by kernel_rfl
  i4 := by kernel_rfl
  i5 := by kernel_rfl
  i9 := by kernel_rfl
  i20 := by kernel_rfl
  i21 := by kernel_rfl
  i37 := by kernel_rfl
  i46 := by kernel_rfl
  i51 := by kernel_rfl
  i53 := by kernel_rfl
  i75 := by kernel_rfl
  i76 := by kernel_rfl
  i80 := by kernel_rfl
  i85 := by kernel_rfl
  i127 := by kernel_rfl
  i143 := by kernel_rfl
  i145 := by kernel_rfl
  i167 := by kernel_rfl
  i168 := by kernel_rfl
  i171 := by kernel_rfl
  i173 := by kernel_rfl
  i175 := by kernel_rfl
  i210 := by kernel_rfl
  i212 := by kernel_rfl
  i232 := by kernel_rfl
  i233 := by kernel_rfl
  m15 := by kernel_rfl
  m16 := by kernel_rfl
  m17 := by kernel_rfl
  m18 := by kernel_rfl
  m19 := by kernel_rfl
  c0 := by kernel_rfl
  c2 := by kernel_rfl
  c3 := by kernel_rfl
  c4 := by kernel_rfl
  c5 := by kernel_rfl
  c9 := by kernel_rfl
  c20 := by kernel_rfl
  c21 := by kernel_rfl
  c37 := by kernel_rfl
  c46 := by kernel_rfl
  c51 := by kernel_rfl
  c53 := by kernel_rfl
  c75 := by kernel_rfl
  c76 := by kernel_rfl
  c80 := by kernel_rfl
  c85 := by kernel_rfl
  c127 := by kernel_rfl
  c143 := by kernel_rfl
  c145 := by kernel_rfl
  c167 := by kernel_rfl
  c168 := by kernel_rfl
  c171 := by kernel_rfl
  c173 := by kernel_rfl
  c175 := by kernel_rfl
  c210 := by kernel_rfl
  c212 := by kernel_rfl
  c213 := by kernel_rfl
  c232 := by kernel_rfl
  c233 := by kernel_rfl }
open Go.RowKit in
theorem Tryz.strconv_Atoi_ok (s : ByteArray) (hmax : s.size <= 9223372036854775806) (v : Int) (h : Lib.atoiAll s.data.toList = .ok v) (w : World) :
    Calls Tryz.prog 40 #[.string s] w fun e w' => e = .returned (.tuple #[.int .i64 v, .nilIface]) /\ (w' = w \/ ∃ t, w' = Lib.bytesWorld w 5 t) := Any.strconv_Atoi_ok Tryz.laysC172 s hmax v h w
open Go.RowKit in
theorem Tryz.strconv_Atoi_syntax (s : ByteArray) (hlim : s.size <= 281474976710656) (h : Lib.atoiAll s.data.toList = .«syntax») (ev : Value) (w : World) (hv : w.cell? ⟨3, 0, none⟩ = some ev) (hev : ev = .nilIface \/ ∃ te pe, ev = .iface te pe) :
    Calls Tryz.prog 40 #[.string s] w fun e w' => ∃ N, e = .returned (.tuple #[.int .i64 (0), .iface 100 (.pointer (some ⟨N, 0, none⟩))]) /\ w.heap.size <= N /\ w'.heap[N]? = some (.cells #[.string ⟨#[65, 116, 111, 105]⟩, .string s, ev] 116 (0, 0)) /\ Below w.heap.size w w' := Any.strconv_Atoi_syntax Tryz.laysC172 s hlim h ev w hv hev
open Go.RowKit in
theorem Tryz.strconv_Atoi_range (s : ByteArray) (hlim : s.size <= 281474976710656) (h : Lib.atoiAll s.data.toList = .range) (ev : Value) (w : World) (hv : w.cell? ⟨4, 0, none⟩ = some ev) (hev : ev = .nilIface \/ ∃ te pe, ev = .iface te pe) :
    Calls Tryz.prog 40 #[.string s] w fun e w' => ∃ N, e = .returned (.tuple #[.int .i64 (Lib.atoiSat s.data.toList), .iface 100 (.pointer (some ⟨N, 0, none⟩))]) /\ w.heap.size <= N /\ w'.heap[N]? = some (.cells #[.string ⟨#[65, 116, 111, 105]⟩, .string s, ev] 116 (0, 0)) /\ Below w.heap.size w w' := Any.strconv_Atoi_range Tryz.laysC172 s hlim h ev w hv hev
def Tryz.lays99_ren : Go.Shelf.Ren := ⟨fun | 99 => 44 | 206 => 65 | n => n, fun | 9 => 9 | 4 => 4 | 3 => 3 | n => n, fun | n => n⟩
theorem Tryz.lays99 : Go.Proofs.Lays.n99 Tryz.prog Tryz.lays99_ren := {
  mixed := by kernel_rfl
  f99 := Tryz.func44.trans (congrArg some (by kernel_rfl))
  f206 := Tryz.func65.trans (congrArg some (by kernel_rfl))
  t3 := Tryz.underlying3
  a3 := Tryz.isAgg3
  z3 := Tryz.sizeOf3
  v3 := Tryz.zeroValue3
  t4 := Tryz.underlying4
  a4 := Tryz.isAgg4
  z4 := Tryz.sizeOf4
  v4 := Tryz.zeroValue4
  t9 := Tryz.underlying9
  a9 := Tryz.isAgg9
  z9 := Tryz.sizeOf9
  v9 := Tryz.zeroValue9 }
open Go.RowKit Go.Lib in
theorem Tryz.strings_HasPrefix (s p : ByteArray) (w : World) :
    Calls Tryz.prog 44 #[.string s, .string p] w fun e w' => e = .returned (.bool (Lib.hasPrefix s.data.toList p.data.toList)) /\ w' = w := Any.strings_HasPrefix Tryz.lays99 s p w
def Tryz.lays100_ren : Go.Shelf.Ren := ⟨fun | 100 => 35 | 207 => 59 | n => n, fun | 9 => 9 | 4 => 4 | 3 => 3 | n => n, fun | n => n⟩
theorem Tryz.lays100 : Go.Proofs.Lays.n100 Tryz.prog Tryz.lays100_ren := {
  mixed := by kernel_rfl
  f100 := Tryz.func35.trans (congrArg some (by kernel_rfl))
  f207 := Tryz.func59.trans (congrArg some (by kernel_rfl))
  t3 := Tryz.underlying3
  a3 := Tryz.isAgg3
  z3 := Tryz.sizeOf3
  v3 := Tryz.zeroValue3
  t4 := Tryz.underlying4
  a4 := Tryz.isAgg4
  z4 := Tryz.sizeOf4
  v4 := Tryz.zeroValue4
  t9 := Tryz.underlying9
  a9 := Tryz.isAgg9
  z9 := Tryz.sizeOf9
  v9 := Tryz.zeroValue9 }
open Go.RowKit Go.Lib in
theorem Tryz.strings_HasSuffix (s p : ByteArray) (w : World) (hs : s.size <= 9223372036854775807) :
    Calls Tryz.prog 35 #[.string s, .string p] w fun e w' => e = .returned (.bool (Lib.hasSuffix s.data.toList p.data.toList)) /\ w' = w := Any.strings_HasSuffix Tryz.lays100 s p w hs
def Tryz.lays101_ren : Go.Shelf.Ren := ⟨fun | 101 => 47 | 208 => 69 | 206 => 65 | n => n, fun | 9 => 9 | 4 => 4 | 3 => 3 | n => n, fun | n => n⟩
theorem Tryz.lays101 : Go.Proofs.Lays.n101 Tryz.prog Tryz.lays101_ren := {
  mixed := by kernel_rfl
  f101 := Tryz.func47.trans (congrArg some (by kernel_rfl))
  f206 := Tryz.func65.trans (congrArg some (by kernel_rfl))
  f208 := Tryz.func69.trans (congrArg some (by kernel_rfl))
  t3 := Tryz.underlying3
  a3 := Tryz.isAgg3
  z3 := Tryz.sizeOf3
  v3 := Tryz.zeroValue3
  t4 := Tryz.underlying4
  a4 := Tryz.isAgg4
  z4 := Tryz.sizeOf4
  v4 := Tryz.zeroValue4
  t9 := Tryz.underlying9
  a9 := Tryz.isAgg9
  z9 := Tryz.sizeOf9
  v9 := Tryz.zeroValue9 }
open Go.RowKit Go.Lib in
theorem Tryz.strings_TrimPrefix (s p : ByteArray) (w : World) :
    Calls Tryz.prog 47 #[.string s, .string p] w fun e w' => e = .returned (.string ⟨(Lib.trimPrefix s.data.toList p.data.toList).toArray⟩) /\ w' = w := Any.strings_TrimPrefix Tryz.lays101 s p w
def Tryz.lays146_ren : Go.Shelf.Ren := ⟨fun | 146 => 46 | 221 => 68 | 268 => 90 | 138 => 91 | 143 => 92 | 195 => 110 | 197 => 111 | 218 => 112 | 219 => 113 | 260 => 127 | 217 => 128 | 225 => 129 | 224 => 130 | 267 => 131 | 266 => 137 | 314 => 138 | n => n, fun | 9 => 9 | 31 => 22 | 3 => 3 | 4 => 4 | 0 => 0 | 105 => 123 | 21 => 21 | 5 => 5 | 46 => 41 | 119 => 147 | 139 => 150 | 138 => 149 | 146 => 151 | 51 => 142 | n => n, fun | 1 => 6 | 3 => 7 | 4 => 8 | n => n⟩
theorem Tryz.lays146 : Go.Proofs.Lays.n146 Tryz.prog Tryz.lays146_ren := {
  mixed := by kernel_rfl
  f138 := Tryz.func91.trans (congrArg some (by kernel_rfl))
  f143 := Tryz.func92.trans (congrArg some (by kernel_rfl))
  f146 := Tryz.func46.trans (congrArg some (by kernel_rfl))
  f195 := Tryz.func110.trans (congrArg some (by kernel_rfl))
  f197 := Tryz.func111.trans (congrArg some (by kernel_rfl))
  f217 := Tryz.func128.trans (congrArg some (by kernel_rfl))
  f218 := Tryz.func112.trans (congrArg some (by kernel_rfl))
  f219 := Tryz.func113.trans (congrArg some (by kernel_rfl))
  f221 := Tryz.func68.trans (congrArg some (by kernel_rfl))
  f224 := Tryz.func130.trans (congrArg some (by kernel_rfl))
  f225 := Tryz.func129.trans (congrArg some (by kernel_rfl))
  f260 := Tryz.func127.trans (congrArg some (by kernel_rfl))
  f266 := Tryz.func137.trans (congrArg some (by kernel_rfl))
  f267 := Tryz.func131.trans (congrArg some (by kernel_rfl))
  f268 := Tryz.func90.trans (congrArg some (by kernel_rfl))
  f314 := Tryz.func138.trans (congrArg some (by kernel_rfl))
  t0 := Tryz.underlying0
  a0 := Tryz.isAgg0
  z0 := Tryz.sizeOf0
  v0 := Tryz.zeroValue0
  t3 := Tryz.underlying3
  a3 := Tryz.isAgg3
  z3 := Tryz.sizeOf3
  v3 := Tryz.zeroValue3
  t4 := Tryz.underlying4
  a4 := Tryz.isAgg4
  z4 := Tryz.sizeOf4
  v4 := Tryz.zeroValue4
  t5 := Tryz.underlying5
  a5 := Tryz.isAgg5
  z5 := Tryz.sizeOf5
  v5 := Tryz.zeroValue5
  t9 := Tryz.underlying9
  a9 := Tryz.isAgg9
  z9 := Tryz.sizeOf9
  v9 := Tryz.zeroValue9
  t21 := Tryz.underlying21
  a21 := Tryz.isAgg21
  z21 := Tryz.sizeOf21
  v21 := Tryz.zeroValue21
  t31 := Tryz.underlying22
  a31 := Tryz.isAgg22
  z31 := Tryz.sizeOf22
  v31 := Tryz.zeroValue22
  t46 := Tryz.underlying41
  a46 := Tryz.isAgg41
  z46 := Tryz.sizeOf41
  v46 := Tryz.zeroValue41
  t51 := Tryz.underlying142
  a51 := Tryz.isAgg142
  z51 := Tryz.sizeOf142
  v51 := Tryz.zeroValue142
  t105 := Tryz.underlying123
  a105 := Tryz.isAgg123
  z105 := Tryz.sizeOf123
  v105 := Tryz.zeroValue123
  t119 := Tryz.underlying147
  a119 := Tryz.isAgg147
  z119 := Tryz.sizeOf147
  t138 := Tryz.underlying149
  a138 := Tryz.isAgg149
  z138 := Tryz.sizeOf149
  v138 := Tryz.zeroValue149
  t139 := Tryz.underlying150
  a139 := Tryz.isAgg150
  z139 := Tryz.sizeOf150
  v139 := Tryz.zeroValue150
  t146 := Tryz.underlying151
  a146 := Tryz.isAgg151
  z146 := Tryz.sizeOf151
  v146 := Tryz.zeroValue151
  g1 := by kernel_rfl
  g3 := by kernel_rfl
  g4 := by kernel_rfl }
open Go.RowKit Go.Lib in
theorem Tryz.strings_Split (s sep : ByteArray) (m : Int) (w : World) (hs : s.size < 4294967281) (hm : w.cell? ⟨6, 0, none⟩ = some (.int .i64 m)) (h1 : 1 <= sep.size) :
    Calls Tryz.prog 46 #[.string s, .string sep] w fun e w' =>
      e = .returned (.slice (some ⟨w.heap.size, 0, none⟩) (Lib.countB s sep + 1) (Lib.countB s sep + 1)) /\ w' = w.alloc (.cells ((Lib.splitB sep 0 (Lib.countB s sep) s).map Value.string).toArray 9) := Any.strings_Split Tryz.lays146 (by kernel_rfl) s sep m w hs hm h1
def Tryz.laysM146_ren : Go.Shelf.Ren := ⟨fun | 146 => 46 | 221 => 68 | 268 => 90 | 138 => 91 | 143 => 92 | 195 => 110 | 197 => 111 | 218 => 112 | 219 => 113 | 260 => 127 | 217 => 128 | 225 => 129 | 224 => 130 | 267 => 131 | 266 => 137 | 314 => 138 | n => n, fun | 9 => 9 | 31 => 22 | 3 => 3 | 4 => 4 | 0 => 0 | 105 => 123 | 21 => 21 | 5 => 5 | 46 => 41 | 119 => 147 | 139 => 150 | 138 => 149 | 146 => 151 | 51 => 142 | n => n, fun | 1 => 6 | 3 => 7 | 4 => 8 | n => n⟩
theorem Tryz.laysM146 : Go.Proofs.LaysM.n146 Tryz.prog Tryz.laysM146_ren := {
  mixed := by kernel_rfl
  f138 := Tryz.func91.trans (congrArg some (by kernel_rfl))
  f143 := Tryz.func92.trans (congrArg some (by kernel_rfl))
  f146 := Tryz.func46.trans (congrArg some (by kernel_rfl))
  f195 := Tryz.func110.trans (congrArg some (by kernel_rfl))
  f197 := Tryz.func111.trans (congrArg some (by kernel_rfl))
  f217 := Tryz.func128.trans (congrArg some (by kernel_rfl))
  f218 := Tryz.func112.trans (congrArg some (by kernel_rfl))
  f219 := Tryz.func113.trans (congrArg some (by kernel_rfl))
  f221 := Tryz.func68.trans (congrArg some (by kernel_rfl))
  f224 := Tryz.func130.trans (congrArg some (by kernel_rfl))
  f225 := Tryz.func129.trans (congrArg some (by kernel_rfl))
  f260 := Tryz.func127.trans (congrArg some (by kernel_rfl))
  f266 := Tryz.func137.trans (congrArg some (by kernel_rfl))
  f267 := Tryz.func131.trans (congrArg some (by kernel_rfl))
  f268 := Tryz.func90.trans (congrArg some (by kernel_rfl))
  f314 := Tryz.func138.trans (congrArg some (by kernel_rfl))
  t0 := Tryz.underlying0
  a0 := Tryz.isAgg0
  z0 := Tryz.sizeOf0
  v0 := Tryz.zeroValue0
  t3 := Tryz.underlying3
  a3 := Tryz.isAgg3
  z3 := Tryz.sizeOf3
  v3 := Tryz.zeroValue3
  t4 := Tryz.underlying4
  a4 := Tryz.isAgg4
  z4 := Tryz.sizeOf4
  v4 := Tryz.zeroValue4
  t5 := Tryz.underlying5
  a5 := Tryz.isAgg5
  z5 := Tryz.sizeOf5
  v5 := Tryz.zeroValue5
  t9 := Tryz.underlying9
  a9 := Tryz.isAgg9
  z9 := Tryz.sizeOf9
  v9 := Tryz.zeroValue9
  t21 := Tryz.underlying21
  a21 := Tryz.isAgg21
  z21 := Tryz.sizeOf21
  v21 := Tryz.zeroValue21
  t31 := Tryz.underlying22
  a31 := Tryz.isAgg22
  z31 := Tryz.sizeOf22
  v31 := Tryz.zeroValue22
  t46 := Tryz.underlying41
  a46 := Tryz.isAgg41
  z46 := Tryz.sizeOf41
  v46 := Tryz.zeroValue41
  t51 := Tryz.underlying142
  a51 := Tryz.isAgg142
  z51 := Tryz.sizeOf142
  v51 := Tryz.zeroValue142
  t105 := Tryz.underlying123
  a105 := Tryz.isAgg123
  z105 := Tryz.sizeOf123
  v105 := Tryz.zeroValue123
  t119 := Tryz.underlying147
  a119 := Tryz.isAgg147
  z119 := Tryz.sizeOf147
  t138 := Tryz.underlying149
  a138 := Tryz.isAgg149
  z138 := Tryz.sizeOf149
  v138 := Tryz.zeroValue149
  t139 := Tryz.underlying150
  a139 := Tryz.isAgg150
  z139 := Tryz.sizeOf150
  v139 := Tryz.zeroValue150
  t146 := Tryz.underlying151
  a146 := Tryz.isAgg151
  z146 := Tryz.sizeOf151
  v146 := Tryz.zeroValue151
  g1 := by kernel_rfl
  g3 := by kernel_rfl
  g4 := by kernel_rfl
  i0 := by kernel_rfl
  i3 := by kernel_rfl
  i4 := by kernel_rfl
  i5 := by kernel_rfl
  i9 := by kernel_rfl
  i21 := by kernel_rfl
  i31 := by kernel_rfl
  i46 := by kernel_rfl
  i51 := by kernel_rfl
  i105 := by kernel_rfl
  i138 := by kernel_rfl
  i139 := by kernel_rfl
  i146 := by kernel_rfl
  m1 := by kernel_rfl
  s1_3 := fun w h => Go.Proofs.cell_of_shapedOpen_int (zero := #[.int .i64 0]) (t := 3) h (of_decide_eq_true (by kernel_rfl)) (by kernel_rfl) rfl (by kernel_rfl) (by kernel_rfl) Tryz.underlying3
  m3 := by kernel_rfl
  m4 := by kernel_rfl }
def Tryz.lays229_ren : Go.Shelf.Ren := ⟨fun | 229 => 94 | n => n, fun | 9 => 9 | 40 => 108 | 31 => 22 | 152 => 131 | 3 => 3 | 0 => 0 | 4 => 4 | 21 => 21 | 154 => 133 | n => n, fun | n => n⟩
theorem Tryz.lays229 : Go.Proofs.Lays.n229 Tryz.prog Tryz.lays229_ren := {
  mixed := by kernel_rfl
  f229 := Tryz.func94.trans (congrArg some (by kernel_rfl))
  t0 := Tryz.underlying0
  a0 := Tryz.isAgg0
  z0 := Tryz.sizeOf0
  v0 := Tryz.zeroValue0
  t3 := Tryz.underlying3
  a3 := Tryz.isAgg3
  z3 := Tryz.sizeOf3
  v3 := Tryz.zeroValue3
  t4 := Tryz.underlying4
  a4 := Tryz.isAgg4
  z4 := Tryz.sizeOf4
  v4 := Tryz.zeroValue4
  t9 := Tryz.underlying9
  a9 := Tryz.isAgg9
  z9 := Tryz.sizeOf9
  v9 := Tryz.zeroValue9
  t21 := Tryz.underlying21
  a21 := Tryz.isAgg21
  z21 := Tryz.sizeOf21
  v21 := Tryz.zeroValue21
  t31 := Tryz.underlying22
  a31 := Tryz.isAgg22
  z31 := Tryz.sizeOf22
  v31 := Tryz.zeroValue22
  t40 := Tryz.underlying108
  a40 := Tryz.isAgg108
  z40 := Tryz.sizeOf108
  v40 := Tryz.zeroValue108
  t152 := Tryz.underlying131
  a152 := Tryz.isAgg131
  z152 := Tryz.sizeOf131
  v152 := Tryz.zeroValue131
  t154 := Tryz.underlying133
  a154 := Tryz.isAgg133
  z154 := Tryz.sizeOf133
  v154 := Tryz.zeroValue133 }
open Go.RowKit Go.Lib in
theorem Tryz.strings_FieldsFunc_runes (g : Nat) (lb : Array Value) (eg : ∀ args w, (callFunc g args).run Tryz.prog w = .ok (.enter g args) w) (p : Nat -> Bool) (s : ByteArray) (w : World) (hs : s.size <= 4294967296) (hp : PredAtRunes Tryz.prog g lb p w) :
    Calls Tryz.prog 94 #[.string s, .func (.func g) #[] lb] w fun e w' => ∃ A, e = .returned (.slice (some ⟨A, 0, none⟩) (Lib.goFieldsP p s).length (Lib.goFieldsP p s).length) /\ w.heap.size <= A /\
      w'.ownsRow w.heap.size 9 1 (.slice (some ⟨A, 0, none⟩) (Lib.goFieldsP p s).length (Lib.goFieldsP p s).length) (Lib.goFieldsP p s).length ((Lib.goFieldsP p s).map Value.string) /\ Below w.heap.size w w' := Any.strings_FieldsFunc_runes Tryz.lays229 g lb eg p s w hs hp (by kernel_rfl) (by kernel_rfl)
end Go.Proofs
namespace Go.Proofs.YtanocopjancaiaaGreatDoor
open Go.Abs Go.RowKit
theorem callable_of {P : Program} {f : FuncId} {fn : Func} (hf : P.funcs[f]? = some fn) (h : (fn.name == "runtime.NumGoroutine") = false) (hb : fn.body.isNone = false) : Callable P f := ⟨fn, hf, by simpa using h, hb⟩
theorem rep_str {W : World} {G φ} {s : Bytes} {x : Value} (h : Rep W G φ (.str s) x) : ∃ t : ByteArray, x = .string t /\ t.data.toList = s := by
  cases h with
  | str l t h => exact ⟨t, rfl, h⟩
theorem repL2 {W : World} {G φ} {u v : V} {xs : Array Value} (h : RepL W G φ [u, v] xs) : ∃ x y, xs = #[x, y] /\ Rep W G φ u x /\ Rep W G φ v y := by
  obtain ⟨hl, h⟩ := h
  obtain ⟨l⟩ := xs
  match l, hl with
  | [x, y], _ => exact ⟨x, y, rfl, h 0 u x rfl rfl, h 1 v y rfl rfl⟩
theorem HasMax.at {w : World} (h : HasMax w) {W : World} {G : Nat -> Nat} (hW : OKW (cxD w) W G) : ∃ m, W.cell? ⟨6, 0, none⟩ = some (.int .i64 m) := by
  obtain ⟨m, hm⟩ := h
  refine ⟨m, ?_⟩
  rw [hW.below.cell (p := ⟨6, 0, none⟩) ?_]
  . exact hm
  . rcases Nat.lt_or_ge 6 (cxD w).w0.heap.size with h0 | h0
    . exact h0
    . exfalso
      have : w.heap[(6 : Nat)]? = none := Array.getElem?_eq_none h0
      simp only [World.cell?, this] at hm
      cases hm
theorem two_str {args : List V} {a b : Bytes} (h : nfL args = [V.str a, V.str b]) : args = [.str a, .str b] := by
  obtain ⟨u, v, rfl, h1, h2⟩ := nfL_cons h
  obtain ⟨u', v', rfl, h3, h4⟩ := nfL_cons h2
  obtain rfl := nfL_nil h4
  rw [nf_str h1, nf_str h3]
theorem nfL_strs (l : List Bytes) : nfL (l.map .str) = l.map .str := by rw [nfL_map, List.map_map]; rfl
def splitOn (c : UInt8) : Bytes -> List Bytes
  | [] => [[]]
  | b :: r => if b = c then [] :: splitOn c r else match splitOn c r with
    | [] => [[b]]
    | x :: xs => (b :: x) :: xs
theorem splitK_one (c : UInt8) : ∀ s : Bytes, Lib.splitK [c] 0 (s.count c) s = splitOn c s
  | [] => rfl
  | b :: r => by
    have ih := splitK_one c r
    simp only [splitOn]
    by_cases h : b = c
    . subst h
      rw [List.count_cons_self, if_pos rfl]
      simp only [Lib.splitK, Lib.index]
      simp [ih]
    . rw [if_neg h, List.count_cons_of_ne h]
      cases hk : r.count c with
      | zero => rw [hk] at ih; simp only [Lib.splitK] at ih ⊢; rw [<- ih]
      | succ k =>
        rw [hk] at ih
        simp only [Lib.splitK, Lib.index] at ih ⊢
        have hp : List.isPrefixOf [c] (b :: r) = false := by simp [List.isPrefixOf, Ne.symm h]
        simp only [hp, Bool.false_eq_true, if_false]
        by_cases hi : Lib.index r [c] = -1
        . simp only [hi, beq_self_eq_true, if_true] at ih ⊢
          rw [<- ih]
        . have hge := Lib.index_ge r [c]
          have e1 : (Lib.index r [c] == -1) = false := by simpa using hi
          have e2 : (Lib.index r [c] + 1 == -1) = false := by simp; omega
          simp only [e1, e2, Bool.false_eq_true, if_false] at ih ⊢
          rw [<- ih]
          have e3 : (Lib.index r [c] + 1).toNat = (Lib.index r [c]).toNat + 1 := by omega
          simp [e3]
def g.strings_Split (s c : Bytes) : Option (List Bytes) := if s.length < 4294967281 /\ c.length = 1 then some (splitOn (c.headD 0) s) else none
def K.strings_Split : FC := fc 46 (fun _ => true) true (fun (a : Bytes × Bytes) => [V.str a.1, V.str a.2]) (fun (y : List Bytes) => .sl false 1 (y.map .str)) (fun a => g.strings_Split a.1 a.2)
  (fun _ => rfl) (fun y => cleanL_map (fun _ => rfl) y) (fun ⟨a, b⟩ ⟨c, d⟩ h => by simp at h; simp [h])
theorem H.strings_Split (w : World) (hw : EnvOK w) : K.strings_Split.Holds (cxD w) := by
  rintro args y ⟨⟨s, c⟩, r, ha, hg, rfl⟩
  obtain rfl := two_str ha
  simp only [g.strings_Split] at hg
  split at hg
  . rename_i hc
    cases hg
    refine ⟨.sl false 1 ((splitOn (c.headD 0) s).map .str), true, ?_, by show V.sl false 1 (nfL _) = _; rw [nfL_strs], fun _ => .inl rfl⟩
    refine PC.texts (callable_of Tryz.func46 (by kernel_rfl) (by kernel_rfl)) fun W G φ xs hW hxs => ?_
    obtain ⟨x, y, rfl, hx, hy⟩ := repL2 hxs
    obtain ⟨t, rfl, rfl⟩ := rep_str hx
    obtain ⟨u, rfl, hu⟩ := rep_str hy
    obtain ⟨m, hm⟩ := hw.max.at hW
    have hu1 : u.size = 1 := by rw [Lib.size_eq, hu]; exact hc.2
    have hsz : t.size < 4294967281 := by rw [Lib.size_eq]; exact hc.1
    refine (Tryz.strings_Split t u m W hsz hm (by omega)).mono fun e W' ⟨he, hW'⟩ => ?_
    have hlen := Lib.splitB_all u (by omega) 0 _ t rfl
    refine ⟨Lib.splitB u 0 (Lib.countB t u) t, _, ?_, by rw [he, hlen], hW'⟩
    have hu2 : u.data.toList = [c.headD 0] := by
      rw [hu]
      match c, hc.2 with
      | [b], _ => rfl
    rw [Lib.splitB_data, hu2]
    have : Lib.countB t u = t.data.toList.count (c.headD 0) := by
      unfold Lib.countB
      rw [hu2, Lib.count_one]
    rw [this, splitK_one]
  . cases hg
end Go.Proofs.YtanocopjancaiaaGreatDoor
namespace Go.Proofs.YtanocopjancaiaaGreatDoor
open Go.Abs
set_option maxRecDepth 10000
theorem splitOn_ne (c : UInt8) (s : Bytes) : splitOn c s ≠ [] := by
  cases s with
  | nil => simp [splitOn]
  | cons b r => simp only [splitOn]; split <;> (try split) <;> simp
def addH (cur : Bytes) : List Bytes -> List Bytes
  | [] => [cur]
  | x :: xs => (cur ++ x) :: xs
theorem addH_nil {l : List Bytes} (h : l ≠ []) : addH [] l = l := by
  cases l with
  | nil => exact absurd rfl h
  | cons x xs => rfl
theorem splitOn_eq_c (c : UInt8) (r cur : Bytes) : addH cur (splitOn c (c :: r)) = cur :: splitOn c r := by simp [splitOn, addH]
theorem splitOn_ne_c {c b : UInt8} (h : b ≠ c) (r cur : Bytes) : addH cur (splitOn c (b :: r)) = addH (cur ++ [b]) (splitOn c r) := by
  simp only [splitOn, if_neg h]
  cases h' : splitOn c r with
  | nil => exact absurd h' (splitOn_ne _ _)
  | cons x xs => simp [addH]
theorem take_one {α : Type} {l : List α} {i f : Nat} (h : i < l.length) (hf : f <= i) : (l.take (i + 1)).drop f = (l.take i).drop f ++ [l[i]] := by
  rw [List.take_add_one, List.getElem?_eq_getElem h, Option.toList_some, List.drop_append_of_le_length (by simp; omega)]
theorem splitOn_mid (c : UInt8) (b : Bytes) : ∀ a : Bytes, splitOn c (a ++ c :: b) = splitOn c a ++ splitOn c b
  | [] => by simp [splitOn]
  | x :: a => by
    have ih := splitOn_mid c b a
    simp only [List.cons_append, splitOn]
    split
    . rw [ih]; rfl
    . rw [ih]
      cases h : splitOn c a with
      | nil => exact absurd h (splitOn_ne _ _)
      | cons y ys => rfl
variable {e : Ev}
theorem v.hasPrefix0 (s p : Bytes) : vl e 65 0 [.str s, .str p] = some (.bool (decide (s.take p.length = p))) := by
  rw [w.internal_stringslite_HasPrefix]; unfold y.internal_stringslite_HasPrefix
  by_cases h : p.length <= s.length
  . simp only [yy, if_pos (show (p.length : Int) <= (s.length : Int) by omega), v_sls0 h]
  . simp only [yy, if_neg (show ¬((p.length : Int) <= (s.length : Int)) by omega)]
    exact some_f fun h1 => by have := congrArg List.length h1; simp at this; omega
theorem v.hasPrefix (s p : Bytes) : vl e 44 0 [.str s, .str p] = some (.bool (decide (s.take p.length = p))) := by
  rw [w.strings_HasPrefix]; unfold y.strings_HasPrefix
  simp only [yy, v.hasPrefix0]
theorem take_le {s p : Bytes} (h : s.take p.length = p) : p.length <= s.length := by have := congrArg List.length h; simp at this; omega
theorem v.trimPrefix (s p : Bytes) : vl e 47 0 [.str s, .str p] = some (.str (if s.take p.length = p then s.drop p.length else s)) := by
  rw [w.strings_TrimPrefix]; unfold y.strings_TrimPrefix
  have h1 : vl e 69 0 [.str s, .str p] = some (.str (if s.take p.length = p then s.drop p.length else s)) := by
    rw [w.internal_stringslite_TrimPrefix]; unfold y.internal_stringslite_TrimPrefix
    by_cases h : s.take p.length = p
    . simp only [yy, v.hasPrefix0, if_pos h, v_sls1 (take_le h)]
    . simp only [yy, v.hasPrefix0, if_neg h]
  simp only [yy, h1]
theorem v.cutPrefix (s p : Bytes) : vl e 39 0 [.str s, .str p] = some (.tup [.str (if s.take p.length = p then s.drop p.length else s), .bool (decide (s.take p.length = p))]) := by
  rw [w.strings_CutPrefix]; unfold y.strings_CutPrefix
  have h1 : vl e 61 0 [.str s, .str p] = some (.tup [.str (if s.take p.length = p then s.drop p.length else s), .bool (decide (s.take p.length = p))]) := by
    rw [w.internal_stringslite_CutPrefix]; unfold y.internal_stringslite_CutPrefix
    by_cases h : s.take p.length = p
    . simp only [yy, v.hasPrefix0, if_pos h, v_sls1 (take_le h)]; rw [decide_eq_true h]
    . simp only [yy, v.hasPrefix0, if_neg h]; rw [decide_eq_false h]
  simp only [yy, h1]
def inB (on : List Bytes) (t : Bytes) : Bool := decide (t ∈ on)
theorem inB_cons (x t : Bytes) (on : List Bytes) : inB (x :: on) t = (decide (t = x) || inB on t) := by simp [inB]
theorem v.In (on : List Bytes) (t : Bytes) (hl : on.length <= 1000000000) : vl e 17 0 [strs on, .str t] = some (.bool (inB on t)) := by
  have key : ∀ (n i : Nat), i + n = on.length -> vl e 17 8 [.str t, strs on, I on.length, I i] = some (.bool (inB (on.drop i) t)) := by
    intro n
    induction n with
    | zero =>
      intro i hi
      rw [w.seicheref13_In_8]; unfold y.seicheref13_In_8
      simp only [yy, if_neg (show ¬((i : Int) < (on.length : Int)) by omega)]
      rw [List.drop_eq_nil_of_le (by omega)]; rfl
    | succ n ih =>
      intro i hi
      have hlt : i < on.length := by omega
      rw [w.seicheref13_In_8]; unfold y.seicheref13_In_8
      rw [List.drop_eq_getElem_cons hlt, inB_cons]
      simp only [yy, if_pos (show (i : Int) < (on.length : Int) by omega), v_get hlt, v_lds, next64 hlt (by omega), ih (i + 1) (by omega)]
      by_cases h : on[i] = t
      . rw [if_pos h, decide_eq_true h.symm]; rfl
      . rw [if_neg h, decide_eq_false (fun h' => h h'.symm)]; rfl
  rw [w.seicheref13_In]; unfold y.seicheref13_In
  simp only [yy]
  exact key on.length 0 (by omega)
theorem v.Contains (on : List Bytes) (t : Bytes) (hl : on.length <= 1000000000) : vl e 22 0 [strs on, .str t] = some (.bool (inB on t)) := by
  have key : ∀ (n i : Nat), i + n = on.length -> ∃ r : Int, vl e 42 8 [strs on, .str t, I on.length, I i] = some (I r) /\ (0 <= r <-> inB (on.drop i) t = true) := by
    intro n
    induction n with
    | zero =>
      intro i hi
      refine ⟨-1, ?_, ?_⟩
      . rw [w.slices_Index_Lstring_string_8]; unfold y.slices_Index_Lstring_string_8
        simp only [yy, if_neg (show ¬((i : Int) < (on.length : Int)) by omega)]
      . rw [List.drop_eq_nil_of_le (by omega)]; simp [inB]
    | succ n ih =>
      intro i hi
      have hlt : i < on.length := by omega
      obtain ⟨r, h1, h2⟩ := ih (i + 1) (by omega)
      by_cases h : t = on[i]
      . refine ⟨i, ?_, ?_⟩
        . rw [w.slices_Index_Lstring_string_8]; unfold y.slices_Index_Lstring_string_8
          simp only [yy, if_pos (show (i : Int) < (on.length : Int) by omega), v_get hlt, v_lds, if_pos h]
        . rw [List.drop_eq_getElem_cons hlt, inB_cons, decide_eq_true h]; simp
      . refine ⟨r, ?_, ?_⟩
        . rw [w.slices_Index_Lstring_string_8]; unfold y.slices_Index_Lstring_string_8
          simp only [yy, if_pos (show (i : Int) < (on.length : Int) by omega), v_get hlt, v_lds, if_neg h, next64 hlt (by omega), h1]
        . rw [List.drop_eq_getElem_cons hlt, inB_cons, decide_eq_false h, Bool.false_or]; exact h2
  obtain ⟨r, h1, h2⟩ := key on.length 0 (by omega)
  rw [w.slices_Contains_Lstring_string]; unfold y.slices_Contains_Lstring_string
  have hI : vl e 42 0 [strs on, .str t] = some (I r) := by
    rw [w.slices_Index_Lstring_string]; unfold y.slices_Index_Lstring_string
    simp only [yy]; exact h1
  simp only [yy, hI]
  rw [List.drop_zero] at h2
  cases h : inB on t
  . rw [h] at h2; rw [decide_eq_false (fun h' => absurd (h2.1 h') (by decide))]
  . rw [h] at h2; rw [decide_eq_true (h2.2 rfl)]
theorem v.Cut (p : Bytes) (c : UInt8) (hp : p.length <= 1000000000) : vl e 52 0 [.str p, byteV c] = some (strs (splitOn c p)) := by
  have hLim : Lim = 4294967296 := rfl
  have key : ∀ (n i f : Nat) (acc : List Bytes), p.length + 1 = n + i -> f <= i -> acc.length <= i ->
      (i <= p.length -> vl e 52 12 [.str p, byteV c, strs acc, I f, I i] = some (strs (acc ++ addH ((p.take i).drop f) (splitOn c (p.drop i))))) /\ (i = p.length + 1 -> vl e 52 12 [.str p, byteV c, strs acc, I f, I i] = some (strs acc)) := by
    intro n
    induction n with
    | zero =>
      intro i f acc hn hf ha
      refine ⟨fun h => by omega, fun h => ?_⟩
      rw [w.seicheref14_Cut_12]; unfold y.seicheref14_Cut_12
      simp only [yy, if_neg (show ¬((i : Int) <= (p.length : Int)) by omega)]
    | succ n ih =>
      intro i f acc hn hf ha
      refine ⟨fun hil => ?_, fun h => by omega⟩
      have e1 : IntKind.i64.wrap ((i : Int) + 1) = ((i + 1 : Nat) : Int) := w64 _ (by omega)
      rw [w.seicheref14_Cut_12]; unfold y.seicheref14_Cut_12
      by_cases he : i = p.length
      . have hih := (ih (i + 1) (i + 1) (acc ++ [(p.take i).drop f]) (by omega) (Nat.le_refl _) (by simp; omega)).2 (by omega)
        simp only [yy, if_pos (show (i : Int) <= (p.length : Int) by omega), if_pos (show (i : Int) = (p.length : Int) by omega), v_sls2 hf hil, v_bsl1, v_push (show acc.length + 1 <= Lim by omega), e1, hih]
        rw [List.drop_eq_nil_of_le (show p.length <= i by omega)]
        simp [splitOn, addH]
      . have hlt : i < p.length := by omega
        by_cases hc : p[i] = c
        . have hih := (ih (i + 1) (i + 1) (acc ++ [(p.take i).drop f]) (by omega) (Nat.le_refl _) (by simp; omega)).1 (by omega)
          simp only [yy, if_pos (show (i : Int) <= (p.length : Int) by omega), if_neg (show ¬((i : Int) = (p.length : Int)) by omega), v_idx (List.getElem?_eq_getElem hlt), hc, byteV, if_true, v_sls2 hf hil, v_bsl1, v_push (show acc.length + 1 <= Lim by omega), e1]
          refine hih.trans ?_
          rw [List.drop_eq_getElem_cons hlt, hc, splitOn_eq_c, List.append_assoc]
          congr 2
          rw [show (p.take (i + 1)).drop (i + 1) = [] from List.drop_eq_nil_of_le (by simp; omega), addH_nil (splitOn_ne _ _)]; rfl
        . have hih := (ih (i + 1) f acc (by omega) (by omega) (by omega)).1 (by omega)
          have hne : ¬((p[i].toNat : Int) = (c.toNat : Int)) := fun h => hc (UInt8.toNat_inj.1 (by omega))
          simp only [yy, if_pos (show (i : Int) <= (p.length : Int) by omega), if_neg (show ¬((i : Int) = (p.length : Int)) by omega), v_idx (List.getElem?_eq_getElem hlt), byteV, if_neg hne, e1]
          refine hih.trans ?_
          rw [List.drop_eq_getElem_cons hlt, splitOn_ne_c hc, take_one hlt hf]
  rw [w.seicheref14_Cut]; unfold y.seicheref14_Cut
  refine ((key (p.length + 1) 0 0 [] (by omega) (Nat.le_refl _) (Nat.le_refl _)).1 (Nat.zero_le _)).trans ?_
  simp [addH_nil (splitOn_ne _ _)]
end Go.Proofs.YtanocopjancaiaaGreatDoor
namespace Go.Proofs.YtanocopjancaiaaGreatDoor
open Go.Abs Go.RowKit Go.Shelf Go.Sort
theorem rep_texts {W : World} {G φ} {nl : Bool} {l : List Bytes} {x : Value} (h : Rep W G φ (.sl nl 1 (l.map .str)) x) :
    (x = .slice none 0 0 /\ l = []) \/ (∃ a, x = .slice (some a) 0 0 /\ l = []) \/ ∃ (b off cap : Nat) (zs : List ByteArray), x = .slice (some ⟨b, off, none⟩) zs.length cap /\ zs.map (·.data.toList) = l /\ zs.length <= cap /\
      ∀ j, j < zs.length -> W.cell? ⟨b, off + j, none⟩ = some (.string (zs.getD j ByteArray.empty)) := by
  generalize hv : l.map V.str = ys at h
  cases h with
  | slnil => exact .inl ⟨rfl, List.map_eq_nil_iff.1 hv⟩
  | sl0 _ a => exact .inr (.inl ⟨a, rfl, List.map_eq_nil_iff.1 hv⟩)
  | sl _ _ b off cap rd hcap hG hx hrd h =>
    subst hv
    right; right
    have hs : ∀ i s, l[i]? = some s -> ∃ t : ByteArray, rd i = .string t /\ t.data.toList = s := by
      intro i s hi
      have := h i (.str s) 0 (.str s) (by simp [hi]) rfl
      simp only [Nat.mul_one, Nat.add_zero] at this
      obtain ⟨t, h1, h2⟩ := rep_str this
      exact ⟨t, h1, h2⟩
    refine ⟨b, off, cap, (List.range l.length).map fun i => match rd i with | .string t => t | _ => ByteArray.empty, by simp, ?_, by simpa using hcap, fun j hj => ?_⟩
    . apply List.ext_getElem?
      intro i
      rcases Nat.lt_or_ge i l.length with hi | hi
      . obtain ⟨t, h1, h2⟩ := hs i _ (List.getElem?_eq_getElem hi)
        simp [hi, h1, h2]
      . simp [Nat.not_lt.2 hi, hi]
    . have hj' : j < l.length := by simpa using hj
      obtain ⟨t, h1, h2⟩ := hs j _ (List.getElem?_eq_getElem hj')
      rw [hrd j (by simpa using hj'), h1]
      simp [List.getD, hj', h1]
theorem nf_strs : ∀ {xs : List V} {l : List Bytes}, nfL xs = l.map V.str -> xs = l.map V.str
  | [], [], _ => rfl
  | [], _ :: _, h => by simp [nfL] at h
  | _ :: _, [], h => by simp [nfL] at h
  | x :: xs, y :: l, h => by
    obtain ⟨h1, h2⟩ := List.cons.inj (show x.nf :: nfL xs = V.str y :: l.map V.str from h)
    rw [nf_str h1, nf_strs h2]; rfl
end Go.Proofs.YtanocopjancaiaaGreatDoor
namespace Go.Proofs.YtanocopjancaiaaGreatDoor
open Go.Abs Go.RowKit Go.Shelf Go.Sort
def IsErr (w : World) (g : Nat) : Prop := ∃ ev, w.cell? ⟨g, 0, none⟩ = some ev /\ (ev = .nilIface \/ ∃ te pe, ev = .iface te pe)
structure EnvE (w : World) : Prop where
  max : HasMax w
  syn : IsErr w 3
  rng : IsErr w 4
  tab : Lib.TabIs Tryz.prog w "internal/strconv.uint64pow10" .u64 Lib.pow10Tab
theorem EnvE.toOK {w : World} (h : EnvE w) : EnvOK w := ⟨h.max⟩
theorem IsErr.at {w W : World} {g : Nat} {G : Nat -> Nat} (h : IsErr w g) (hW : OKW (cxD w) W G) : IsErr W g := by
  obtain ⟨ev, hc, he⟩ := h
  refine ⟨ev, ?_, he⟩
  rw [hW.below.cell (p := ⟨g, 0, none⟩) (show g < w.heap.size from Lib.lt_of_cell hc)]
  exact hc
theorem tab_at {w W : World} {G : Nat → Nat} (h : Lib.TabIs Tryz.prog w "internal/strconv.uint64pow10" .u64 Lib.pow10Tab) (hW : OKW (cxD w) W G) : Lib.TabIs Tryz.prog W "internal/strconv.uint64pow10" .u64 Lib.pow10Tab :=
  Go.Joins.tab_stays (g := 5) (by kernel_rfl) h hW.below (Nat.le_refl _)
def atoiV (s : Bytes) : Int × Bool := match Lib.atoiAll s with
  | .ok v => (v, true)
  | .«syntax» => (0, false)
  | .range => (Lib.atoiSat s, false)
def errV : V := .iface 100 (.el [] 0)
def atoiE (y : Int × Bool) : V := .tup [.int .i64 y.1, if y.2 then .nilif else errV]
def g.strconv_Atoi (s : Bytes) : Option (Int × Bool) := if s.length <= 281474976710656 then some (atoiV s) else none
theorem atoi_clean (y : Int × Bool) : (atoiE y).clean = true := by
  obtain ⟨n, b⟩ := y
  cases b <;> rfl
theorem atoi_nf (y : Int × Bool) : (atoiE y).nf = atoiE y := by
  obtain ⟨n, b⟩ := y
  cases b <;> rfl
def K.strconv_Atoi : FC := fc 40 (fun _ => true) false (fun (a : Bytes) => [V.str a]) atoiE g.strconv_Atoi
  (fun _ => rfl) atoi_clean (fun _ _ h => V.str.inj (List.cons.inj h).1)
theorem repL1 {W : World} {G φ} {u : V} {xs : Array Value} (h : RepL W G φ [u] xs) : ∃ x, xs = #[x] /\ Rep W G φ u x := by
  obtain ⟨hl, h⟩ := h
  obtain ⟨l⟩ := xs
  match l, hl with
  | [x], _ => exact ⟨x, rfl, h 0 u x rfl rfl⟩
theorem rep_pair {W : World} {G φ} {u v : V} {x y : Value} (h : Rep W G φ u x) (k : Rep W G φ v y) : Rep W G φ (.tup [u, v]) (.tuple #[x, y]) :=
  .tup _ _ rfl fun i c z hc hz => by
    match i with
    | 0 => simp at hc hz; subst hc; subst hz; exact h
    | 1 => simp at hc hz; subst hc; subst hz; exact k
    | i + 2 => simp at hc
theorem rep_err (W : World) (G φ) (N : Nat) : Rep W G φ errV (.iface 100 (.pointer (some ⟨N, 0, none⟩))) := by
  refine .iface _ _ _ ?_
  exact .el [] 0 N 0 (fun _ => undef) (Nat.zero_le _) (fun c hc => by cases hc) (fun k hk => by simp at hk) (fun k c hc => by simp at hc)
theorem H.strconv_Atoi (w : World) (hw : EnvE w) : K.strconv_Atoi.Holds (cxD w) := by
  rintro args y ⟨s, r, ha, hg, rfl⟩
  obtain ⟨u, v, rfl, h1, h2⟩ := nfL_cons ha
  obtain rfl := nfL_nil h2
  obtain rfl := nf_str h1
  simp only [g.strconv_Atoi] at hg
  split at hg
  . rename_i hc
    cases hg
    refine ⟨atoiE (atoiV s), false, ?_, atoi_nf _, fun h => nomatch h⟩
    refine PC.pure (callable_of Tryz.func40 (by kernel_rfl) (by kernel_rfl)) fun W G φ xs hW hxs => ?_
    obtain ⟨x, rfl, hx⟩ := repL1 hxs
    obtain ⟨t, rfl, rfl⟩ := rep_str hx
    have hsz : t.size <= 281474976710656 := by rw [Lib.size_eq]; exact hc
    cases hA : Lib.atoiAll t.data.toList with
    | ok v =>
      refine (Tryz.strconv_Atoi_ok t (by omega) v hA W).mono fun e W' ⟨he, hW'⟩ => ⟨_, he, ?_, fun W'' G' => ?_⟩
      . rcases hW' with rfl | ⟨q, rfl⟩
        . exact .refl _ _
        . exact Lib.bytesWorld_below _ _ _
      . have e : atoiE (atoiV t.data.toList) = .tup [.int .i64 v, .nilif] := by unfold atoiE atoiV; rw [hA]; rfl
        rw [e]; exact rep_pair (.int _ _) .nilif
    | «syntax» =>
      obtain ⟨ev, hcell, hev⟩ := hw.syn.at hW
      refine (Tryz.strconv_Atoi_syntax t hsz hA ev W hcell hev).mono fun e W' ⟨N, he, _, _, hB⟩ => ⟨_, he, hB, fun W'' G' => ?_⟩
      have e : atoiE (atoiV t.data.toList) = .tup [.int .i64 0, errV] := by unfold atoiE atoiV; rw [hA]; rfl
      rw [e]; exact rep_pair (.int _ _) (rep_err _ _ _ _)
    | range =>
      obtain ⟨ev, hcell, hev⟩ := hw.rng.at hW
      refine (Tryz.strconv_Atoi_range t hsz hA ev W hcell hev).mono fun e W' ⟨N, he, _, _, hB⟩ => ⟨_, he, hB, fun W'' G' => ?_⟩
      have e : atoiE (atoiV t.data.toList) = .tup [.int .i64 (Lib.atoiSat t.data.toList), errV] := by unfold atoiE atoiV; rw [hA]; rfl
      rw [e]; exact rep_pair (.int _ _) (rep_err _ _ _ _)
  . cases hg
def g.strconv_Itoa (n : Int) : Option Bytes := if -9223372036854775808 <= n /\ n <= 9223372036854775807 then some (Lib.itoa n) else none
def K.strconv_Itoa : FC := fc 41 (fun _ => true) false (fun (n : Int) => [V.int .i64 n]) (fun (y : Bytes) => .str y) g.strconv_Itoa
  (fun _ => rfl) (fun _ => rfl) (fun _ _ h => (V.int.inj (List.cons.inj h).1).2)
theorem H.strconv_Itoa (w : World) (hw : EnvE w) : K.strconv_Itoa.Holds (cxD w) := by
  rintro args y ⟨n, r, ha, hg, rfl⟩
  obtain ⟨u, v, rfl, h1, h2⟩ := nfL_cons ha
  obtain rfl := nfL_nil h2
  obtain rfl := nf_int h1
  simp only [g.strconv_Itoa] at hg
  split at hg
  . rename_i hc
    cases hg
    refine ⟨.str _, false, ?_, rfl, fun h => nomatch h⟩
    refine PC.pure (callable_of Tryz.func41 (by kernel_rfl) (by kernel_rfl)) fun W G φ xs hW hxs => ?_
    obtain ⟨x, rfl, hx⟩ := repL1 hxs
    cases hx
    refine (Tryz.strconv_Itoa n hc.1 hc.2 W (tab_at hw.tab hW)).mono fun e W' ⟨he, k, os, hW'⟩ => ⟨_, he, ?_, fun W'' G' => .str _ _ rfl⟩
    rw [hW']
    exact ⟨rfl, rfl, rfl, by show W.heap.size <= (W.heap ++ os).size; rw [Array.size_append]; omega, fun j hj => by show (W.heap ++ os)[j]? = W.heap[j]?; exact Array.getElem?_append_left hj⟩
  . cases hg
theorem laid_on {P : Program} {x : String × DataW Unit} {r : List (String × DataW Unit)} {W : World} (h : laidMet P (x :: r) W) : laidMet P r W := by
  obtain ⟨ps, hv, hnd, hrows⟩ := h
  obtain ⟨g, t, cs, fuel, p, q, _, _, _, _, hq, rfl⟩ := hv
  exact ⟨q, hq, List.Nodup.sublist (List.sublist_append_right _ _) hnd, fun b off hm => hrows b off (List.mem_append_right _ hm)⟩
theorem isErr_of {P : Program} {n : String} {g : Nat} {W : World} {tp : TypeId} {a : Addr} (hg : P.globalNamed n = some g) (h : W.var? P n = some #[.iface tp (.pointer (some a))]) : IsErr W g :=
  ⟨_, by have h0 := World.var?_cell hg h 0; simpa using h0, .inr ⟨_, _, rfl⟩⟩
end Go.Proofs.YtanocopjancaiaaGreatDoor
namespace Go.Proofs.YtanocopjancaiaaGreatDoor
open Go.Abs
def E.Lstring (l : (List Bytes)) : V := .sl false 1 (l.map V.str)
theorem E.Lstring_clean (l : (List Bytes)) : (E.Lstring l).clean = true := cleanL_map (fun x => rfl) l
structure T.Config where
  OS : Bytes
  Arch : Bytes
  Cgo : Bool
  Level : Int
  Tags : (List Bytes)
  deriving DecidableEq
def C.Config (x : T.Config) : List V := [(V.str x.OS)] ++ [(V.str x.Arch)] ++ [(V.bool x.Cgo)] ++ [(V.int .i64 x.Level)] ++ [(V.sl false 1 (List.map V.str x.Tags))]
def E.Config (x : T.Config) : V := .agg (C.Config x)
theorem E.Config_clean (x : T.Config) : (E.Config x).clean = true := (clean_app (clean_app (clean_app (clean_app (cleanL_mk rfl rfl) (cleanL_mk rfl rfl)) (cleanL_mk rfl rfl)) (cleanL_mk rfl rfl)) (cleanL_mk (E.Lstring_clean x.Tags) rfl))
structure T.Import where
  Name : Bytes
  Path : Bytes
  At : Int
  deriving DecidableEq
def C.Import (x : T.Import) : List V := [(V.str x.Name)] ++ [(V.str x.Path)] ++ [(V.int .i64 x.At)]
def E.Import (x : T.Import) : V := .agg (C.Import x)
theorem E.Import_clean (x : T.Import) : (E.Import x).clean = true := (clean_app (clean_app (cleanL_mk rfl rfl) (cleanL_mk rfl rfl)) (cleanL_mk rfl rfl))
def E.LImport (l : (List T.Import)) : V := .sl false 3 (l.map E.Import)
theorem E.LImport_clean (l : (List T.Import)) : (E.LImport l).clean = true := cleanL_map (fun x => E.Import_clean x) l
structure T.Header where
  Name : Bytes
  Imports : (List T.Import)
  Build : Bytes
  Embeds : (List Bytes)
  Fault : Int
  At : Int
  deriving DecidableEq
def C.Header (x : T.Header) : List V := [(V.str x.Name)] ++ [(V.sl false 3 (List.map E.Import x.Imports))] ++ [(V.str x.Build)] ++ [(V.sl false 1 (List.map V.str x.Embeds))] ++ [(V.int .i64 x.Fault)] ++ [(V.int .i64 x.At)]
def E.Header (x : T.Header) : V := .agg (C.Header x)
theorem E.Header_clean (x : T.Header) : (E.Header x).clean = true := (clean_app (clean_app (clean_app (clean_app (clean_app (cleanL_mk rfl rfl) (cleanL_mk (E.LImport_clean x.Imports) rfl)) (cleanL_mk rfl rfl)) (cleanL_mk (E.Lstring_clean x.Embeds) rfl)) (cleanL_mk rfl rfl)) (cleanL_mk rfl rfl))
end Go.Proofs.YtanocopjancaiaaGreatDoor
namespace Go.Abs
variable {P : Program} {tabs : List FE} {ow : Cfg}
structure Ent (P : Program) (tabs : List FE) (ow : Cfg) where
  f : Nat
  l : Nat
  g : Gam -> List V -> Option V
  ok : ∀ (e : Nat -> List V -> Option V) (Γ : Gam) (xs : List V) (r : V), g Γ xs = some r -> Go.Abs.step P tabs e ow Γ f l xs = some r
section
variable {f l : Nat}
def ar0 (a : Gam -> Option V) : Gam -> List V -> Option V := fun Γ xs => match xs with | [] => a Γ  | _ => none
theorem ok0 {a : Gam -> Option V} (h : ∀ (e : Nat -> List V -> Option V) (Γ : Gam), Go.Abs.step P tabs e ow Γ f l [] = a Γ ) (e : Nat -> List V -> Option V) (Γ : Gam) (xs : List V) (r : V) (hr : ar0 a Γ xs = some r) : Go.Abs.step P tabs e ow Γ f l xs = some r := by
  unfold ar0 at hr
  split at hr
  . rw [h]; exact hr
  . cases hr
def ar1 (a : Gam -> V -> Option V) : Gam -> List V -> Option V := fun Γ xs => match xs with | [v0] => a Γ v0 | _ => none
theorem ok1 {a : Gam -> V -> Option V} (h : ∀ (e : Nat -> List V -> Option V) (Γ : Gam) (v0 : V), Go.Abs.step P tabs e ow Γ f l [v0] = a Γ v0) (e : Nat -> List V -> Option V) (Γ : Gam) (xs : List V) (r : V) (hr : ar1 a Γ xs = some r) : Go.Abs.step P tabs e ow Γ f l xs = some r := by
  unfold ar1 at hr
  split at hr
  . rw [h]; exact hr
  . cases hr
def ar2 (a : Gam -> V -> V -> Option V) : Gam -> List V -> Option V := fun Γ xs => match xs with | [v0, v1] => a Γ v0 v1 | _ => none
theorem ok2 {a : Gam -> V -> V -> Option V} (h : ∀ (e : Nat -> List V -> Option V) (Γ : Gam) (v0 v1 : V), Go.Abs.step P tabs e ow Γ f l [v0, v1] = a Γ v0 v1) (e : Nat -> List V -> Option V) (Γ : Gam) (xs : List V) (r : V) (hr : ar2 a Γ xs = some r) : Go.Abs.step P tabs e ow Γ f l xs = some r := by
  unfold ar2 at hr
  split at hr
  . rw [h]; exact hr
  . cases hr
def ar3 (a : Gam -> V -> V -> V -> Option V) : Gam -> List V -> Option V := fun Γ xs => match xs with | [v0, v1, v2] => a Γ v0 v1 v2 | _ => none
theorem ok3 {a : Gam -> V -> V -> V -> Option V} (h : ∀ (e : Nat -> List V -> Option V) (Γ : Gam) (v0 v1 v2 : V), Go.Abs.step P tabs e ow Γ f l [v0, v1, v2] = a Γ v0 v1 v2) (e : Nat -> List V -> Option V) (Γ : Gam) (xs : List V) (r : V) (hr : ar3 a Γ xs = some r) : Go.Abs.step P tabs e ow Γ f l xs = some r := by
  unfold ar3 at hr
  split at hr
  . rw [h]; exact hr
  . cases hr
def ar4 (a : Gam -> V -> V -> V -> V -> Option V) : Gam -> List V -> Option V := fun Γ xs => match xs with | [v0, v1, v2, v3] => a Γ v0 v1 v2 v3 | _ => none
theorem ok4 {a : Gam -> V -> V -> V -> V -> Option V} (h : ∀ (e : Nat -> List V -> Option V) (Γ : Gam) (v0 v1 v2 v3 : V), Go.Abs.step P tabs e ow Γ f l [v0, v1, v2, v3] = a Γ v0 v1 v2 v3) (e : Nat -> List V -> Option V) (Γ : Gam) (xs : List V) (r : V) (hr : ar4 a Γ xs = some r) : Go.Abs.step P tabs e ow Γ f l xs = some r := by
  unfold ar4 at hr
  split at hr
  . rw [h]; exact hr
  . cases hr
def ar5 (a : Gam -> V -> V -> V -> V -> V -> Option V) : Gam -> List V -> Option V := fun Γ xs => match xs with | [v0, v1, v2, v3, v4] => a Γ v0 v1 v2 v3 v4 | _ => none
theorem ok5 {a : Gam -> V -> V -> V -> V -> V -> Option V} (h : ∀ (e : Nat -> List V -> Option V) (Γ : Gam) (v0 v1 v2 v3 v4 : V), Go.Abs.step P tabs e ow Γ f l [v0, v1, v2, v3, v4] = a Γ v0 v1 v2 v3 v4) (e : Nat -> List V -> Option V) (Γ : Gam) (xs : List V) (r : V) (hr : ar5 a Γ xs = some r) : Go.Abs.step P tabs e ow Γ f l xs = some r := by
  unfold ar5 at hr
  split at hr
  . rw [h]; exact hr
  . cases hr
def ar6 (a : Gam -> V -> V -> V -> V -> V -> V -> Option V) : Gam -> List V -> Option V := fun Γ xs => match xs with | [v0, v1, v2, v3, v4, v5] => a Γ v0 v1 v2 v3 v4 v5 | _ => none
theorem ok6 {a : Gam -> V -> V -> V -> V -> V -> V -> Option V} (h : ∀ (e : Nat -> List V -> Option V) (Γ : Gam) (v0 v1 v2 v3 v4 v5 : V), Go.Abs.step P tabs e ow Γ f l [v0, v1, v2, v3, v4, v5] = a Γ v0 v1 v2 v3 v4 v5) (e : Nat -> List V -> Option V) (Γ : Gam) (xs : List V) (r : V) (hr : ar6 a Γ xs = some r) : Go.Abs.step P tabs e ow Γ f l xs = some r := by
  unfold ar6 at hr
  split at hr
  . rw [h]; exact hr
  . cases hr
def ar7 (a : Gam -> V -> V -> V -> V -> V -> V -> V -> Option V) : Gam -> List V -> Option V := fun Γ xs => match xs with | [v0, v1, v2, v3, v4, v5, v6] => a Γ v0 v1 v2 v3 v4 v5 v6 | _ => none
theorem ok7 {a : Gam -> V -> V -> V -> V -> V -> V -> V -> Option V} (h : ∀ (e : Nat -> List V -> Option V) (Γ : Gam) (v0 v1 v2 v3 v4 v5 v6 : V), Go.Abs.step P tabs e ow Γ f l [v0, v1, v2, v3, v4, v5, v6] = a Γ v0 v1 v2 v3 v4 v5 v6) (e : Nat -> List V -> Option V) (Γ : Gam) (xs : List V) (r : V) (hr : ar7 a Γ xs = some r) : Go.Abs.step P tabs e ow Γ f l xs = some r := by
  unfold ar7 at hr
  split at hr
  . rw [h]; exact hr
  . cases hr
def ar8 (a : Gam -> V -> V -> V -> V -> V -> V -> V -> V -> Option V) : Gam -> List V -> Option V := fun Γ xs => match xs with | [v0, v1, v2, v3, v4, v5, v6, v7] => a Γ v0 v1 v2 v3 v4 v5 v6 v7 | _ => none
theorem ok8 {a : Gam -> V -> V -> V -> V -> V -> V -> V -> V -> Option V} (h : ∀ (e : Nat -> List V -> Option V) (Γ : Gam) (v0 v1 v2 v3 v4 v5 v6 v7 : V), Go.Abs.step P tabs e ow Γ f l [v0, v1, v2, v3, v4, v5, v6, v7] = a Γ v0 v1 v2 v3 v4 v5 v6 v7) (e : Nat -> List V -> Option V) (Γ : Gam) (xs : List V) (r : V) (hr : ar8 a Γ xs = some r) : Go.Abs.step P tabs e ow Γ f l xs = some r := by
  unfold ar8 at hr
  split at hr
  . rw [h]; exact hr
  . cases hr
def ar9 (a : Gam -> V -> V -> V -> V -> V -> V -> V -> V -> V -> Option V) : Gam -> List V -> Option V := fun Γ xs => match xs with | [v0, v1, v2, v3, v4, v5, v6, v7, v8] => a Γ v0 v1 v2 v3 v4 v5 v6 v7 v8 | _ => none
theorem ok9 {a : Gam -> V -> V -> V -> V -> V -> V -> V -> V -> V -> Option V} (h : ∀ (e : Nat -> List V -> Option V) (Γ : Gam) (v0 v1 v2 v3 v4 v5 v6 v7 v8 : V), Go.Abs.step P tabs e ow Γ f l [v0, v1, v2, v3, v4, v5, v6, v7, v8] = a Γ v0 v1 v2 v3 v4 v5 v6 v7 v8) (e : Nat -> List V -> Option V) (Γ : Gam) (xs : List V) (r : V) (hr : ar9 a Γ xs = some r) : Go.Abs.step P tabs e ow Γ f l xs = some r := by
  unfold ar9 at hr
  split at hr
  . rw [h]; exact hr
  . cases hr
def ar11 (a : Gam -> V -> V -> V -> V -> V -> V -> V -> V -> V -> V -> V -> Option V) : Gam -> List V -> Option V := fun Γ xs => match xs with | [v0, v1, v2, v3, v4, v5, v6, v7, v8, v9, v10] => a Γ v0 v1 v2 v3 v4 v5 v6 v7 v8 v9 v10 | _ => none
theorem ok11 {a : Gam -> V -> V -> V -> V -> V -> V -> V -> V -> V -> V -> V -> Option V} (h : ∀ (e : Nat -> List V -> Option V) (Γ : Gam) (v0 v1 v2 v3 v4 v5 v6 v7 v8 v9 v10 : V), Go.Abs.step P tabs e ow Γ f l [v0, v1, v2, v3, v4, v5, v6, v7, v8, v9, v10] = a Γ v0 v1 v2 v3 v4 v5 v6 v7 v8 v9 v10) (e : Nat -> List V -> Option V) (Γ : Gam) (xs : List V) (r : V) (hr : ar11 a Γ xs = some r) : Go.Abs.step P tabs e ow Γ f l xs = some r := by
  unfold ar11 at hr
  split at hr
  . rw [h]; exact hr
  . cases hr
end
def look (f l : Nat) : List (Ent P tabs ow) -> Option (Ent P tabs ow)
  | [] => none
  | q :: r => match Nat.beq q.f f && Nat.beq q.l l with | true => some q | false => look f l r
theorem look_ok {f l : Nat} : ∀ {T : List (Ent P tabs ow)} {q : Ent P tabs ow}, look f l T = some q -> q.f = f /\ q.l = l
  | [], _, h => by cases h
  | p :: r, q, h => by
    unfold look at h
    split at h
    . rename_i hb
      cases h
      simp only [Bool.and_eq_true] at hb
      exact ⟨Nat.eq_of_beq_eq_true hb.1, Nat.eq_of_beq_eq_true hb.2⟩
    . exact look_ok h
def runY (T : List (Ent P tabs ow)) (e0 : Nat -> List V -> Option V) : Nat -> Gam
  | 0 => fun _ _ _ => none
  | n + 1 => fun f l xs => match look f l T with
    | some q => q.g (runY T e0 n) xs
    | none => match l with | 0 => e0 f xs | _ + 1 => none
theorem run_ok {T : List (Ent P tabs ow)} {e0 e : Nat -> List V -> Option V} (h0 : ∀ f xs r, e0 f xs = some r -> val P tabs e ow f 0 xs = some r) : ∀ n, Le (runY T e0 n) (val P tabs e ow)
  | 0 => fun _ _ _ _ h => by cases h
  | n + 1 => fun f l xs r h => by
    unfold runY at h
    split at h
    . rename_i q hq
      obtain ⟨rfl, rfl⟩ := look_ok hq
      have h1 := q.ok e _ xs r h
      rw [val_step]
      exact step_mono (run_ok h0 n) _ _ _ _ h1
    . split at h
      . exact h0 _ _ _ h
      . cases h
theorem run_eq {T : List (Ent P tabs ow)} {e0 e : Nat -> List V -> Option V} (h0 : ∀ f xs r, e0 f xs = some r -> val P tabs e ow f 0 xs = some r) (n : Nat) {f l : Nat} {xs : List V} {r : V} (h : runY T e0 n f l xs = some r) : val P tabs e ow f l xs = some r := run_ok h0 n f l xs r h
end Go.Abs
namespace Go.Proofs.YtanocopjancaiaaGreatDoor
open Go.Abs
noncomputable def ents0 : List (Ent Tryz.prog tabs cfg) := [
 ⟨4, 0, ar2 y.seichelaw16_CondHolds, ok2 s.seichelaw16_CondHolds⟩,
 ⟨12, 0, ar2 y.seicheref16_On, ok2 s.seicheref16_On⟩,
 ⟨12, 17, ar3 y.seicheref16_On_17, ok3 s.seicheref16_On_17⟩,
 ⟨16, 0, ar3 y.seicheref16_In, ok3 s.seicheref16_In⟩,
 ⟨16, 9, ar4 y.seicheref16_In_9, ok4 s.seicheref16_In_9⟩,
 ⟨16, 22, ar4 y.seicheref16_In_22, ok4 s.seicheref16_In_22⟩,
 ⟨16, 52, ar7 y.seicheref16_In_52, ok7 s.seicheref16_In_52⟩,
 ⟨20, 0, ar1 y.cond_level, ok1 s.cond_level⟩,
 ⟨24, 0, ar1 y.seicheref15_Unix, ok1 s.seicheref15_Unix⟩,
 ⟨32, 0, ar1 y.suffix_Of, ok1 s.suffix_Of⟩,
 ⟨32, 9, ar6 y.suffix_Of_9, ok6 s.suffix_Of_9⟩,
 ⟨32, 26, ar11 y.suffix_Of_26, ok11 s.suffix_Of_26⟩,
 ⟨36, 0, ar1 y.seicheref15_Of, ok1 s.seicheref15_Of⟩,
 ⟨36, 7, ar2 y.seicheref15_Of_7, ok2 s.seicheref15_Of_7⟩,
 ⟨36, 22, ar2 y.seicheref15_Of_22, ok2 s.seicheref15_Of_22⟩,
 ⟨36, 29, ar4 y.seicheref15_Of_29, ok4 s.seicheref15_Of_29⟩,
 ⟨44, 0, ar2 y.strings_HasPrefix, ok2 s.strings_HasPrefix⟩,
 ⟨48, 0, ar1 y.plus_Lines, ok1 s.plus_Lines⟩,
 ⟨52, 0, ar2 y.seicheref14_Cut, ok2 s.seicheref14_Cut⟩,
 ⟨52, 12, ar5 y.seicheref14_Cut_12, ok5 s.seicheref14_Cut_12⟩,
 ⟨56, 0, ar1 y.suffix_System, ok1 s.suffix_System⟩,
 ⟨60, 0, ar1 y.seicheref15_Processor, ok1 s.seicheref15_Processor⟩,
 ⟨72, 0, ar2 y.slices_ContainsFunc_Lbyte_byte, ok2 s.slices_ContainsFunc_Lbyte_byte⟩,
 ⟨80, 0, ar1 y.seicheref13_Sign, ok1 s.seicheref13_Sign⟩,
 ⟨96, 0, ar1 y.plus_option, ok1 s.plus_option⟩,
 ⟨100, 0, ar1 y.seicheref14_Term, ok1 s.seicheref14_Term⟩,
 ⟨5, 0, ar3 y.seichelaw16_CondIn, ok3 s.seichelaw16_CondIn⟩,
 ⟨9, 0, ar0 y.seichelaw16_alive, ok0 s.seichelaw16_alive⟩,
 ⟨13, 0, ar2 y.cond_Holds, ok2 s.cond_Holds⟩,
 ⟨17, 0, ar2 y.seicheref13_In, ok2 s.seicheref13_In⟩]
noncomputable def ents1 : List (Ent Tryz.prog tabs cfg) := [
 ⟨17, 8, ar4 y.seicheref13_In_8, ok4 s.seicheref13_In_8⟩,
 ⟨21, 0, ar1 y.suffix_Unix, ok1 s.suffix_Unix⟩,
 ⟨25, 0, ar1 y.plus_Parse, ok1 s.plus_Parse⟩,
 ⟨25, 18, ar4 y.plus_Parse_18, ok4 s.plus_Parse_18⟩,
 ⟨33, 0, ar2 y.slices_ContainsFunc_Lseiche_api_Import_seiche_api_Import, ok2 s.slices_ContainsFunc_Lseiche_api_Import_seiche_api_Import⟩,
 ⟨37, 0, ar2 y.seicheref15_Ends, ok2 s.seicheref15_Ends⟩,
 ⟨45, 0, ar1 y.expr_Parse, ok1 s.expr_Parse⟩,
 ⟨49, 0, ar1 y.expr_Tag, ok1 s.expr_Tag⟩,
 ⟨53, 0, ar1 y.seicheref14_Lines, ok1 s.seicheref14_Lines⟩,
 ⟨53, 10, ar4 y.seicheref14_Lines_10, ok4 s.seicheref14_Lines_10⟩,
 ⟨57, 0, ar1 y.suffix_Processor, ok1 s.suffix_Processor⟩,
 ⟨61, 0, ar2 y.internal_stringslite_CutPrefix, ok2 s.internal_stringslite_CutPrefix⟩,
 ⟨65, 0, ar2 y.internal_stringslite_HasPrefix, ok2 s.internal_stringslite_HasPrefix⟩,
 ⟨69, 0, ar2 y.internal_stringslite_TrimPrefix, ok2 s.internal_stringslite_TrimPrefix⟩,
 ⟨73, 0, ar1 y.expr_Tag_1, ok1 s.expr_Tag_1⟩,
 ⟨77, 0, ar1 y.seicheref14_Good, ok1 s.seicheref14_Good⟩,
 ⟨77, 8, ar4 y.seicheref14_Good_8, ok4 s.seicheref14_Good_8⟩,
 ⟨77, 22, ar7 y.seicheref14_Good_22, ok7 s.seicheref14_Good_22⟩,
 ⟨81, 0, ar2 y.internal_stringslite_CutSuffix, ok2 s.internal_stringslite_CutSuffix⟩,
 ⟨97, 0, ar2 y.slices_IndexFunc_Lbyte_byte, ok2 s.slices_IndexFunc_Lbyte_byte⟩,
 ⟨97, 8, ar4 y.slices_IndexFunc_Lbyte_byte_8, ok4 s.slices_IndexFunc_Lbyte_byte_8⟩,
 ⟨117, 0, ar1 y.plus_term, ok1 s.plus_term⟩,
 ⟨6, 0, ar4 y.seichelaw16_CondLevels, ok4 s.seichelaw16_CondLevels⟩,
 ⟨6, 15, ar5 y.seichelaw16_CondLevels_15, ok5 s.seichelaw16_CondLevels_15⟩,
 ⟨6, 46, ar4 y.seichelaw16_CondLevels_46, ok4 s.seichelaw16_CondLevels_46⟩,
 ⟨10, 0, ar1 y.seicheref16_Great, ok1 s.seicheref16_Great⟩,
 ⟨10, 10, ar5 y.seicheref16_Great_10, ok5 s.seicheref16_Great_10⟩,
 ⟨14, 0, ar2 y.seicheref16_Holds, ok2 s.seicheref16_Holds⟩,
 ⟨14, 28, ar6 y.seicheref16_Holds_28, ok6 s.seicheref16_Holds_28⟩,
 ⟨18, 0, ar0 y.seicheref15_Systems, ok0 s.seicheref15_Systems⟩]
noncomputable def ents2 : List (Ent Tryz.prog tabs cfg) := [
 ⟨22, 0, ar2 y.slices_Contains_Lstring_string, ok2 s.slices_Contains_Lstring_string⟩,
 ⟨26, 0, ar2 y.expr_Eval, ok2 s.expr_Eval⟩,
 ⟨26, 10, ar6 y.expr_Eval_10, ok6 s.expr_Eval_10⟩,
 ⟨26, 26, ar9 y.expr_Eval_26, ok9 s.expr_Eval_26⟩,
 ⟨30, 0, ar1 y.seicheref14_Parse, ok1 s.seicheref14_Parse⟩,
 ⟨30, 18, ar4 y.seicheref14_Parse_18, ok4 s.seicheref14_Parse_18⟩,
 ⟨34, 0, ar1 y.cond_In_1, ok1 s.cond_In_1⟩,
 ⟨38, 0, ar1 y.seicheref14_Words, ok1 s.seicheref14_Words⟩,
 ⟨38, 10, ar4 y.seicheref14_Words_10, ok4 s.seicheref14_Words_10⟩,
 ⟨38, 24, ar7 y.seicheref14_Words_24, ok7 s.seicheref14_Words_24⟩,
 ⟨42, 0, ar2 y.slices_Index_Lstring_string, ok2 s.slices_Index_Lstring_string⟩,
 ⟨42, 8, ar4 y.slices_Index_Lstring_string_8, ok4 s.slices_Index_Lstring_string_8⟩,
 ⟨54, 0, ar1 y.seicheref13_Tag, ok1 s.seicheref13_Tag⟩,
 ⟨54, 8, ar2 y.seicheref13_Tag_8, ok2 s.seicheref13_Tag_8⟩,
 ⟨58, 0, ar2 y.slices_IndexFunc_Lseiche_api_Import_seiche_api_Import, ok2 s.slices_IndexFunc_Lseiche_api_Import_seiche_api_Import⟩,
 ⟨58, 8, ar4 y.slices_IndexFunc_Lseiche_api_Import_seiche_api_Import_8, ok4 s.slices_IndexFunc_Lseiche_api_Import_seiche_api_Import_8⟩,
 ⟨70, 0, ar3 y.plus_joined, ok3 s.plus_joined⟩,
 ⟨70, 10, ar6 y.plus_joined_10, ok6 s.plus_joined_10⟩,
 ⟨74, 0, ar1 y.expr_tag, ok1 s.expr_tag⟩,
 ⟨78, 0, ar1 y.seicheref14_Line, ok1 s.seicheref14_Line⟩,
 ⟨78, 10, ar4 y.seicheref14_Line_10, ok4 s.seicheref14_Line_10⟩,
 ⟨7, 0, ar3 y.seichelaw16_CondOthers, ok3 s.seichelaw16_CondOthers⟩,
 ⟨7, 15, ar4 y.seichelaw16_CondOthers_15, ok4 s.seichelaw16_CondOthers_15⟩,
 ⟨7, 28, ar7 y.seichelaw16_CondOthers_28, ok7 s.seichelaw16_CondOthers_28⟩,
 ⟨11, 0, ar2 y.cond_On, ok2 s.cond_On⟩,
 ⟨11, 9, ar3 y.cond_On_9, ok3 s.cond_On_9⟩,
 ⟨11, 34, ar4 y.cond_On_34, ok4 s.cond_On_34⟩,
 ⟨15, 0, ar3 y.cond_In, ok3 s.cond_In⟩,
 ⟨15, 9, ar4 y.cond_In_9, ok4 s.cond_In_9⟩,
 ⟨19, 0, ar0 y.seicheref15_Processors, ok0 s.seicheref15_Processors⟩]
noncomputable def ents3 : List (Ent Tryz.prog tabs cfg) := [
 ⟨23, 0, ar1 y.seicheref16_Level, ok1 s.seicheref16_Level⟩,
 ⟨23, 7, ar2 y.seicheref16_Level_7, ok2 s.seicheref16_Level_7⟩,
 ⟨23, 18, ar3 y.seicheref16_Level_18, ok3 s.seicheref16_Level_18⟩,
 ⟨31, 0, ar2 y.seicheref13_Eval, ok2 s.seicheref13_Eval⟩,
 ⟨31, 10, ar5 y.seicheref13_Eval_10, ok5 s.seicheref13_Eval_10⟩,
 ⟨31, 29, ar8 y.seicheref13_Eval_29, ok8 s.seicheref13_Eval_29⟩,
 ⟨35, 0, ar2 y.strings_HasSuffix, ok2 s.strings_HasSuffix⟩,
 ⟨39, 0, ar2 y.strings_CutPrefix, ok2 s.strings_CutPrefix⟩,
 ⟨43, 0, ar1 y.seicheref15_System, ok1 s.seicheref15_System⟩,
 ⟨47, 0, ar2 y.strings_TrimPrefix, ok2 s.strings_TrimPrefix⟩,
 ⟨51, 0, ar1 y.seicheref13_Parse, ok1 s.seicheref13_Parse⟩,
 ⟨55, 0, ar2 y.strings_CutSuffix, ok2 s.strings_CutSuffix⟩,
 ⟨59, 0, ar2 y.internal_stringslite_HasSuffix, ok2 s.internal_stringslite_HasSuffix⟩,
 ⟨71, 0, ar1 y.plus_Line, ok1 s.plus_Line⟩,
 ⟨75, 0, ar1 y.seicheref13_Pieces, ok1 s.seicheref13_Pieces⟩,
 ⟨75, 10, ar3 y.seicheref13_Pieces_10, ok3 s.seicheref13_Pieces_10⟩,
 ⟨75, 22, ar4 y.seicheref13_Pieces_22, ok4 s.seicheref13_Pieces_22⟩,
 ⟨75, 31, ar4 y.seicheref13_Pieces_31, ok4 s.seicheref13_Pieces_31⟩,
 ⟨75, 42, ar5 y.seicheref13_Pieces_42, ok5 s.seicheref13_Pieces_42⟩,
 ⟨75, 51, ar4 y.seicheref13_Pieces_51, ok4 s.seicheref13_Pieces_51⟩,
 ⟨79, 0, ar2 y.seicheref14_wrap, ok2 s.seicheref14_wrap⟩,
 ⟨79, 10, ar6 y.seicheref14_wrap_10, ok6 s.seicheref14_wrap_10⟩,
 ⟨95, 0, ar1 y.plus_Line_1, ok1 s.plus_Line_1⟩,
 ⟨10448, 1, ar1 y.slices_Clone_Lstring_string_h0, ok1 s.slices_Clone_Lstring_string_h0⟩,
 ⟨11056, 1, ar4 y.seiche_expr_parser_or_h0, ok4 s.seiche_expr_parser_or_h0⟩,
 ⟨11216, 1, ar3 y.seiche_seicheref13_Read_Or_h0, ok3 s.seiche_seicheref13_Read_Or_h0⟩,
 ⟨11216, 8, ar4 y.seiche_seicheref13_Read_Or_h0_8, ok4 s.seiche_seicheref13_Read_Or_h0_8⟩,
 ⟨11408, 1, ar5 y.seiche_expr_parser_list_h0, ok5 s.seiche_expr_parser_list_h0⟩,
 ⟨11408, 16, ar5 y.seiche_expr_parser_list_h0_16, ok5 s.seiche_expr_parser_list_h0_16⟩,
 ⟨11568, 1, ar3 y.seiche_seicheref13_Read_And_h0, ok3 s.seiche_seicheref13_Read_And_h0⟩]
noncomputable def ents4 : List (Ent Tryz.prog tabs cfg) := [
 ⟨11568, 8, ar4 y.seiche_seicheref13_Read_And_h0_8, ok4 s.seiche_seicheref13_Read_And_h0_8⟩,
 ⟨11424, 1, ar4 y.seiche_expr_parser_and_h0, ok4 s.seiche_expr_parser_and_h0⟩,
 ⟨11888, 1, ar3 y.seiche_seicheref13_Read_Not_h0, ok3 s.seiche_seicheref13_Read_Not_h0⟩,
 ⟨11409, 1, ar5 y.seiche_expr_parser_list_h1, ok5 s.seiche_expr_parser_list_h1⟩,
 ⟨11409, 16, ar5 y.seiche_expr_parser_list_h1_16, ok5 s.seiche_expr_parser_list_h1_16⟩,
 ⟨11584, 1, ar4 y.seiche_seicheref13_Read_Take_h0, ok4 s.seiche_seicheref13_Read_Take_h0⟩,
 ⟨11744, 1, ar4 y.seiche_expr_parser_not_h0, ok4 s.seiche_expr_parser_not_h0⟩,
 ⟨11728, 1, ar5 y.seiche_expr_parser_takes_h0, ok5 s.seiche_expr_parser_takes_h0⟩,
 ⟨11072, 1, ar4 y.seiche_expr_parser_blanks_h0, ok4 s.seiche_expr_parser_blanks_h0⟩,
 ⟨11072, 3, ar4 y.seiche_expr_parser_blanks_h0_3, ok4 s.seiche_expr_parser_blanks_h0_3⟩,
 ⟨10432, 1, ar3 y.slices_DeleteFunc_Lstring_string_h0, ok3 s.slices_DeleteFunc_Lstring_string_h0⟩,
 ⟨10432, 18, ar5 y.slices_DeleteFunc_Lstring_string_h0_18, ok5 s.slices_DeleteFunc_Lstring_string_h0_18⟩,
 ⟨12144, 1, ar3 y.seiche_seicheref13_Read_Part_h0, ok3 s.seiche_seicheref13_Read_Part_h0⟩,
 ⟨10800, 1, ar3 y.slices_IndexFunc_Lstring_string_h0, ok3 s.slices_IndexFunc_Lstring_string_h0⟩,
 ⟨10800, 8, ar5 y.slices_IndexFunc_Lstring_string_h0_8, ok5 s.slices_IndexFunc_Lstring_string_h0_8⟩,
 ⟨10464, 1, ar2 y.cond_Holds_1_h0, ok2 s.cond_Holds_1_h0⟩,
 ⟨12016, 1, ar4 y.seiche_expr_parser_part_h0, ok4 s.seiche_expr_parser_part_h0⟩,
 ⟨12016, 48, ar5 y.seiche_expr_parser_part_h0_48, ok5 s.seiche_expr_parser_part_h0_48⟩]
noncomputable def ents : List (Ent Tryz.prog tabs cfg) := ents0 ++ ents1 ++ ents2 ++ ents3 ++ ents4
end Go.Proofs.YtanocopjancaiaaGreatDoor
namespace Go.Proofs.YtanocopjancaiaaGreatDoor
open Go.Abs
set_option maxRecDepth 10000
structure EnvC (e : Ev) : Prop where
  split : ∀ (s : Bytes) (c : UInt8), s.length < 4294967281 -> e 46 [.str s, .str [c]] = some (strs (splitOn c s))
  atoi : ∀ s : Bytes, s.length <= 281474976710656 -> e 40 [.str s] = some (atoiE (atoiV s))
  itoa : ∀ n : Int, -9223372036854775808 <= n -> n <= 9223372036854775807 -> e 41 [I n] = some (.str (Lib.itoa n))
variable {e : Ev}
theorem v.atoi (he : EnvC e) (s : Bytes) (hs : s.length <= 281474976710656) : vl e 40 0 [.str s] = some (atoiE (atoiV s)) := val_ext (by kernel_rfl) (he.atoi s hs)
theorem v.splitC (he : EnvC e) (s : Bytes) (c : UInt8) (hs : s.length < 4294967281) : vl e 46 0 [.str s, .str [c]] = some (strs (splitOn c s)) := val_ext (by kernel_rfl) (he.split s c hs)
theorem v.itoa (he : EnvC e) (n : Int) (h0 : -9223372036854775808 <= n) (h1 : n <= 9223372036854775807) : vl e 41 0 [I n] = some (.str (Lib.itoa n)) := val_ext (by kernel_rfl) (he.itoa n h0 h1)
def e16 : Nat -> List V -> Option V := fun f xs => match f, xs with
  | 46, [.str s, .str [c]] => if s.length < 4294967281 then some (strs (splitOn c s)) else none
  | 40, [.str [50, 48]] => some (.tup [I 20, .nilif])
  | 40, [.str [50, 49]] => some (.tup [I 21, .nilif])
  | 41, [.int .i64 20] => some (.str [50, 48])
  | 41, [.int .i64 21] => some (.str [50, 49])
  | _, _ => none
theorem itoa20 : Lib.itoa 20 = [50, 48] := by simp [Lib.itoa, Lib.decDigits]
theorem itoa21 : Lib.itoa 21 = [50, 49] := by simp [Lib.itoa, Lib.decDigits]
theorem e16_ok (he : EnvC e) (f : Nat) (xs : List V) (r : V) (h : e16 f xs = some r) : vl e f 0 xs = some r := by
  unfold e16 at h
  split at h
  . split at h
    . cases h; rename_i hlt; exact v.splitC he _ _ hlt
    . cases h
  . cases h; exact v.atoi he _ (by simp)
  . cases h; exact v.atoi he _ (by simp)
  . cases h; rw [<- itoa20]; exact v.itoa he _ (by omega) (by omega)
  . cases h; rw [<- itoa21]; exact v.itoa he _ (by omega) (by omega)
  . cases h
theorem v.alive16 (he : EnvC e) : vl e 9 0 [] = some (.bool true) := run_eq (T := ents) (e16_ok he) 100 (by kernel_rfl)
abbrev cfV (o a : Bytes) (g : Bool) (lv : Int) (t : List Bytes) : V := .agg [.str o, .str a, .bool g, I lv, strs t]
theorem v_scs5 {o a : Bytes} {g : Bool} {lv : Int} {t : List Bytes} : evp .scs [cfV o a g lv t] = some (cfV o a g lv t) := rfl
def lvB (t : Bytes) : Int × Bool :=
  if t.take 4 = [103, 111, 49, 46] then
    (if t.drop 4 = [] then (0, false) else if 4 < (t.drop 4).length then (0, false) else if (t.drop 4).headD 0 = 48 then (0, false)
     else ((atoiV (t.drop 4)).1, (atoiV (t.drop 4)).2 && decide (Lib.itoa (atoiV (t.drop 4)).1 = t.drop 4)))
  else (0, false)
theorem atoi_bounds (s : Bytes) : -9223372036854775808 <= (atoiV s).1 /\ (atoiV s).1 <= 9223372036854775807 := by
  unfold atoiV
  cases h : Lib.atoiAll s with
  | ok v => exact Lib.atoiAll_bounds h
  | «syntax» => simp
  | range => exact Lib.atoiSat_bounds s
theorem v.level (he : EnvC e) (t : Bytes) (ht : t.length <= 1000000) : vl e 20 0 [.str t] = some (.tup [I (lvB t).1, .bool (lvB t).2]) := by
  rw [w.cond_level]; unfold y.cond_level
  have hcp := v.cutPrefix (e := e) t [103, 111, 49, 46]
  unfold lvB
  by_cases h1 : t.take 4 = [103, 111, 49, 46]
  . rw [if_pos h1]
    have e4 : ([103, 111, 49, 46] : Bytes).length = 4 := rfl
    rw [e4, if_pos h1, decide_eq_true h1] at hcp
    generalize hs : t.drop 4 = s at hcp ⊢
    have hsl : s.length <= 1000000 := by rw [<- hs, List.length_drop]; omega
    by_cases h2 : s = []
    . simp only [yy, hcp, if_pos h2]
    . by_cases h3 : 4 < s.length
      . simp only [yy, hcp, if_neg h2, if_pos h3, if_pos (show (4 : Int) < (s.length : Int) by omega)]
      . obtain ⟨b, q, rfl⟩ : ∃ b q, s = b :: q := by
          cases s with
          | nil => exact absurd rfl h2
          | cons b q => exact ⟨b, q, rfl⟩
        have hi : evp .idx [.str (b :: q), .int .i64 0] = some (byteV b) := v_idx (i := 0) rfl
        by_cases h4 : b = 48
        . subst h4
          simp only [yy, hcp, if_neg h2, if_neg h3, if_neg (show ¬(4 : Int) < (((48 : UInt8) :: q).length : Int) by omega), hi, byteV, List.headD_cons, if_true]
          rfl
        . have hne : ¬((b.toNat : Int) = 48) := fun h => h4 (UInt8.toNat_inj.1 (by rw [show (48 : UInt8).toNat = 48 from rfl]; omega))
          obtain ⟨b1, b2⟩ := atoi_bounds (b :: q)
          have hat := v.atoi he (b :: q) (by omega)
          have hit := v.itoa he _ b1 b2
          generalize atoiV (b :: q) = z at hat hit b1 b2 ⊢
          obtain ⟨m, ok⟩ := z
          cases ok with
          | false =>
            have hn : evp (.bin .eql .iface) [errV, .nilif] = some (.bool false) := rfl
            simp only [yy, hcp, if_neg h2, if_neg h3, if_neg (show ¬(4 : Int) < (((b :: q).length : Nat) : Int) by omega), hi, byteV, if_neg hne, List.headD_cons, if_neg h4, hat, atoiE, hn, Bool.false_eq_true, if_false, Bool.false_and]
          | true =>
            have hn : evp (.bin .eql .iface) [.nilif, .nilif] = some (.bool true) := rfl
            simp only [yy, hcp, if_neg h2, if_neg h3, if_neg (show ¬(4 : Int) < (((b :: q).length : Nat) : Int) by omega), hi, byteV, if_neg hne, List.headD_cons, if_neg h4, hat, atoiE, hn, if_true, hit, Bool.true_and]
  . rw [if_neg h1]
    have e4 : ([103, 111, 49, 46] : Bytes).length = 4 := rfl
    rw [e4, if_neg h1, decide_eq_false h1] at hcp
    simp only [yy, hcp]
def alikeL : List Bytes := [[97, 105, 120], [97, 110, 100, 114, 111, 105, 100], [100, 97, 114, 119, 105, 110], [100, 114, 97, 103, 111, 110, 102, 108, 121], [102, 114, 101, 101, 98, 115, 100], [105, 108, 108, 117, 109, 111, 115], [105, 111, 115], [108, 105, 110, 117, 120], [110, 101, 116, 98, 115, 100], [111, 112, 101, 110, 98, 115, 100], [115, 111, 108, 97, 114, 105, 115]]
theorem v.Unix (o : Bytes) : vl e 21 0 [.str o] = some (.bool (inB alikeL o)) := by
  rw [w.suffix_Unix]; unfold y.suffix_Unix
  have h := v.Contains (e := e) alikeL o (by decide)
  refine bind_eq (v := strs alikeL) rfl ?_
  simp only [yy, h]
def plainB (o a : Bytes) (g : Bool) (ts : List Bytes) (t : Bytes) : Bool :=
  if t = [] then false else if t = o \/ t = a \/ t = [103, 99] then true
  else if t = [117, 110, 105, 120] then inB alikeL o else if t = [99, 103, 111] then g
  else if t = [108, 105, 110, 117, 120] then (if o = [97, 110, 100, 114, 111, 105, 100] then true else inB ts t)
  else if t = [115, 111, 108, 97, 114, 105, 115] then (if o = [105, 108, 108, 117, 109, 111, 115] then true else inB ts t)
  else if t = [100, 97, 114, 119, 105, 110] then (if o = [105, 111, 115] then true else inB ts t)
  else inB ts t
def onB (o a : Bytes) (g : Bool) (lv : Int) (ts : List Bytes) (t : Bytes) : Bool := ((lvB t).2 && decide ((lvB t).1 <= lv)) || plainB o a g ts t
theorem v.On34 (o a : Bytes) (g : Bool) (lv : Int) (ts : List Bytes) (hl : ts.length <= 1000000000) (t : Bytes) (h0 : t ≠ []) (b : Bool) (hb : b = decide (t = o \/ t = a \/ t = [103, 99])) :
    vl e 11 34 [.str t, .str t, .bool b, cfV o a g lv ts] = some (.bool (plainB o a g ts t)) := by
  rw [w.cond_On_34]; unfold y.cond_On_34 plainB
  rw [if_neg h0]
  have hc := v.Contains (e := e) ts t hl
  by_cases h1 : t = o \/ t = a \/ t = [103, 99]
  . rw [hb, decide_eq_true h1, if_pos h1]; simp only [yy, ]
  . rw [hb, decide_eq_false h1, if_neg h1]
    have e0 : evp (.ld none 0) [cfV o a g lv ts] = some (.str o) := rfl
    have e2 : evp (.ld none 2) [cfV o a g lv ts] = some (.bool g) := rfl
    have e4 : evp (.ld none 4) [cfV o a g lv ts] = some (strs ts) := rfl
    simp only [yy, e0, e2, e4, v.Unix, hc]
    by_cases h2 : t = [117, 110, 105, 120]
    . simp only [if_pos h2]
    . by_cases h3 : t = [99, 103, 111]
      . simp only [if_neg h2, if_pos h3]
      . by_cases h4 : t = [108, 105, 110, 117, 120]
        . simp only [if_neg h2, if_neg h3, if_pos h4]; split <;> rfl
        . by_cases h5 : t = [115, 111, 108, 97, 114, 105, 115]
          . simp only [if_neg h2, if_neg h3, if_neg h4, if_pos h5]; split <;> rfl
          . by_cases h6 : t = [100, 97, 114, 119, 105, 110]
            . simp only [if_neg h2, if_neg h3, if_neg h4, if_neg h5, if_pos h6]; split <;> rfl
            . simp only [if_neg h2, if_neg h3, if_neg h4, if_neg h5, if_neg h6]
theorem v.On (he : EnvC e) (o a : Bytes) (g : Bool) (lv : Int) (ts : List Bytes) (hl : ts.length <= 1000000000) (t : Bytes) (ht : t.length <= 1000000) :
    vl e 11 0 [cfV o a g lv ts, .str t] = some (.bool (onB o a g lv ts t)) := by
  rw [w.cond_On]; unfold y.cond_On onB
  have h9 : ∀ b : Bool, vl e 11 9 [.str t, .bool b, cfV o a g lv ts] = some (.bool (b || plainB o a g ts t)) := by
    intro b
    rw [w.cond_On_9]; unfold y.cond_On_9
    cases b with
    | true => simp only [yy, Bool.true_or]
    | false =>
      have e0 : evp (.ld none 0) [cfV o a g lv ts] = some (.str o) := rfl
      have e1 : evp (.ld none 1) [cfV o a g lv ts] = some (.str a) := rfl
      by_cases h0 : t = []
      . simp only [yy, if_pos h0, Bool.false_or]; unfold plainB; rw [if_pos h0]
      . by_cases h1 : t = o
        . simp only [yy, if_neg h0, e0, if_pos h1, Bool.false_or, v.On34 o a g lv ts hl t h0 true (by simp [h1])]
        . by_cases h2 : t = a
          . simp only [yy, if_neg h0, e0, if_neg h1, e1, if_pos h2, Bool.false_or, v.On34 o a g lv ts hl t h0 true (by simp [h2])]
          . simp only [yy, if_neg h0, e0, if_neg h1, e1, if_neg h2, Bool.false_or]
            exact v.On34 o a g lv ts hl t h0 _ (by simp [h1, h2])
  have e3 : evp (.ld none 3) [cfV o a g lv ts] = some (I lv) := rfl
  simp only [yy, v_scs5, v.level he t ht]
  cases hb : (lvB t).2 with
  | false => simp only [h9, Bool.false_and]; rfl
  | true => simp only [e3, Option.bind_some, v_leq, h9, Bool.true_and]; rfl
end Go.Proofs.YtanocopjancaiaaGreatDoor
namespace Go.Proofs.YtanocopjancaiaaGreatDoor
open Go.Abs
set_option maxRecDepth 10000
variable {e : Ev}
def digs : Bytes -> Nat -> Nat
  | [], n => n
  | c :: r, n => if c.toNat < 48 then 0 else if 57 < c.toNat then 0 else digs r (10 * n + (c.toNat - 48))
def rlB (t : Bytes) : Nat := if t.length < 5 \/ 8 < t.length then 0 else if t.take 4 = [103, 111, 49, 46] then (if (t.drop 4).headD 0 = 48 then 0 else digs (t.drop 4) 0) else 0
theorem v.rLevel18 (t : Bytes) (ht : t.length <= 8) : ∀ (k i n : Nat), i + k = t.length -> n < 10 ^ (i + 1) -> vl e 23 18 [.str t, I n, I i] = some (I (digs (t.drop i) n)) := by
  intro k
  induction k with
  | zero =>
    intro i n hi _
    rw [w.seicheref16_Level_18]; unfold y.seicheref16_Level_18
    rw [List.drop_eq_nil_of_le (by omega)]
    simp only [yy, if_neg (show ¬((i : Int) < (t.length : Int)) by omega)]; rfl
  | succ k ih =>
    intro i n hi hn
    have hlt : i < t.length := by omega
    have hd : t.drop i = t[i] :: t.drop (i + 1) := List.drop_eq_getElem_cons hlt
    have hidx : evp .idx [.str t, I i] = some (byteV t[i]) := v_idx (List.getElem?_eq_getElem hlt)
    have hc := t[i].toNat_lt
    have hp : (10 : Nat) ^ (i + 1) <= 10 ^ 8 := Nat.pow_le_pow_right (by decide) (by omega)
    have hp2 : (10 : Nat) ^ (i + 2) = 10 * 10 ^ (i + 1) := by rw [Nat.pow_succ]; omega
    rw [w.seicheref16_Level_18]; unfold y.seicheref16_Level_18
    rw [hd]
    unfold digs
    generalize t[i] = c at *
    by_cases h1 : c.toNat < 48
    . simp only [yy, if_pos (show (i : Int) < (t.length : Int) by omega), hidx, byteV, if_pos (show (c.toNat : Int) < 48 by omega), if_pos h1]; rfl
    . by_cases h2 : 57 < c.toNat
      . simp only [yy, if_pos (show (i : Int) < (t.length : Int) by omega), hidx, byteV, if_neg (show ¬(c.toNat : Int) < 48 by omega), if_neg h1, if_pos h2, if_pos (show (57 : Int) < (c.toNat : Int) by omega)]; rfl
      . have hm : evp (.bin .mul .no) [.int .i64 10, I n] = some (I ((10 * n : Nat) : Int)) := by
          rw [v_mul]
          have : (10 : Int) * (n : Int) = ((10 * n : Nat) : Int) := by simp
          rw [this, w64 _ (by omega)]
        have hs : IntKind.u8.wrap ((c.toNat : Int) - 48) = ((c.toNat - 48 : Nat) : Int) := by
          have : (c.toNat : Int) - 48 = ((c.toNat - 48 : Nat) : Int) := by omega
          rw [this]
          simp [IntKind.wrap, IntKind.signed, IntKind.bits]; omega
        have hi2 : evp (.i2i .i64) [.int .u8 ((c.toNat - 48 : Nat) : Int)] = some (I ((c.toNat - 48 : Nat) : Int)) := by
          show some (V.int .i64 (IntKind.i64.wrap _)) = _
          rw [w64 _ (by omega)]
        have ha : IntKind.i64.wrap (((10 * n : Nat) : Int) + ((c.toNat - 48 : Nat) : Int)) = ((10 * n + (c.toNat - 48) : Nat) : Int) := by
          rw [<- Int.natCast_add]; exact w64 _ (by omega)
        have := ih (i + 1) (10 * n + (c.toNat - 48)) (by omega) (by omega)
        simp only [yy, if_pos (show (i : Int) < (t.length : Int) by omega), hidx, byteV, if_neg (show ¬(c.toNat : Int) < 48 by omega), if_neg h1, if_neg h2, if_neg (show ¬(57 : Int) < (c.toNat : Int) by omega), hm, hs, hi2, ha, next64 hlt (by omega)]
        exact this
theorem v.rLevel (t : Bytes) (ht : t.length <= 1000000) : vl e 23 0 [.str t] = some (I (rlB t)) := by
  have h7 : ∀ b : Bool, vl e 23 7 [.str t, .bool b] = if b = true then some (I 0) else vl e 23 18 [.str t, I 0, I 4] := by
    intro b
    rw [w.seicheref16_Level_7]; unfold y.seicheref16_Level_7
    cases b <;> rfl
  rw [w.seicheref16_Level]; unfold y.seicheref16_Level rlB
  by_cases h1 : t.length < 5
  . simp only [yy, if_pos (show (t.length : Int) < 5 by omega), h7, if_true, if_pos (show t.length < 5 \/ 8 < t.length by omega)]; rfl
  . by_cases h2 : 8 < t.length
    . simp only [yy, if_neg (show ¬(t.length : Int) < 5 by omega), if_pos (show (8 : Int) < (t.length : Int) by omega), h7, if_true, if_pos (show t.length < 5 \/ 8 < t.length by omega)]; rfl
    . have hs : evp (.sls false true) [.str t, .int .i64 4] = some (.str (t.take 4)) := v_sls0 (h := 4) (by omega)
      have hi : evp .idx [.str t, .int .i64 4] = some (byteV (t[4]'(by omega))) := v_idx (i := 4) (List.getElem?_eq_getElem (by omega))
      have hh : (t.drop 4).headD 0 = t[4]'(by omega) := by rw [List.drop_eq_getElem_cons (show 4 < t.length by omega)]; rfl
      rw [if_neg (show ¬(t.length < 5 \/ 8 < t.length) by omega), hh]
      generalize t[4]'(by omega) = c at *
      by_cases h3 : t.take 4 = [103, 111, 49, 46]
      . rw [if_pos h3]
        by_cases h4 : c = 48
        . subst h4
          simp only [yy, if_neg (show ¬(t.length : Int) < 5 by omega), if_neg (show ¬(8 : Int) < (t.length : Int) by omega), hs, if_pos h3, hi, byteV, h7]
          rfl
        . have hne : ¬((c.toNat : Int) = 48) := fun h => h4 (UInt8.toNat_inj.1 (by rw [show (48 : UInt8).toNat = 48 from rfl]; omega))
          simp only [yy, if_neg (show ¬(t.length : Int) < 5 by omega), if_neg (show ¬(8 : Int) < (t.length : Int) by omega), hs, if_pos h3, hi, byteV, h7, decide_eq_false hne, if_neg h4]
          have := v.rLevel18 (e := e) t (by omega) (t.length - 4) 4 0 (by omega) (by omega)
          simpa using this
      . simp only [yy, if_neg (show ¬(t.length : Int) < 5 by omega), if_neg (show ¬(8 : Int) < (t.length : Int) by omega), hs, if_neg h3, h7, if_true]
        rfl
end Go.Proofs.YtanocopjancaiaaGreatDoor
namespace Go.Proofs.YtanocopjancaiaaGreatDoor
open Go.Abs
set_option maxRecDepth 10000
def dg : Nat -> Nat -> Bytes
  | 0, _ => []
  | f + 1, n => if n = 0 then [] else dg f (n / 10) ++ [UInt8.ofNat (48 + n % 10)]
theorem dg_dec : ∀ (f n : Nat), 1 <= n -> n < 10 ^ f -> Lib.decDigits n = dg f n
  | 0, n, h0, h1 => by simp at h1; omega
  | f + 1, n, h0, h1 => by
    rw [Lib.decDigits, dg, if_neg (by omega)]
    by_cases h : n < 10
    . rw [dif_pos h, Nat.div_eq_of_lt h, Nat.mod_eq_of_lt h]
      have : dg f 0 = [] := by cases f <;> simp [dg]
      rw [this]; rfl
    . rw [dif_neg h, dg_dec f (n / 10) (by omega) (by rw [Nat.pow_succ] at h1; omega)]
end Go.Proofs.YtanocopjancaiaaGreatDoor
namespace Go.Proofs.YtanocopjancaiaaGreatDoor
open Go.Abs
set_option maxRecDepth 10000
end Go.Proofs.YtanocopjancaiaaGreatDoor
namespace Go.Proofs.YtanocopjancaiaaGreatDoor
open Go.Abs
set_option maxRecDepth 10000
variable {e : Ev}
def sign (c : UInt8) : Bool := decide ((97 <= c.toNat /\ c.toNat <= 122) \/ (65 <= c.toNat /\ c.toNat <= 90) \/ (48 <= c.toNat /\ c.toNat <= 57) \/ c.toNat = 95 \/ c.toNat = 46)
def isTag (x : Bytes) : Bool := x.all sign && !x.isEmpty
theorem v.Sign (c : UInt8) : vl e 80 0 [byteV c] = some (.bool (sign c)) := by
  rw [w.seicheref13_Sign]; unfold y.seicheref13_Sign sign
  simp only [yy, byteV]
  repeat' split
  all_goals first | exact some_t (by omega) | exact some_f (by omega) | exact some_d (by omega)
theorem v.tag (c : UInt8) : vl e 74 0 [byteV c] = some (.bool (sign c)) := by
  rw [w.expr_tag]; unfold y.expr_tag sign
  simp only [yy, byteV]
  repeat' split
  all_goals first | exact some_t (by omega) | exact some_f (by omega) | exact some_d (by omega)
theorem v.Tag13_8 (x : Bytes) (hs : x.length <= 1152921504606846976) : ∀ (n i : Nat), i + n = x.length -> vl e 54 8 [.str x, .int .i64 i] = some (.bool ((x.drop i).all sign && !x.isEmpty))
  | 0, i, h => by
    rw [w.seicheref13_Tag_8]; unfold y.seicheref13_Tag_8
    simp only [yy, if_neg (show ¬((i : Int) < (x.length : Int)) by omega)]
    rw [List.drop_eq_nil_of_le (by omega)]
    cases x <;> simp
  | n + 1, i, h => by
    rw [w.seicheref13_Tag_8]; unfold y.seicheref13_Tag_8
    have h1 : (i : Int) < (x.length : Int) := by omega
    rw [List.drop_eq_getElem_cons (by omega), List.all_cons]
    cases hc : sign x[i] <;> simp only [yy, if_pos h1, v_idx (List.getElem?_eq_getElem (show i < x.length by omega)), v.Sign, hc, next64 (show i < x.length by omega) hs, v.Tag13_8 x hs n (i + 1) (by omega)]
    . rfl
    . simp
theorem v.Tag13 (x : Bytes) (hs : x.length <= 1152921504606846976) : vl e 54 0 [.str x] = some (.bool (isTag x)) := by
  rw [w.seicheref13_Tag]; exact v.Tag13_8 x hs x.length 0 (by omega)
theorem v.notSign (c : UInt8) : vl e 73 0 [byteV c] = some (.bool !(sign c)) := by
  rw [w.expr_Tag_1]; unfold y.expr_Tag_1
  simp only [yy, v.tag]
theorem v.idxF_8 (x : Bytes) (hs : x.length <= 1152921504606846976) : ∀ (n i : Nat), i + n = x.length -> ∃ r : Int, vl e 97 8 [.sl false 1 (encB x), .fn 73 [], .int .i64 x.length, .int .i64 i] = some (.int .i64 r) /\ (0 <= r <-> (x.drop i).all sign = false)
  | 0, i, h => by
    refine ⟨-1, ?_, ?_⟩
    . rw [w.slices_IndexFunc_Lbyte_byte_8]; unfold y.slices_IndexFunc_Lbyte_byte_8
      simp only [yy, if_neg (show ¬((i : Int) < (x.length : Int)) by omega)]
    . rw [List.drop_eq_nil_of_le (by omega)]; simp
  | n + 1, i, h => by
    have h1 : (i : Int) < (x.length : Int) := by omega
    have h2 : (encB x)[i]? = some (byteV x[i]) := by rw [encB_get, List.getElem?_eq_getElem (by omega)]; rfl
    have hv : vApply (vl e) (.fn 73 []) [byteV x[i]] = some (.bool !(sign x[i])) := v.notSign _
    obtain ⟨r, hr, hr2⟩ := v.idxF_8 x hs n (i + 1) (by omega)
    rw [w.slices_IndexFunc_Lbyte_byte_8]; unfold y.slices_IndexFunc_Lbyte_byte_8
    rw [List.drop_eq_getElem_cons (by omega), List.all_cons]
    cases hc : sign x[i] with
    | false =>
      refine ⟨i, ?_, by simp⟩
      simp only [yy, cv, if_pos h1, v_elem h2, v_ld0 (show (byteV x[i]).sc = true from rfl), hv, hc]
    | true =>
      refine ⟨r, ?_, by simpa using hr2⟩
      simp only [yy, cv, if_pos h1, v_elem h2, v_ld0 (show (byteV x[i]).sc = true from rfl), hv, hc, next64 (show i < x.length by omega) hs, hr]
theorem v.Tag (x : Bytes) (hs : x.length <= 1152921504606846976) : vl e 49 0 [.str x] = some (.bool (isTag x)) := by
  rw [w.expr_Tag]; unfold y.expr_Tag isTag
  have hC : vl e 72 0 [.sl false 1 (encB x), .fn 73 []] = some (.bool !(x.all sign)) := by
    rw [w.slices_ContainsFunc_Lbyte_byte]; unfold y.slices_ContainsFunc_Lbyte_byte
    have hI : ∃ r : Int, vl e 97 0 [.sl false 1 (encB x), .fn 73 []] = some (.int .i64 r) /\ (0 <= r <-> x.all sign = false) := by
      obtain ⟨r, h1, h2⟩ := v.idxF_8 (e := e) x hs x.length 0 (by omega)
      refine ⟨r, ?_, by simpa using h2⟩
      rw [w.slices_IndexFunc_Lbyte_byte]; unfold y.slices_IndexFunc_Lbyte_byte
      simp only [yy, encB_len]; exact h1
    obtain ⟨r, h1, h2⟩ := hI
    simp only [yy, h1]
    cases hx : x.all sign
    . rw [decide_eq_true (h2.2 hx)]; rfl
    . rw [decide_eq_false (fun h => by rw [h2.1 h] at hx; cases hx)]; rfl
  simp only [yy, v_s2b, hC]
  cases x with
  | nil => rfl
  | cons a r => simp
end Go.Proofs.YtanocopjancaiaaGreatDoor
namespace Go.Proofs.YtanocopjancaiaaGreatDoor
open Go.Abs
set_option maxRecDepth 10000
def allD (l : Bytes) : Bool := l.all fun c => decide (48 <= c.toNat) && decide (c.toNat <= 57)
theorem digs_nd : ∀ (l : Bytes) (n : Nat), allD l = false -> digs l n = 0
  | [], _, h => by simp [allD] at h
  | c :: r, n, h => by
    unfold digs
    by_cases h1 : c.toNat < 48
    . rw [if_pos h1]
    . by_cases h2 : 57 < c.toNat
      . rw [if_neg h1, if_pos h2]
      . rw [if_neg h1, if_neg h2]
        refine digs_nd r _ ?_
        have : decide (48 <= c.toNat) = true /\ decide (c.toNat <= 57) = true := ⟨by simp; omega, by simp; omega⟩
        simp only [allD, List.all_cons, this.1, this.2, Bool.true_and, Bool.and_self] at h
        exact h
theorem pu_digs : ∀ (l : Bytes) (n : Nat), l.length <= 4 -> n < 10 ^ (12 - l.length) -> Lib.parseUint10 n l = if allD l = true then .ok (digs l n) else .syntax
  | [], n, _, _ => rfl
  | c :: r, n, hl, hn => by
    have hl' : r.length <= 4 := by simp at hl; omega
    have e1 : 12 - r.length = (12 - (c :: r).length) + 1 := by simp at hl ⊢; omega
    have hp : (10 : Nat) ^ (12 - (c :: r).length) <= 10 ^ 12 := Nat.pow_le_pow_right (by decide) (by omega)
    have hc := c.toNat_lt
    unfold Lib.parseUint10 digs
    by_cases h : 48 <= c.toNat /\ c.toNat <= 57
    . have ha : allD (c :: r) = allD r := by simp [allD, h.1, h.2]
      have hlt : n * 10 + (c.toNat - 48) < 10 ^ (12 - r.length) := by rw [e1, Nat.pow_succ]; omega
      rw [if_pos h, if_neg (show ¬ 1844674407370955162 <= n by omega), if_neg (show ¬ 18446744073709551616 <= n * 10 + (c.toNat - 48) by omega), if_neg (show ¬ c.toNat < 48 by omega), if_neg (show ¬ 57 < c.toNat by omega), pu_digs r _ hl' hlt, ha, Nat.mul_comm n 10]
    . have ha : allD (c :: r) = false := by
        simp only [allD, List.all_cons, Bool.and_eq_false_iff, decide_eq_false_iff_not]
        omega
      rw [if_neg h, ha]; rfl
theorem dg_digs : ∀ (l : Bytes) (n f : Nat), allD l = true -> (0 < n \/ l.headD 0 ≠ 48) -> dg (l.length + f) (digs l n) = dg f n ++ l
  | [], n, f, _, _ => by simp [digs]
  | c :: r, n, f, h, h0 => by
    simp only [allD, List.all_cons, Bool.and_eq_true, decide_eq_true_eq] at h
    obtain ⟨⟨h1, h2⟩, h3⟩ := h
    unfold digs
    rw [if_neg (by omega), if_neg (by omega)]
    have hpos : 0 < 10 * n + (c.toNat - 48) := by
      rcases h0 with h0 | h0
      . omega
      . have : c.toNat ≠ 48 := fun e => h0 (UInt8.toNat_inj.1 (by simp [e]))
        omega
    have := dg_digs r (10 * n + (c.toNat - 48)) (f + 1) h3 (.inl hpos)
    rw [show (c :: r).length + f = r.length + (f + 1) by simp; omega, this]
    conv => lhs; unfold dg
    rw [if_neg (by omega), show (10 * n + (c.toNat - 48)) / 10 = n by omega, show (10 * n + (c.toNat - 48)) % 10 = c.toNat - 48 by omega, show 48 + (c.toNat - 48) = c.toNat by omega, UInt8.ofNat_toNat]
    simp
theorem digs_lt : ∀ (l : Bytes) (n f : Nat), n < 10 ^ f -> digs l n < 10 ^ (f + l.length)
  | [], n, f, h => h
  | c :: r, n, f, h => by
    unfold digs
    have hp : 0 < 10 ^ (f + (c :: r).length) := Nat.pow_pos (by decide)
    split
    . exact hp
    . split
      . exact hp
      . have := digs_lt r (10 * n + (c.toNat - 48)) (f + 1) (by rw [Nat.pow_succ]; omega)
        rw [show f + (c :: r).length = f + 1 + r.length by simp; omega]; exact this
theorem lv_rl (t : Bytes) (h : t.all sign = true) : (lvB t).2 = decide (0 < rlB t) /\ ((lvB t).2 = true -> (lvB t).1 = (rlB t : Int)) := by
  unfold lvB rlB
  by_cases h1 : t.take 4 = [103, 111, 49, 46]
  . have hlen : t.length = 4 + (t.drop 4).length := by
      have := congrArg List.length h1
      simp at this ⊢; omega
    have hs : (t.drop 4).all sign = true := List.all_eq_true.2 fun c hc => List.all_eq_true.1 h c (List.mem_of_mem_drop hc)
    rw [if_pos h1, if_pos h1]
    generalize t.drop 4 = s at *
    by_cases h2 : s = []
    . subst h2
      rw [if_pos rfl, if_pos (by simp at hlen; omega)]; simp
    . have hsl : 0 < s.length := List.length_pos_iff.2 h2
      by_cases h3 : 4 < s.length
      . rw [if_neg h2, if_pos h3, if_pos (by omega)]; simp
      . by_cases h4 : s.headD 0 = 48
        . rw [if_neg h2, if_neg h3, if_pos h4, if_neg (by omega), if_pos h4]; simp
        . rw [if_neg h2, if_neg h3, if_neg h4, if_neg (by omega), if_neg h4]
          have hpu := pu_digs s 0 (by omega) (Nat.pow_pos (by decide))
          have hat : atoiV s = if allD s = true then ((digs s 0 : Int), true) else (0, false) := by
            cases s with
            | nil => exact absurd rfl h2
            | cons c r =>
              have hc : sign c = true := by simp at hs; exact hs.1
              have hc1 : c.toNat ≠ 43 /\ c.toNat ≠ 45 := by
                constructor <;> intro e <;> (have : c = UInt8.ofNat c.toNat := (UInt8.ofNat_toNat).symm; rw [e] at this; subst this; revert hc; decide)
              unfold atoiV Lib.atoiAll
              simp only [hc1.1, hc1.2, or_self, if_false, Lib.parseMag, hpu]
              cases ha : allD (c :: r) with
              | true =>
                have := digs_lt (c :: r) 0 0 (by decide)
                have hb : (10 : Nat) ^ (0 + (c :: r).length) <= 10 ^ 4 := Nat.pow_le_pow_right (by decide) (by omega)
                simp [show ¬ 9223372036854775808 <= digs (c :: r) 0 by omega]
              | false => simp
          rw [hat]
          cases ha : allD s with
          | false => rw [digs_nd s 0 ha]; simp
          | true =>
            have hd := dg_digs s 0 0 ha (.inr h4)
            have hpos : 0 < digs s 0 := by
              rcases Nat.eq_zero_or_pos (digs s 0) with e | e
              . rw [e] at hd
                cases hsz : s.length with
                | zero => omega
                | succ n => rw [hsz] at hd; simp [dg] at hd; exact absurd hd h2
              . exact e
            have hlt := digs_lt s 0 0 (by decide)
            have hi : Lib.itoa ((digs s 0 : Nat) : Int) = s := by
              unfold Lib.itoa
              rw [if_neg (by omega), Int.toNat_natCast, dg_dec s.length _ hpos (by simpa using hlt)]
              simpa [dg] using hd
            simp [hi, hpos]
  . rw [if_neg h1, if_neg h1]
    split <;> simp
end Go.Proofs.YtanocopjancaiaaGreatDoor
namespace Go.Proofs.YtanocopjancaiaaGreatDoor
open Go.Abs
set_option maxRecDepth 20000
variable {e : Ev}
def sysM : List Bytes := [[97,105,120],[97,110,100,114,111,105,100],[100,97,114,119,105,110],[100,114,97,103,111,110,102,108,121],[102,114,101,101,98,115,100],[105,108,108,117,109,111,115],[105,111,115],[106,115],[108,105,110,117,120],[110,101,116,98,115,100],[111,112,101,110,98,115,100],[112,108,97,110,57],[115,111,108,97,114,105,115],[119,97,115,105,112,49],[119,105,110,100,111,119,115]]
theorem v.rSystems (he : EnvC e) : vl e 18 0 [] = some (strs sysM) := run_eq (T := ents) (e16_ok he) 400 (by kernel_rfl)
theorem v.rSystem (he : EnvC e) (o : Bytes) : vl e 43 0 [.str o] = some (.bool (inB sysM o)) := by
  rw [w.seicheref15_System]; unfold y.seicheref15_System
  have h := v.In (e := e) sysM o (by decide)
  simp only [yy, v.rSystems he, h]
theorem unix_ok : (sysM.all fun o => (decide (o ≠ [106,115]) && decide (o ≠ [112,108,97,110,57]) && decide (o ≠ [119,97,115,105,112,49]) && decide (o ≠ [119,105,110,100,111,119,115])) == inB alikeL o) = true := by decide
theorem alike_sys : (alikeL.all fun o => inB sysM o) = true := by decide
theorem unix_eq (o : Bytes) : (inB sysM o && (decide (o ≠ [106,115]) && decide (o ≠ [112,108,97,110,57]) && decide (o ≠ [119,97,115,105,112,49]) && decide (o ≠ [119,105,110,100,111,119,115]))) = inB alikeL o := by
  cases h : inB sysM o with
  | true =>
    have hm : o ∈ sysM := by simpa [inB] using h
    have := List.all_eq_true.1 unix_ok o hm
    simp only [beq_iff_eq] at this
    rw [this, Bool.true_and]
  | false =>
    rw [Bool.false_and]
    cases h2 : inB alikeL o with
    | false => rfl
    | true =>
      have hm : o ∈ alikeL := by simpa [inB] using h2
      rw [List.all_eq_true.1 alike_sys o hm] at h; cases h
theorem v.rUnix (he : EnvC e) (o : Bytes) : vl e 24 0 [.str o] = some (.bool (inB alikeL o)) := by
  rw [w.seicheref15_Unix]; unfold y.seicheref15_Unix
  rw [<- unix_eq]
  simp only [yy, v.rSystem he]
  cases inB sysM o <;> simp only [vif_t, vif_f, Bool.true_and, Bool.false_and]
  by_cases h1 : o = [106,115] <;> by_cases h2 : o = [112,108,97,110,57] <;> by_cases h3 : o = [119,97,115,105,112,49] <;> by_cases h4 : o = [119,105,110,100,111,119,115] <;> simp [h1, h2, h3, h4]
theorem v.rOn17 (he : EnvC e) (o a : Bytes) (g : Bool) (lv : Int) (ts : List Bytes) (hl : ts.length <= 1000000000) (t : Bytes) (h0 : t ≠ []) (b : Bool) :
    vl e 12 17 [.str t, .bool b, cfV o a g lv ts] = some (.bool (b || (if t = [117, 110, 105, 120] then inB alikeL o else if t = [99, 103, 111] then g
      else if t = [108, 105, 110, 117, 120] then (if o = [97, 110, 100, 114, 111, 105, 100] then true else inB ts t)
      else if t = [115, 111, 108, 97, 114, 105, 115] then (if o = [105, 108, 108, 117, 109, 111, 115] then true else inB ts t)
      else if t = [100, 97, 114, 119, 105, 110] then (if o = [105, 111, 115] then true else inB ts t)
      else inB ts t))) := by
  rw [w.seicheref16_On_17]; unfold y.seicheref16_On_17
  cases b with
  | true => simp only [yy, Bool.true_or]
  | false =>
    have e0 : evp (.ld none 0) [cfV o a g lv ts] = some (.str o) := rfl
    have e2 : evp (.ld none 2) [cfV o a g lv ts] = some (.bool g) := rfl
    have e4 : evp (.ld none 4) [cfV o a g lv ts] = some (strs ts) := rfl
    have hin := v.In (e := e) ts t hl
    simp only [yy, e0, e2, e4, v.rUnix he, hin, Bool.false_or]
    by_cases h2 : t = [117, 110, 105, 120]
    . simp only [if_pos h2]
    . by_cases h3 : t = [99, 103, 111]
      . simp only [if_neg h2, if_pos h3]
      . by_cases h4 : t = [108, 105, 110, 117, 120]
        . subst h4
          simp only [if_neg h2, if_neg h3, if_true]
          split
          . rfl
          . simp
        . by_cases h5 : t = [115, 111, 108, 97, 114, 105, 115]
          . subst h5
            simp only [if_neg h2, if_neg h3, if_neg h4, if_true]
            split
            . rfl
            . simp
          . by_cases h6 : t = [100, 97, 114, 119, 105, 110]
            . simp only [if_neg h2, if_neg h3, if_neg h4, if_neg h5, if_pos h6]; split <;> rfl
            . simp only [if_neg h2, if_neg h3, if_neg h4, if_neg h5, if_neg h6]
theorem v.rOnG (he : EnvC e) (o a : Bytes) (g : Bool) (lv : Int) (ts : List Bytes) (hl : ts.length <= 1000000000) (t : Bytes) (ht : t.length <= 1000000) (h0 : t ≠ []) (hq : (lvB t).2 = decide (0 < rlB t) /\ ((lvB t).2 = true -> (lvB t).1 = (rlB t : Int))) :
    vl e 12 0 [cfV o a g lv ts, .str t] = some (.bool (onB o a g lv ts t)) := by
  obtain ⟨q1, q2⟩ := hq
  have hlev : ((lvB t).2 && decide ((lvB t).1 <= lv)) = (decide (0 < rlB t) && decide ((rlB t : Int) <= lv)) := by
    rw [q1]
    cases h : decide (0 < rlB t) with
    | false => rfl
    | true => rw [q2 (by rw [q1, h])]
  rw [w.seicheref16_On]; unfold y.seicheref16_On onB plainB
  rw [if_neg h0, hlev]
  have e0 : evp (.ld none 0) [cfV o a g lv ts] = some (.str o) := rfl
  have e1 : evp (.ld none 1) [cfV o a g lv ts] = some (.str a) := rfl
  have e3 : evp (.ld none 3) [cfV o a g lv ts] = some (I lv) := rfl
  have h17 := v.rOn17 he o a g lv ts hl t h0
  by_cases h1 : t = o
  . simp only [yy, v_scs5, if_neg h0, v.rLevel t ht, e0, if_pos h1, h17, Bool.true_or]
    rw [if_pos (.inl h1)]; simp
  . by_cases h2 : t = a
    . simp only [yy, v_scs5, if_neg h0, v.rLevel t ht, e0, if_neg h1, e1, if_pos h2, h17, Bool.true_or]
      rw [if_pos (.inr (.inl h2))]; simp
    . by_cases h3 : t = [103, 99]
      . simp only [yy, v_scs5, if_neg h0, v.rLevel t ht, e0, if_neg h1, e1, if_neg h2, if_pos h3, h17, Bool.true_or]
        rw [if_pos (.inr (.inr h3))]; simp
      . rw [if_neg (show ¬(t = o \/ t = a \/ t = [103, 99]) from fun h => by rcases h with h | h | h <;> contradiction)]
        by_cases h4 : 0 < rlB t
        . simp only [yy, v_scs5, if_neg h0, v.rLevel t ht, e0, if_neg h1, e1, if_neg h2, if_neg h3, if_pos (show (0 : Int) < (rlB t : Int) by omega), e3, h17, decide_eq_true h4, Bool.true_and]
        . simp only [yy, v_scs5, if_neg h0, v.rLevel t ht, e0, if_neg h1, e1, if_neg h2, if_neg h3, if_neg (show ¬(0 : Int) < (rlB t : Int) by omega), h17, decide_eq_false h4, Bool.false_and, Bool.false_or]
theorem v.rOn (he : EnvC e) (o a : Bytes) (g : Bool) (lv : Int) (ts : List Bytes) (hl : ts.length <= 1000000000) (t : Bytes) (ht : t.length <= 1000000) (hs : isTag t = true) :
    vl e 12 0 [cfV o a g lv ts, .str t] = some (.bool (onB o a g lv ts t)) := by
  have h0 : t ≠ [] := by rintro rfl; simp [isTag] at hs
  have hall : t.all sign = true := by simp only [isTag, Bool.and_eq_true] at hs; exact hs.1
  exact v.rOnG he o a g lv ts hl t ht h0 (lv_rl t hall)
theorem lv_short (t : Bytes) (ht : t.length <= 2) : (lvB t).2 = decide (0 < rlB t) /\ ((lvB t).2 = true -> (lvB t).1 = (rlB t : Int)) := by
  have h1 : t.take 4 ≠ [103, 111, 49, 46] := fun h => by have := congrArg List.length h; simp at this; omega
  unfold lvB rlB
  rw [if_neg h1, if_pos (show t.length < 5 \/ 8 < t.length by omega)]
  simp
theorem v.rOn2 (he : EnvC e) (o a : Bytes) (g : Bool) (lv : Int) (ts : List Bytes) (hl : ts.length <= 1000000000) (t : Bytes) (ht : t.length <= 2) (h0 : t ≠ []) :
    vl e 12 0 [cfV o a g lv ts, .str t] = some (.bool (onB o a g lv ts t)) := v.rOnG he o a g lv ts hl t (by omega) h0 (lv_short t ht)
end Go.Proofs.YtanocopjancaiaaGreatDoor
