/-
  Parts of the proof, one behind the other. Own work of this seat; some printed by its programs.
-/
import Derived.Test.YtegmegbanfkomaaGreatDoorM2
import Derived.Test.YtegmegbanfkomaaGreatDoorProg
import Derived.Test.YtegmegbanfkomaaGreatDoorM1
import Derived.Shelf.Strings.Builder1
import Derived.Shelf.Strings.Builder2
import Derived.Shelf.Strings.OnBuilder
import Derived.Shelf.Small.Utf8
import Derived.Shelf.Small.Bits
import Derived.Shelf.Small.Strs
import Derived.Shelf.Small.Wraps
import Derived.Shelf.Strings.BuilderF
import Derived.Shelf.Strings.BuilderK
import Derived.Shelf.Utf8.RuneCount
import Derived.Shelf.Strconv.Atoi
import Derived.Shelf.Strconv.Itoa0
import Derived.Shelf.Strconv.Itoa1
import Derived.Shelf.LaysM
import Derived.Shelf.Strconv.Itoa2
import Derived.Shelf.Strconv.Itoa3
import Derived.Shelf.Strconv.AtoiErrFast
import Derived.Shelf.Strconv.ParseIntEmpty
import Derived.Shelf.Strconv.AtoiFail
import Derived.Shelf.Strconv.Clone
import Derived.Shelf.Strconv.SyntaxError
import Derived.Shelf.LaysC
import Derived.Shelf.Strconv.ToError
import Derived.Shelf.Strconv.Lower
import Derived.Shelf.Strconv.ParseUint10
import Derived.Shelf.Strconv.ParseUint10Empty
import Derived.Shelf.Strconv.ParseUint10Any
import Derived.Shelf.Strconv.ParseInt10
import Derived.Shelf.Strconv.AtoiLong
import Derived.Shelf.Strconv.AtoiInnerAll
import Derived.Shelf.Strconv.RangeError
import Derived.Shelf.Strconv.ToErrorRange
import Derived.Shelf.Strconv.AtoiAll
import Derived.Shelf.Strings.Search1
import Derived.Shelf.Strings.Search2
import Derived.Shelf.Strings.Search3
import Derived.Shelf.Strings.Cut
import Derived.Shelf.Strings.Count
import Derived.Shelf.Strings.Shaped
import Derived.Shelf.Strings.LastIndex
import Derived.Shelf.Strings.Prefix
import Derived.Shelf.Strings.Split
import Derived.Shelf.Strings.SplitShaped
import Derived.Shelf.Unicode.Decode
import Derived.Shelf.Strings.Runes
import Derived.Shelf.Strings.RuneCount
import Derived.Shelf.Strings.IndexAny
import Derived.Shelf.Strings.AsciiSet
import Derived.Shelf.Strings.IndexAnyAll
import Derived.Shelf.Strings.Explode
import Derived.Shelf.Unicode.DecodeSlow
import Derived.Shelf.Unicode.DecodeAny
import Derived.Shelf.Unicode.DecodeLast
import Derived.Shelf.Strings.FieldsFuncAny
import Derived.Shelf.Strings.FieldsFuncGrows
import Derived.Ground.Names2Prog
import Derived.Shelf.Slices.Clone
import Derived.Ground.SlgnProg
import Derived.Shelf.SlicesE.Clone
import Derived.Ground.SlgfProg
import Derived.Shelf.SlicesE.IndexFunc
import Derived.Shelf.SlicesE.DeleteFunc
import Derived.WalkKit
import Derived.Lib.OwnBridge
import Derived.Lib.FieldsP
import Derived.Lib.TrimUEq
namespace Go.Proofs.YtegmegbanfkomaaGreatDoor
open Go.Abs
def Z88 :List FE:=[
 ⟨12,12,false,0,⟨0,[],[],0⟩,none,[],false⟩,
 ⟨42,42,false,1,⟨0,[],[],0⟩,none,[(10,⟨5,[(3, .at (.ptr 0 0)),(8, .at (.n 0 false false)),(9, .at (.n 1 false true)),(10, .at (.n 2 false true))],[some [.one (.n 3 true true), .one (.n 4 true true)]],0⟩)],false⟩,
 ⟨48,48,false,1,⟨0,[],[],0⟩,none,[],false⟩,
 ⟨96,96,false,2,⟨0,[],[],0⟩,none,[],false⟩,
 ⟨102,102,false,1,⟨0,[],[],0⟩,none,[],false⟩,
 ⟨108,108,false,2,⟨0,[],[],0⟩,none,[],false⟩,
 ⟨120,120,false,2,⟨0,[],[],0⟩,none,[],false⟩,
 ⟨132,132,false,1,⟨0,[],[],0⟩,none,[(18,⟨3,[(0, .at (.n 0 false false)),(4, .at (.n 1 false true)),(9, .at (.n 2 false true))],[],0⟩)],false⟩,
 ⟨138,138,false,1,⟨0,[],[],0⟩,none,[],false⟩,
 ⟨150,150,false,2,⟨0,[],[],0⟩,none,[],false⟩,
 ⟨162,162,false,2,⟨0,[],[],0⟩,none,[(10,⟨3,[(5, .at (.n 0 true false)),(6, .at (.n 1 true false)),(7, .at (.n 2 false true))],[],0⟩)],false⟩,
 ⟨168,168,false,3,⟨0,[],[],0⟩,none,[(10,⟨6,[(1, .at (.n 0 false false)),(3, .at (.ptr 0 0)),(5, .at (.ptr 1 0)),(6, .at (.ptr 2 0)),(7, .at (.ptr 3 0)),(8, .at (.n 1 false true))],[some [.many none (.n 2 false false)],some [.many none (.n 3 false false)],some [.many (some 8) (.n 4 false false)],some [.many (some 64) (.n 5 false false)]],0⟩),(25,⟨5,[(3, .at (.ptr 0 0)),(5, .at (.ptr 1 0)),(6, .at (.ptr 2 0)),(7, .at (.ptr 3 0)),(9, .at (.n 0 false true))],[some [.many none (.n 1 false false)],some [.many none (.n 2 false false)],some [.many (some 8) (.n 3 false false)],some [.many (some 64) (.n 4 false false)]],0⟩),(48,⟨13,[(3, .at (.ptr 0 0)),(5, .at (.ptr 1 0)),(6, .at (.ptr 2 0)),(7, .at (.ptr 3 0)),(14, .at (.n 0 false false)),(15, .at (.n 1 false false)),(16, .at (.n 2 false false)),(17, .at (.n 3 false false)),(18, .at (.n 4 false false)),(19, .at (.n 5 false false)),(20, .at (.n 6 false false)),(21, .at (.n 7 false false)),(22, .at (.n 8 false true))],[some [.many none (.n 9 false false)],some [.many none (.n 10 false false)],some [.many (some 8) (.n 11 false false)],some [.many (some 64) (.n 12 false false)]],0⟩)],false⟩,
 ⟨186,186,false,2,⟨0,[],[],0⟩,none,[],false⟩,
 ⟨198,198,false,1,⟨0,[],[],0⟩,none,[(9,⟨2,[(4, .at (.n 0 false false)),(21, .at (.n 1 false true))],[],0⟩),(18,⟨2,[(4, .at (.n 0 false false)),(6, .at (.n 1 true true))],[],0⟩)],false⟩,
 ⟨204,204,false,1,⟨0,[],[],0⟩,none,[(9,⟨2,[(4, .at (.n 0 true false)),(26, .at (.n 1 false true))],[],0⟩),(18,⟨4,[(4, .at (.n 0 true false)),(27, .at (.n 1 false false)),(28, .at (.n 2 false true)),(29, .at (.n 3 false true))],[],0⟩)],false⟩,
 ⟨246,246,false,1,⟨0,[],[],0⟩,none,[],false⟩,
 ⟨282,282,false,1,⟨0,[],[],0⟩,none,[(12,⟨5,[(0, .at (.n 0 false false)),(2, .at (.ptr 0 0)),(3, .at (.ptr 1 0)),(4, .at (.ptr 2 0)),(5, .at (.n 1 false false))],[some [.many (some 32) (.n 2 false false)],some [.many (some 8) (.n 3 false false)],some [.many (some 64) (.n 4 false false)]],0⟩),(39,⟨4,[(0, .at (.n 0 false false)),(2, .at (.ptr 0 0)),(3, .at (.ptr 1 0)),(4, .at (.ptr 2 0))],[some [.many (some 32) (.n 1 false false)],some [.many (some 8) (.n 2 false false)],some [.many (some 64) (.n 3 false false)]],0⟩),(43,⟨5,[(0, .at (.n 0 false false)),(2, .at (.ptr 0 0)),(3, .at (.ptr 1 0)),(4, .at (.ptr 2 0)),(34, .at (.n 1 false true))],[some [.many (some 32) (.n 2 false false)],some [.many (some 8) (.n 3 false false)],some [.many (some 64) (.n 4 false false)]],0⟩),(64,⟨4,[(2, .at (.ptr 0 0)),(3, .at (.ptr 1 0)),(7, .at (.ptr 2 0)),(52, .at (.n 0 false true))],[some [.many (some 32) (.n 1 false false)],some [.many (some 8) (.n 2 false false)],some [.many (some 32) (.n 3 false false)]],0⟩)],false⟩,
 ⟨13,13,false,1,⟨0,[],[],0⟩,none,[],false⟩,
 ⟨43,43,true,1,⟨0,[],[],0⟩,none,[(12,⟨4,[(0, .at (.n 0 false false)),(3, .at (.n 1 true true)),(4, .at (.n 2 false true)),(5, .at (.n 3 false true))],[],0⟩)],false⟩,
 ⟨55,55,false,1,⟨0,[],[],0⟩,none,[],false⟩,
 ⟨79,79,false,1,⟨0,[],[],0⟩,none,[(17,⟨3,[(0, .at (.n 0 false false)),(4, .at (.n 1 false false)),(30, .at (.n 2 false true))],[],0⟩),(30,⟨4,[(6, .at (.n 0 true true)),(7, .at (.n 1 false true)),(36, .at (.n 2 false false)),(37, .at (.n 3 false true))],[],0⟩)],false⟩,
 ⟨91,91,false,2,⟨0,[],[],0⟩,none,[],false⟩,
 ⟨97,97,false,2,⟨0,[],[],0⟩,none,[(10,⟨4,[(6, .at (.n 0 false false)),(13, .at (.n 1 true false)),(14, .at (.n 2 false true)),(15, .at (.n 3 false true))],[],0⟩)],false⟩,
 ⟨109,109,false,2,⟨0,[],[],0⟩,none,[],false⟩,
 ⟨127,127,false,1,⟨0,[],[],0⟩,none,[(14,⟨5,[(2, .at (.ptr 0 0)),(3, .at (.ptr 1 0)),(4, .at (.n 0 true false)),(5, .at (.ptr 2 0)),(6, .at (.n 1 false true))],[some [.many (some 32) (.n 2 false false)],some [.many (some 8) (.n 3 false false)],some [.many (some 64) (.n 4 false false)]],0⟩),(31,⟨4,[(2, .at (.ptr 0 0)),(7, .at (.ptr 1 0)),(29, .at (.n 0 false false)),(30, .at (.n 1 false true))],[some [.many (some 32) (.n 2 false false)],some [.many (some 32) (.n 3 false false)]],0⟩),(45,⟨7,[(2, .at (.ptr 0 0)),(7, .at (.ptr 1 0)),(8, .at (.n 0 false true)),(9, .at (.n 1 false false)),(10, .at (.n 2 false true)),(29, .at (.n 3 false false)),(30, .at (.n 4 false true))],[some [.many (some 32) (.n 5 false false)],some [.many (some 32) (.n 6 false false)]],0⟩)],false⟩,
 ⟨139,139,false,1,⟨0,[],[],0⟩,none,[],false⟩,
 ⟨145,145,false,2,⟨0,[],[],0⟩,none,[(8,⟨4,[(0, .at (.n 0 false false)),(1, .at (.n 1 false false)),(7, .at (.n 2 false true)),(8, .at (.n 3 false true))],[],0⟩)],false⟩,
 ⟨151,151,false,2,⟨0,[],[],0⟩,none,[],false⟩,
 ⟨187,187,false,1,⟨0,[],[],0⟩,none,[],false⟩,
 ⟨199,199,false,2,⟨0,[],[],0⟩,none,[],false⟩,
 ⟨253,253,false,1,⟨0,[],[],0⟩,none,[],false⟩,
 ⟨355,355,false,1,⟨0,[],[],0⟩,none,[],false⟩,
 ⟨14,14,false,1,⟨0,[],[],0⟩,none,[(10,⟨5,[(0, .at (.n 0 false false)),(3, .at (.n 1 true false)),(8, .at (.n 2 false false)),(9, .at (.n 3 false true)),(10, .at (.n 4 false true))],[],0⟩)],false⟩,
 ⟨20,20,false,1,⟨0,[],[],0⟩,none,[],false⟩,
 ⟨44,44,false,1,⟨0,[],[],0⟩,none,[(8,⟨2,[(0, .at (.n 0 false false)),(3, .at (.n 1 false true))],[],0⟩)],false⟩,
 ⟨56,56,false,1,⟨0,[],[],0⟩,none,[(9,⟨6,[(2, .at (.ptr 0 0)),(3, .at (.n 0 false false)),(22, .at (.n 1 false false))],[some [.one (.n 2 false true), .one (.n 3 false true), .one (.n 4 false true), .one (.n 5 false true)]],0⟩),(26,⟨11,[(2, .at (.ptr 0 0)),(5, .at (.ptr 1 0)),(6, .at (.n 0 false true)),(7, .at (.n 1 false true)),(37, .at (.n 2 false false))],[some [.one (.n 3 false true), .one (.n 4 false true), .one (.n 5 false true), .one (.n 6 false true)],some [.one (.n 7 false true), .one (.n 8 false true), .one (.n 9 false true), .one (.n 10 false true)]],0⟩)],false⟩,
 ⟨62,62,false,1,⟨0,[],[],0⟩,none,[(10,⟨4,[(3, .at (.n 0 false true)),(6, .at (.n 1 false false)),(7, .at (.n 2 false true)),(8, .at (.n 3 false true))],[],0⟩)],false⟩,
 ⟨74,74,false,1,⟨0,[],[],0⟩,none,[(10,⟨3,[(0, .at (.n 0 false false)),(3, .at (.ptr 0 0)),(5, .at (.n 1 false true))],[some [.many (some 8) (.n 2 false false)]],0⟩)],false⟩,
 ⟨92,92,false,2,⟨0,[],[],0⟩,none,[],false⟩,
 ⟨122,122,true,1,⟨0,[],[],0⟩,none,[],false⟩]
def Qbi :List FE:=[
 ⟨188,188,false,1,⟨0,[],[],0⟩,none,[(18,⟨4,[(4, .at (.n 0 true true)),(11, .at (.n 1 false false)),(12, .at (.n 2 false true)),(13, .at (.n 3 false true))],[],0⟩)],false⟩,
 ⟨212,212,false,2,⟨0,[],[],0⟩,none,[],false⟩,
 ⟨236,236,false,1,⟨0,[],[],0⟩,none,[],false⟩,
 ⟨356,356,false,2,⟨0,[],[],0⟩,none,[],false⟩,
 ⟨15,15,false,1,⟨0,[],[],0⟩,none,[(8,⟨3,[(6, .at (.n 0 true false)),(7, .at (.n 1 false true)),(8, .at (.n 2 false true))],[],0⟩)],false⟩,
 ⟨33,33,false,2,⟨0,[],[],0⟩,none,[],false⟩,
 ⟨51,51,false,1,⟨0,[],[],0⟩,none,[],false⟩,
 ⟨75,75,false,1,⟨0,[],[],0⟩,none,[(10,⟨5,[(0, .at (.n 0 false false)),(3, .at (.n 1 false true)),(9, .at (.n 2 false false)),(10, .at (.n 3 false true)),(11, .at (.n 4 false true))],[],0⟩),(31,⟨4,[(6, .at (.n 0 true true)),(28, .at (.n 1 false false)),(29, .at (.n 2 false true)),(30, .at (.n 3 false true))],[],0⟩)],false⟩,
 ⟨93,93,false,1,⟨0,[],[],0⟩,none,[],false⟩,
 ⟨105,105,false,2,⟨0,[],[],0⟩,none,[],false⟩,
 ⟨111,111,false,1,⟨0,[],[],0⟩,none,[],false⟩,
 ⟨117,117,true,1,⟨0,[],[],0⟩,none,[],false⟩,
 ⟨147,147,false,2,⟨0,[],[],0⟩,none,[(8,⟨3,[(0, .at (.n 0 false false)),(1, .at (.n 1 false false)),(5, .at (.n 2 false true))],[],0⟩)],false⟩,
 ⟨153,153,false,2,⟨0,[],[],0⟩,none,[],false⟩,
 ⟨183,183,false,1,⟨0,[],[],0⟩,none,[(10,⟨4,[(3, .at (.n 0 true true)),(6, .at (.n 1 false false)),(7, .at (.n 2 false true)),(8, .at (.n 3 false true))],[],0⟩)],false⟩,
 ⟨189,189,false,1,⟨0,[],[],0⟩,none,[],false⟩,
 ⟨213,213,false,4,⟨0,[],[],0⟩,none,[],false⟩,
 ⟨237,237,false,2,⟨0,[],[],0⟩,none,[],false⟩,
 ⟨4,4,false,3,⟨0,[],[],0⟩,none,[(15,⟨4,[(0, .at (.n 0 false false)),(1, .at (.n 1 false false)),(2, .at (.n 2 false false)),(37, .at (.n 3 false true))],[],0⟩),(24,⟨6,[(0, .at (.n 0 false false)),(1, .at (.n 1 false false)),(2, .at (.n 2 false false)),(38, .at (.n 3 false false)),(39, .at (.n 4 false true)),(40, .at (.n 5 false true))],[],0⟩)],false⟩,
 ⟨40,40,false,3,⟨0,[],[],0⟩,none,[(10,⟨7,[(0, .at (.n 0 false false)),(1, .at (.n 1 false false)),(2, .at (.n 2 false false)),(7, .at (.n 3 false true)),(10, .at (.n 4 false false)),(11, .at (.n 5 false true)),(12, .at (.n 6 false true))],[],0⟩)],false⟩,
 ⟨58,58,false,1,⟨0,[],[],0⟩,none,[(12,⟨14,[(2, .at (.ptr 0 0)),(3, .at (.ptr 1 0)),(4, .at (.n 0 true false)),(11, .at (.n 1 false false)),(12, .at (.n 2 false true)),(13, .at (.n 3 false true))],[some [.one (.n 4 false true), .one (.n 5 false true), .one (.n 6 true true), .one (.n 7 false true)],some [.one (.n 8 false true), .one (.n 9 false true), .one (.n 10 true true), .one (.n 11 false true), .one (.n 12 false true), .one (.n 13 false true)]],0⟩)],false⟩,
 ⟨76,76,false,1,⟨0,[],[],0⟩,none,[(12,⟨3,[(3, .at (.n 0 false true)),(4, .at (.n 1 false true)),(5, .at (.n 2 false true))],[],0⟩)],false⟩,
 ⟨94,94,false,2,⟨0,[],[],0⟩,none,[],false⟩,
 ⟨112,112,false,1,⟨0,[],[],0⟩,none,[],false⟩,
 ⟨118,118,false,2,⟨0,[],[],0⟩,none,[],false⟩,
 ⟨124,124,true,1,⟨0,[],[],0⟩,none,[(10,⟨4,[(3, .at (.n 0 true true)),(7, .at (.n 1 false false)),(8, .at (.n 2 false true)),(9, .at (.n 3 false true))],[],0⟩),(25,⟨6,[(3, .at (.n 0 true true)),(5, .at (.ptr 0 0)),(6, .at (.n 1 false true)),(7, .at (.n 2 false false)),(8, .at (.n 3 false true)),(9, .at (.n 4 false true))],[some [.many (some 2) (.n 5 false false)]],0⟩)],false⟩,
 ⟨166,166,true,1,⟨0,[],[],0⟩,none,[(8,⟨2,[(0, .at (.n 0 false false)),(3, .at (.n 1 true true))],[],0⟩),(25,⟨4,[(3, .at (.n 0 true true)),(4, .at (.n 1 false true)),(5, .at (.n 2 true true)),(6, .at (.n 3 false true))],[],0⟩)],false⟩,
 ⟨202,202,false,2,⟨0,[],[],0⟩,none,[(8,⟨4,[(0, .at (.n 0 false false)),(1, .at (.n 1 false false)),(7, .at (.n 2 false true)),(8, .at (.n 3 false true))],[],0⟩)],false⟩,
 ⟨238,238,false,1,⟨0,[],[],0⟩,none,[(8,⟨4,[(0, .at (.n 0 false false)),(5, .at (.n 1 false false)),(6, .at (.n 2 false true)),(7, .at (.n 3 false true))],[],0⟩)],false⟩,
 ⟨41,41,false,1,⟨0,[],[],0⟩,none,[(16,⟨4,[(0, .at (.n 0 false false)),(14, .at (.n 1 false false)),(15, .at (.n 2 false true)),(16, .at (.n 3 false true))],[],0⟩),(38,⟨9,[(0, .at (.n 0 false false)),(3, .at (.n 1 false true)),(4, .at (.ptr 0 0)),(14, .at (.n 2 false false)),(15, .at (.n 3 false true)),(16, .at (.n 4 false true)),(25, .at (.n 5 false false)),(26, .at (.n 6 false true)),(27, .at (.n 7 false true))],[some [.many (some 2) (.n 8 false false)]],0⟩),(64,⟨3,[(55, .at (.n 0 false false)),(56, .at (.n 1 false true)),(57, .at (.n 2 false true))],[],0⟩)],false⟩,
 ⟨65,65,false,2,⟨0,[],[],0⟩,none,[],false⟩,
 ⟨71,71,false,2,⟨0,[],[],0⟩,none,[],false⟩,
 ⟨77,77,false,1,⟨0,[],[],0⟩,none,[(10,⟨4,[(3, .at (.n 0 false false)),(9, .at (.n 1 false false)),(10, .at (.n 2 false true)),(11, .at (.n 3 false true))],[],0⟩)],false⟩,
 ⟨137,137,false,2,⟨0,[],[],0⟩,none,[(8,⟨5,[(0, .at (.n 0 false false)),(1, .at (.n 1 false false)),(9, .at (.n 2 false false)),(10, .at (.n 3 false true)),(11, .at (.n 4 false true))],[],0⟩)],false⟩,
 ⟨155,155,false,1,⟨0,[],[],0⟩,none,[],false⟩,
 ⟨167,167,false,0,⟨0,[],[],0⟩,none,[],false⟩,
 ⟨203,203,false,1,⟨0,[],[],0⟩,none,[],false⟩,
 ⟨10256,16,false,1,⟨1,[(0, .at (.n 0 false false))],[],0⟩,some [⟨1,[.c (.nilptr) false, .n 0 false true],[]⟩,⟨4,[.ptr 0 0, .n 0 false true],[some [.one (.n 1 false true), .one (.mpp 1), .one (.mpp 2)],some [.one (.mpc 2)],some [.one (.mpc 3)]]⟩],[],false⟩,
 ⟨11392,87,false,2,⟨3,[(0, .at (.ptr 0 0)),(1, .at (.n 0 false false))],[some [.one (.n 1 true true), .one (.n 2 true true)]],1⟩,some [⟨4,[.n 0 false false, .n 1 false false],[some [.one (.n 2 true true), .one (.n 3 true true)]]⟩],[],false⟩,
 ⟨11408,88,false,1,⟨2,[(0, .at (.ptr 0 0))],[some [.one (.n 0 true true), .one (.n 1 true true)]],1⟩,some [⟨3,[.n 0 false true],[some [.one (.n 1 true true), .one (.n 2 true true)]]⟩],[(8,⟨5,[(0, .at (.ptr 0 0)),(10, .at (.n 0 false true)),(11, .at (.n 1 false true)),(12, .at (.n 2 false true))],[some [.one (.n 3 true true), .one (.n 4 true true)]],1⟩),(22,⟨9,[(0, .at (.ptr 0 0)),(4, .at (.ptr 1 0)),(10, .at (.n 0 false true)),(11, .at (.n 1 false true)),(12, .at (.n 2 false true)),(22, .at (.n 3 false true)),(23, .at (.n 4 false true)),(24, .at (.n 5 false true))],[some [.one (.n 6 true true), .one (.n 7 true true)],some [.many (some 34) (.n 8 false false)]],1⟩)],false⟩]
def Qad :List FE:=[
 ⟨11616,101,false,1,⟨1,[(0, .at (.n 0 false false))],[],0⟩,some [⟨2,[.osx 0 0 1],[some [.many none (.n 1 false false)]]⟩],[],false⟩,
 ⟨15136,321,false,2,⟨2,[(0, .at (.ptr 0 0)),(1, .at (.osl 1 0 64 64 1))],[some [.many (some 8) (.n 0 false false)],some [.many (some 64) (.n 1 false false)]],2⟩,some [⟨2,[],[some [.many (some 8) (.n 0 false false)],some [.many (some 64) (.n 1 false false)]]⟩],[(8,⟨4,[(0, .at (.ptr 0 0)),(1, .at (.osl 1 0 64 64 1)),(4, .at (.ptr 2 0)),(26, .at (.n 0 false true))],[some [.many (some 8) (.n 1 false false)],some [.many (some 64) (.n 2 false false)],some [.many (some 64) (.n 3 false false)]],2⟩),(25,⟨4,[(0, .at (.ptr 0 0)),(4, .at (.ptr 2 0)),(6, .at (.n 0 false true))],[some [.many (some 8) (.n 1 false false)],some [.many (some 64) (.n 2 false false)],some [.many (some 64) (.n 3 false false)]],2⟩),(48,⟨12,[(0, .at (.ptr 0 0)),(11, .at (.n 0 false false)),(12, .at (.n 1 false false)),(13, .at (.n 2 false false)),(14, .at (.n 3 false false)),(15, .at (.n 4 false false)),(16, .at (.n 5 false false)),(17, .at (.n 6 false false)),(18, .at (.n 7 false false)),(112, .at (.n 8 false false)),(113, .at (.n 9 false true))],[some [.many (some 8) (.n 10 false false)],some [.many (some 64) (.n 11 false false)]],2⟩),(72,⟨4,[(0, .at (.ptr 0 0)),(185, .at (.n 0 false false)),(186, .at (.n 1 false true))],[some [.many (some 8) (.n 2 false false)],some [.many (some 64) (.n 3 false false)]],2⟩)],false⟩,
 ⟨11808,113,false,2,⟨7,[(0, .at (.ptr 0 0)),(1, .at (.n 0 false false))],[some [.one (.n 1 false true), .one (.n 2 false true), .one (.n 3 true true), .one (.n 4 false true), .one (.n 5 false true), .one (.n 6 false true)]],1⟩,some [⟨7,[.n 0 false false],[some [.one (.n 1 false true), .one (.n 2 false true), .one (.n 3 true true), .one (.n 4 false true), .one (.n 5 false true), .one (.n 6 false true)]]⟩],[(12,⟨7,[(0, .at (.ptr 0 0)),(1, .at (.n 0 false false))],[some [.one (.n 1 false true), .one (.n 2 false true), .one (.n 3 true true), .one (.n 4 false true), .one (.n 5 false true), .one (.n 6 false true)]],1⟩),(24,⟨8,[(0, .at (.ptr 0 0)),(6, .at (.n 0 true false)),(20, .at (.n 1 false true))],[some [.one (.n 2 false true), .one (.n 3 false true), .one (.n 4 true true), .one (.n 5 false true), .one (.n 6 false true), .one (.n 7 false true)]],1⟩)],false⟩,
 ⟨10720,45,false,0,⟨0,[],[],0⟩,some [⟨3,[.ptr 0 0],[some [.one (.mpp 1), .one (.mpp 2), .one (.mpp 3)],some [.one (.mpc 0)],some [.one (.mpc 1)],some [.one (.mpc 2)]]⟩],[],false⟩,
 ⟨12160,135,false,3,⟨4,[(0, .at (.ptr 0 0)),(1, .at (.n 0 false false)),(2, .at (.n 1 false false))],[some [.one (.n 2 true true), .one (.n 3 true true)]],1⟩,some [⟨3,[.n 0 false false],[some [.one (.n 1 true true), .one (.n 2 true true)]]⟩],[(12,⟨10,[(0, .at (.ptr 0 0)),(1, .at (.n 0 false false)),(2, .at (.n 1 false false)),(6, .at (.ptr 1 0)),(7, .at (.n 2 true true)),(8, .at (.n 3 false false)),(14, .at (.n 4 false false)),(15, .at (.n 5 false true)),(16, .at (.n 6 false true))],[some [.one (.n 7 true true), .one (.n 8 true true)],some [.many (some 32) (.n 9 false false)]],1⟩),(40,⟨11,[(0, .at (.ptr 0 0)),(1, .at (.n 0 false false)),(2, .at (.n 1 false false)),(6, .at (.ptr 1 0)),(7, .at (.n 2 true true)),(13, .at (.n 3 false false)),(14, .at (.n 4 false false)),(15, .at (.n 5 false true)),(16, .at (.n 6 false true)),(73, .at (.n 7 false true))],[some [.one (.n 8 true true), .one (.n 9 true true)],some [.many (some 32) (.n 10 false false)]],1⟩)],false⟩,
 ⟨12496,156,false,3,⟨8,[(0, .at (.ptr 0 0)),(1, .at (.n 0 false false)),(2, .at (.n 1 false false))],[some [.one (.n 2 false true), .one (.n 3 false true), .one (.n 4 true true), .one (.n 5 false true), .one (.n 6 false true), .one (.n 7 false true)]],1⟩,some [⟨7,[.n 0 false false],[some [.one (.n 1 false true), .one (.n 2 false true), .one (.n 3 true true), .one (.n 4 false true), .one (.n 5 false true), .one (.n 6 false true)]]⟩],[],false⟩,
 ⟨12912,182,false,3,⟨4,[(0, .at (.ptr 0 0)),(1, .at (.n 0 false true)),(2, .at (.n 1 false false))],[some [.one (.n 2 true true), .one (.n 3 true true)]],1⟩,some [⟨3,[.n 0 false false],[some [.one (.n 1 true true), .one (.n 2 true true)]]⟩],[(12,⟨9,[(0, .at (.ptr 0 0)),(1, .at (.n 0 false true)),(2, .at (.n 1 false false)),(6, .at (.ptr 1 0)),(7, .at (.ptr 2 0)),(29, .at (.n 2 false true)),(30, .at (.n 3 false true)),(31, .at (.n 4 false true))],[some [.one (.n 5 true true), .one (.n 6 true true)],some [.many (some 32) (.n 7 false false)],some [.many (some 32) (.n 8 false false)]],1⟩)],false⟩,
 ⟨13280,205,false,2,⟨7,[(0, .at (.ptr 0 0)),(1, .at (.n 0 false false))],[some [.one (.n 1 false true), .one (.n 2 false true), .one (.n 3 true true), .one (.n 4 false true), .one (.n 5 false true), .one (.n 6 false true)]],1⟩,some [⟨7,[.n 0 false true],[some [.one (.n 1 false true), .one (.n 2 false true), .one (.n 3 true true), .one (.n 4 false true), .one (.n 5 false true), .one (.n 6 false true)]]⟩],[(11,⟨9,[(0, .at (.ptr 0 0)),(3, .at (.ptr 1 0)),(6, .at (.n 0 false true)),(35, .at (.n 1 false true))],[some [.one (.n 2 false true), .one (.n 3 false true), .one (.n 4 true true), .one (.n 5 false true), .one (.n 6 false true), .one (.n 7 false true)],some [.many none (.n 8 false false)]],1⟩)],false⟩,
 ⟨14064,254,false,2,⟨2,[(0, .at (.n 0 false true)),(1, .at (.fp false 255 [(0,0)]))],[some [.many none (.n 1 false false)]],1⟩,some [⟨2,[.n 0 false true],[some [.many none (.n 1 false false)]]⟩],[],false⟩,
 ⟨14640,290,false,2,⟨2,[(0, .at (.n 0 false true)),(1, .at (.fp false 255 [(0,0)]))],[some [.many none (.n 1 false false)]],1⟩,some [⟨2,[.n 0 false true],[some [.many none (.n 1 false false)]]⟩],[(8,⟨4,[(0, .at (.n 0 false true)),(1, .at (.fp false 255 [(0,0)])),(7, .at (.n 1 false true)),(8, .at (.n 2 false true))],[some [.many none (.n 3 false false)]],1⟩)],false⟩,
 ⟨14080,255,false,2,⟨2,[(0, .at (.n 0 false false)),(1, .at (.ptr 0 0))],[some [.many none (.n 1 false false)]],1⟩,some [⟨2,[.n 0 false true],[some [.many none (.n 1 false false)]]⟩],[],false⟩,
 ⟨11600,100,false,2,⟨3,[(0, .at (.osx 0 0 1)),(1, .at (.n 1 false true))],[some [.many none (.n 2 false false)]],1⟩,some [⟨2,[.osx 0 0 1],[some [.many none (.n 1 false false)]]⟩],[(18,⟨5,[(0, .at (.osx 0 0 1)),(1, .at (.n 1 false true)),(5, .at (.n 2 false true)),(6, .at (.n 3 false true))],[some [.many none (.n 4 false false)]],1⟩)],false⟩,
 ⟨10736,46,false,2,⟨4,[(0, .at (.ptr 0 0)),(1, .at (.n 0 false false))],[some [.one (.mpp 1), .one (.mpp 2), .one (.mpp 3)],some [.one (.mpc 1)],some [.one (.mpc 2)],some [.one (.mpc 3)]],4⟩,some [⟨5,[.n 0 false false, .n 1 false false],[some [.one (.mpp 1), .one (.mpp 2), .one (.mpp 3)],some [.one (.mpc 2)],some [.one (.mpc 3)],some [.one (.mpc 4)]]⟩],[(28,⟨9,[(0, .at (.ptr 0 0)),(4, .at (.ptr 4 0)),(6, .at (.osx 5 0 2)),(24, .at (.osx 5 1 2)),(25, .at (.n 2 false true)),(26, .at (.n 3 false true))],[some [.one (.mpp 1), .one (.mpp 2), .one (.mpp 3)],some [.one (.mpc 4)],some [.one (.mpc 5)],some [.one (.mpc 6)],some [.many (some 32) (.n 7 false false)],some [.many none (.n 8 false false)]],4⟩),(65,⟨9,[(0, .at (.ptr 0 0)),(4, .at (.ptr 4 0)),(6, .at (.osx 5 0 2)),(64, .at (.osx 5 1 2)),(65, .at (.n 2 false true)),(66, .at (.n 3 false true))],[some [.one (.mpp 1), .one (.mpp 2), .one (.mpp 3)],some [.one (.mpc 4)],some [.one (.mpc 5)],some [.one (.mpc 6)],some [.many (some 32) (.n 7 false false)],some [.many none (.n 8 false false)]],4⟩)],false⟩,
 ⟨12320,145,false,2,⟨3,[(0, .at (.osx 0 0 1)),(1, .at (.n 1 false true))],[some [.many none (.n 2 false false)]],1⟩,some [⟨2,[.n 0 false true],[some [.many none (.n 1 false false)]]⟩],[(8,⟨5,[(0, .at (.osx 0 0 1)),(1, .at (.n 1 false true)),(7, .at (.n 2 false true)),(8, .at (.n 3 false true))],[some [.many none (.n 4 false false)]],1⟩)],false⟩,
 ⟨11424,89,false,1,⟨1,[(0, .at (.n 0 false false))],[],0⟩,some [⟨2,[.osx 0 0 2],[some [.many none (.n 1 false false)]]⟩],[],false⟩,
 ⟨10352,22,false,2,⟨4,[(0, .at (.ptr 0 0)),(1, .at (.n 0 false false))],[some [.one (.mpp 1), .one (.mpp 2), .one (.mpp 3)],some [.one (.mpc 1)],some [.one (.mpc 2)],some [.one (.mpc 3)]],4⟩,some [⟨4,[.c (.nilptr) false, .n 0 false false],[some [.one (.mpp 1), .one (.mpp 2), .one (.mpp 3)],some [.one (.mpc 1)],some [.one (.mpc 2)],some [.one (.mpc 3)]]⟩,⟨7,[.ptr 4 0, .n 0 false true],[some [.one (.mpp 1), .one (.mpp 2), .one (.mpp 3)],some [.one (.mpc 1)],some [.one (.mpc 2)],some [.one (.mpc 3)],some [.one (.n 4 false true), .one (.mpp 5), .one (.mpp 6)],some [.one (.mpc 5)],some [.one (.mpc 6)]]⟩],[(20,⟨9,[(0, .at (.ptr 0 0)),(8, .at (.ptr 4 0)),(29, .at (.n 0 false true)),(30, .at (.n 1 false true)),(31, .at (.n 2 false true))],[some [.one (.mpp 1), .one (.mpp 2), .one (.mpp 3)],some [.one (.mpc 3)],some [.one (.mpc 4)],some [.one (.mpc 5)],some [.one (.n 6 false true), .one (.mpp 5), .one (.mpp 6)],some [.one (.mpc 7)],some [.one (.mpc 8)]],4⟩)],false⟩,
 ⟨11440,90,false,2,⟨3,[(0, .at (.osx 0 0 2)),(1, .at (.n 1 false true))],[some [.many none (.n 2 false false)]],1⟩,some [⟨1,[],[some [.many none (.n 0 false false)]]⟩],[],false⟩,
 ⟨10864,54,false,2,⟨4,[(0, .at (.ptr 0 0)),(1, .at (.n 0 false false))],[some [.one (.mpp 1), .one (.mpp 2), .one (.mpp 3)],some [.one (.mpc 1)],some [.one (.mpc 2)],some [.one (.mpc 3)]],4⟩,some [⟨5,[.n 0 false true, .n 1 false false],[some [.one (.mpp 1), .one (.mpp 2), .one (.mpp 3)],some [.one (.mpc 2)],some [.one (.mpc 3)],some [.one (.mpc 4)]]⟩],[],false⟩,
 ⟨12177,136,false,3,⟨4,[(0, .at (.osx 0 0 2)),(1, .at (.n 1 false true)),(2, .at (.n 2 false true))],[some [.many none (.n 3 false false)]],1⟩,some [⟨1,[],[some [.many none (.n 0 false false)]]⟩],[(8,⟨7,[(0, .at (.osx 0 0 2)),(1, .at (.n 1 false true)),(2, .at (.n 2 false true)),(6, .at (.n 3 false true)),(7, .at (.n 4 false true)),(8, .at (.n 5 false true))],[some [.many none (.n 6 false false)]],1⟩),(24,⟨5,[(0, .at (.osx 0 0 2)),(1, .at (.n 1 false true)),(2, .at (.n 2 false true)),(6, .at (.n 3 false true))],[some [.many none (.n 4 false false)]],1⟩),(36,⟨7,[(0, .at (.osx 0 0 2)),(1, .at (.n 1 false true)),(2, .at (.n 2 false true)),(6, .at (.n 3 false true)),(7, .at (.n 4 false true)),(8, .at (.n 5 false true))],[some [.many none (.n 6 false false)]],1⟩)],false⟩,
 ⟨11712,107,false,4,⟨8,[(0, .at (.ptr 0 0)),(1, .at (.n 0 false false)),(2, .at (.n 1 false false)),(3, .at (.n 2 false true))],[some [.one (.ptr 1 0), .one (.n 3 true true), .one (.n 4 false true)],some [.one (.mpp 2), .one (.mpp 3), .one (.mpp 4)],some [.one (.mpc 5)],some [.one (.mpc 6)],some [.one (.mpc 7)]],5⟩,some [⟨6,[.n 0 false false],[some [.one (.ptr 1 0), .one (.n 1 true true), .one (.n 2 false true)],some [.one (.mpp 2), .one (.mpp 3), .one (.mpp 4)],some [.one (.mpc 3)],some [.one (.mpc 4)],some [.one (.mpc 5)]]⟩],[(26,⟨10,[(0, .at (.ptr 0 0)),(1, .at (.n 0 false false)),(3, .at (.n 1 false true)),(29, .at (.n 2 false false)),(30, .at (.n 3 false true)),(31, .at (.n 4 false true))],[some [.one (.ptr 1 0), .one (.n 5 true true), .one (.n 6 false true)],some [.one (.mpp 2), .one (.mpp 3), .one (.mpp 4)],some [.one (.mpc 7)],some [.one (.mpc 8)],some [.one (.mpc 9)]],5⟩)],false⟩,
 ⟨12945,184,false,4,⟨5,[(0, .at (.osx 0 0 2)),(1, .at (.n 1 false true)),(2, .at (.n 2 false true)),(3, .at (.n 3 false true))],[some [.many none (.n 4 false false)]],1⟩,some [⟨1,[],[some [.many none (.n 0 false false)]]⟩],[(5,⟨6,[(0, .at (.osx 0 0 2)),(1, .at (.n 1 false true)),(2, .at (.n 2 false true)),(3, .at (.n 3 false true)),(8, .at (.n 4 false true))],[some [.many none (.n 5 false false)]],1⟩),(17,⟨7,[(0, .at (.osx 0 0 2)),(1, .at (.n 1 false true)),(2, .at (.n 2 false true)),(3, .at (.n 3 false true)),(8, .at (.n 4 false true)),(9, .at (.n 5 false true))],[some [.many none (.n 6 false false)]],1⟩)],false⟩,
 ⟨12384,149,false,2,⟨4,[(0, .at (.ptr 0 0)),(1, .at (.n 0 false false))],[some [.one (.mpp 1), .one (.mpp 2), .one (.mpp 3)],some [.one (.mpc 1)],some [.one (.mpc 2)],some [.one (.mpc 3)]],4⟩,some [⟨5,[.n 0 false false, .n 1 false false],[some [.one (.mpp 1), .one (.mpp 2), .one (.mpp 3)],some [.one (.mpc 2)],some [.one (.mpc 3)],some [.one (.mpc 4)]]⟩],[],false⟩,
 ⟨10272,17,false,3,⟨2,[(0, .at (.c (.nilptr) false)),(1, .at (.n 0 false false)),(2, .at (.n 1 false false))],[],0⟩,some [⟨1,[.n 0 false false],[]⟩],[(17,⟨6,[(0, .at (.c (.nilptr) false)),(2, .at (.n 0 false false)),(6, .at (.ptr 0 0)),(7, .at (.n 1 false true)),(8, .at (.ptr 1 0)),(31, .at (.n 2 false true))],[some [.one (.n 3 false true), .one (.n 4 false true)],some [.many (some 4) (.n 5 false false)]],0⟩)],false⟩,
 ⟨10288,18,false,2,⟨1,[(0, .at (.c (.nilptr) false)),(1, .at (.n 0 false false))],[],0⟩,some [⟨3,[.n 0 false true, .n 1 false false, .n 2 false true],[]⟩],[(6,⟨5,[(0, .at (.c (.nilptr) false)),(1, .at (.n 0 false false)),(5, .at (.ptr 0 0))],[some [.one (.n 1 false true), .one (.n 2 false true), .one (.n 3 true true), .one (.n 4 false true)]],0⟩)],false⟩,
 ⟨12961,185,false,5,⟨6,[(0, .at (.osx 0 0 2)),(1, .at (.n 1 false true)),(2, .at (.n 2 false true)),(3, .at (.n 3 false true)),(4, .at (.n 4 false true))],[some [.many none (.n 5 false false)]],1⟩,some [⟨1,[],[some [.many none (.n 0 false false)]]⟩],[(12,⟨6,[(0, .at (.osx 0 0 2)),(1, .at (.n 1 false true)),(4, .at (.n 2 false true)),(10, .at (.n 3 false true)),(11, .at (.n 4 false true))],[some [.many none (.n 5 false false)]],1⟩),(31,⟨4,[(0, .at (.osx 0 0 2)),(10, .at (.n 1 false true)),(13, .at (.n 2 false true))],[some [.many none (.n 3 false false)]],1⟩),(54,⟨6,[(0, .at (.osx 0 0 2)),(2, .at (.n 1 false true)),(4, .at (.n 2 false true)),(14, .at (.n 3 false true)),(15, .at (.n 4 false true))],[some [.many none (.n 5 false false)]],1⟩),(73,⟨4,[(0, .at (.osx 0 0 2)),(14, .at (.n 1 false true)),(17, .at (.n 2 false true))],[some [.many none (.n 3 false false)]],1⟩),(102,⟨10,[(0, .at (.osx 0 0 2)),(1, .at (.n 1 false true)),(2, .at (.n 2 false true)),(3, .at (.n 3 false true)),(4, .at (.n 4 false true)),(18, .at (.n 5 false true)),(19, .at (.n 6 false true)),(20, .at (.n 7 false true)),(21, .at (.n 8 false true))],[some [.many none (.n 9 false false)]],1⟩),(106,⟨11,[(0, .at (.osx 0 0 2)),(1, .at (.n 1 false true)),(2, .at (.n 2 false true)),(3, .at (.n 3 false true)),(4, .at (.n 4 false true)),(18, .at (.n 5 false true)),(19, .at (.n 6 false true)),(20, .at (.n 7 false true)),(21, .at (.n 8 false true)),(22, .at (.n 9 false true))],[some [.many none (.n 10 false false)]],1⟩),(129,⟨8,[(0, .at (.osx 0 0 2)),(1, .at (.n 1 false true)),(3, .at (.n 2 false true)),(4, .at (.n 3 false true)),(18, .at (.n 4 false true)),(20, .at (.n 5 false true)),(24, .at (.n 6 false true))],[some [.many none (.n 7 false false)]],1⟩)],false⟩,
 ⟨13761,235,false,5,⟨6,[(0, .at (.osx 0 0 2)),(1, .at (.n 1 false true)),(2, .at (.n 2 false true)),(3, .at (.n 3 false true)),(4, .at (.n 4 false true))],[some [.many none (.n 5 false false)]],1⟩,some [⟨1,[],[some [.many none (.n 0 false false)]]⟩],[(8,⟨6,[(0, .at (.osx 0 0 2)),(2, .at (.n 1 false true)),(4, .at (.n 2 false true)),(10, .at (.n 3 false true)),(11, .at (.n 4 false true))],[some [.many none (.n 5 false false)]],1⟩)],false⟩,
 ⟨14497,281,false,5,⟨6,[(0, .at (.osx 0 0 2)),(1, .at (.n 1 false true)),(2, .at (.n 2 false true)),(3, .at (.n 3 false true)),(4, .at (.n 4 false true))],[some [.many none (.n 5 false false)]],1⟩,some [⟨1,[],[some [.many none (.n 0 false false)]]⟩],[(5,⟨6,[(0, .at (.osx 0 0 2)),(1, .at (.n 1 false true)),(2, .at (.n 2 false true)),(3, .at (.n 3 false true)),(10, .at (.n 4 false true))],[some [.many none (.n 5 false false)]],1⟩)],false⟩,
 ⟨10304,19,false,2,⟨1,[(0, .at (.c (.nilptr) false)),(1, .at (.n 0 false false))],[],0⟩,some [⟨1,[.n 0 false true],[]⟩],[],false⟩,
 ⟨10912,57,false,2,⟨4,[(0, .at (.ptr 0 0)),(1, .at (.n 0 false false))],[some [.one (.mpp 1), .one (.mpp 2), .one (.mpp 3)],some [.one (.mpc 1)],some [.one (.mpc 2)],some [.one (.mpc 3)]],4⟩,some [⟨5,[.n 0 false false, .n 1 false true],[some [.one (.mpp 1), .one (.mpp 2), .one (.mpp 3)],some [.one (.mpc 2)],some [.one (.mpc 3)],some [.one (.mpc 4)]]⟩],[],false⟩,
 ⟨10752,47,false,4,⟨3,[(0, .at (.c (.nilptr) false)),(1, .at (.n 0 false true)),(2, .at (.n 1 false false)),(3, .at (.n 2 false false))],[],0⟩,some [⟨2,[.n 0 false false, .n 1 false true],[]⟩],[(14,⟨9,[(0, .at (.c (.nilptr) false)),(1, .at (.n 0 false true)),(3, .at (.n 1 false false)),(6, .at (.ptr 0 0)),(8, .at (.ptr 1 0)),(10, .at (.n 2 false true)),(11, .at (.n 3 false true)),(12, .at (.n 4 false false)),(13, .at (.n 5 false true))],[some [.many none (.n 6 false false)],some [.one (.n 7 false true), .one (.n 8 false true)]],0⟩),(18,⟨11,[(0, .at (.c (.nilptr) false)),(1, .at (.n 0 false true)),(3, .at (.n 1 false false)),(8, .at (.ptr 0 0)),(10, .at (.n 2 false true)),(11, .at (.n 3 false false)),(12, .at (.n 4 false false)),(13, .at (.n 5 false true)),(34, .at (.n 6 false false)),(35, .at (.n 7 false true)),(36, .at (.n 8 false true))],[some [.one (.n 9 false true), .one (.n 10 false true)]],0⟩)],false⟩,
 ⟨11568,98,false,3,⟨2,[(0, .at (.c (.nilptr) false)),(1, .at (.n 0 false false)),(2, .at (.n 1 false false))],[],0⟩,some [⟨1,[.n 0 false false],[]⟩],[],false⟩,
 ⟨11520,95,false,3,⟨7,[(0, .at (.ptr 0 0)),(1, .at (.n 0 false false)),(2, .at (.osv 1 1 2 2))],[some [.one (.mpp 2), .one (.mpp 3), .one (.mpp 4)],some [.many none (.n 3 false false)],some [.one (.mpc 4)],some [.one (.mpc 5)],some [.one (.mpc 6)]],5⟩,some [⟨6,[.n 0 false false, .n 1 false false],[some [.one (.mpp 2), .one (.mpp 3), .one (.mpp 4)],some [.many none (.n 2 false false)],some [.one (.mpc 3)],some [.one (.mpc 4)],some [.one (.mpc 5)]]⟩],[(8,⟨9,[(0, .at (.ptr 0 0)),(1, .at (.n 0 false false)),(2, .at (.osv 1 1 2 2)),(6, .at (.ptr 5 0)),(8, .at (.n 3 true true))],[some [.one (.mpp 2), .one (.mpp 3), .one (.mpp 4)],some [.many none (.n 4 false false)],some [.one (.mpc 5)],some [.one (.mpc 6)],some [.one (.mpc 7)],some [.many (some 32) (.n 8 false false)]],5⟩),(44,⟨12,[(0, .at (.ptr 0 0)),(1, .at (.n 0 false false)),(2, .at (.osv 1 1 2 2)),(6, .at (.ptr 5 0)),(8, .at (.n 3 true true)),(11, .at (.n 4 false false)),(14, .at (.n 5 false false)),(15, .at (.n 6 false true))],[some [.one (.mpp 2), .one (.mpp 3), .one (.mpp 4)],some [.many none (.n 7 false false)],some [.one (.mpc 8)],some [.one (.mpc 9)],some [.one (.mpc 10)],some [.many (some 32) (.n 11 false false)]],5⟩)],false⟩,
 ⟨12240,140,false,2,⟨4,[(0, .at (.ptr 0 0)),(1, .at (.n 0 false false))],[some [.one (.mpp 1), .one (.mpp 2), .one (.mpp 3)],some [.one (.mpc 1)],some [.one (.mpc 2)],some [.one (.mpc 3)]],4⟩,some [⟨5,[.n 0 false false, .n 1 false true],[some [.one (.mpp 1), .one (.mpp 2), .one (.mpp 3)],some [.one (.mpc 2)],some [.one (.mpc 3)],some [.one (.mpc 4)]]⟩],[],false⟩,
 ⟨12256,141,false,2,⟨4,[(0, .at (.ptr 0 0)),(1, .at (.n 0 false true))],[some [.one (.mpp 1), .one (.mpp 2), .one (.mpp 3)],some [.one (.mpc 1)],some [.one (.mpc 2)],some [.one (.mpc 3)]],4⟩,some [⟨5,[.n 0 false false, .n 1 false false],[some [.one (.mpp 1), .one (.mpp 2), .one (.mpp 3)],some [.one (.mpc 2)],some [.one (.mpc 3)],some [.one (.mpc 4)]]⟩],[],false⟩,
 ⟨10273,17,false,3,⟨5,[(0, .at (.ptr 0 0)),(1, .at (.n 0 false false)),(2, .at (.n 1 false false))],[some [.one (.n 2 false true), .one (.mpp 1), .one (.mpp 2)],some [.one (.mpc 3)],some [.one (.mpc 4)]],3⟩,some [⟨4,[.n 0 false false],[some [.one (.n 1 false true), .one (.mpp 1), .one (.mpp 2)],some [.one (.mpc 2)],some [.one (.mpc 3)]]⟩],[(17,⟨9,[(0, .at (.ptr 0 0)),(2, .at (.n 0 false false)),(6, .at (.ptr 3 0)),(7, .at (.n 1 false false)),(8, .at (.ptr 4 0)),(31, .at (.n 2 false true))],[some [.one (.n 3 false true), .one (.mpp 1), .one (.mpp 2)],some [.one (.mpc 4)],some [.one (.mpc 5)],some [.one (.n 6 false true), .one (.n 7 false true)],some [.many (some 4) (.n 8 false false)]],3⟩)],false⟩,
 ⟨10289,18,false,2,⟨4,[(0, .at (.ptr 0 0)),(1, .at (.n 0 false false))],[some [.one (.n 1 false true), .one (.mpp 1), .one (.mpp 2)],some [.one (.mpc 2)],some [.one (.mpc 3)]],3⟩,some [⟨6,[.n 0 false false, .n 1 false false, .n 2 false true],[some [.one (.n 3 false true), .one (.mpp 1), .one (.mpp 2)],some [.one (.mpc 4)],some [.one (.mpc 5)]]⟩],[(6,⟨8,[(0, .at (.ptr 0 0)),(1, .at (.n 0 false false)),(5, .at (.ptr 3 0))],[some [.one (.n 1 false true), .one (.mpp 1), .one (.mpp 2)],some [.one (.mpc 2)],some [.one (.mpc 3)],some [.one (.n 4 false true), .one (.n 5 false true), .one (.n 6 true true), .one (.n 7 false true)]],3⟩)],false⟩,
 ⟨10305,19,false,2,⟨4,[(0, .at (.ptr 0 0)),(1, .at (.n 0 false false))],[some [.one (.n 1 false true), .one (.mpp 1), .one (.mpp 2)],some [.one (.mpc 2)],some [.one (.mpc 3)]],3⟩,some [⟨4,[.n 0 false true],[some [.one (.n 1 false true), .one (.mpp 1), .one (.mpp 2)],some [.one (.mpc 2)],some [.one (.mpc 3)]]⟩],[],false⟩,
 ⟨10753,47,false,4,⟨6,[(0, .at (.ptr 0 0)),(1, .at (.n 0 false false)),(2, .at (.n 1 false false)),(3, .at (.n 2 false false))],[some [.one (.n 3 false true), .one (.mpp 1), .one (.mpp 2)],some [.one (.mpc 4)],some [.one (.mpc 5)]],3⟩,some [⟨5,[.n 0 false false, .n 1 false true],[some [.one (.n 2 false true), .one (.mpp 1), .one (.mpp 2)],some [.one (.mpc 3)],some [.one (.mpc 4)]]⟩],[(14,⟨12,[(0, .at (.ptr 0 0)),(1, .at (.n 0 false false)),(3, .at (.n 1 false false)),(6, .at (.ptr 3 0)),(8, .at (.ptr 4 0)),(10, .at (.n 2 false true)),(11, .at (.n 3 false false)),(12, .at (.n 4 false false)),(13, .at (.n 5 false true))],[some [.one (.n 6 false true), .one (.mpp 1), .one (.mpp 2)],some [.one (.mpc 7)],some [.one (.mpc 8)],some [.many none (.n 9 false false)],some [.one (.n 10 false true), .one (.n 11 false true)]],3⟩),(18,⟨14,[(0, .at (.ptr 0 0)),(1, .at (.n 0 false false)),(3, .at (.n 1 false false)),(8, .at (.ptr 3 0)),(10, .at (.n 2 false true)),(11, .at (.n 3 false false)),(12, .at (.n 4 false false)),(13, .at (.n 5 false true)),(34, .at (.n 6 false false)),(35, .at (.n 7 false true)),(36, .at (.n 8 false true))],[some [.one (.n 9 false true), .one (.mpp 1), .one (.mpp 2)],some [.one (.mpc 10)],some [.one (.mpc 11)],some [.one (.n 12 false true), .one (.n 13 false true)]],3⟩)],false⟩,
 ⟨11569,98,false,3,⟨5,[(0, .at (.ptr 0 0)),(1, .at (.n 0 false false)),(2, .at (.n 1 false false))],[some [.one (.n 2 false true), .one (.mpp 1), .one (.mpp 2)],some [.one (.mpc 3)],some [.one (.mpc 4)]],3⟩,some [⟨4,[.n 0 false false],[some [.one (.n 1 false true), .one (.mpp 1), .one (.mpp 2)],some [.one (.mpc 2)],some [.one (.mpc 3)]]⟩],[],false⟩]
def tabs :List FE:=Z88++Qbi++Qad
def extO :Nat->Bool:=fun f=> [110,154].any (Nat.beq f)
def tb9 :List V:=[.int .u32 1116352408, .int .u32 1899447441, .int .u32 3049323471, .int .u32 3921009573, .int .u32 961987163, .int .u32 1508970993, .int .u32 2453635748, .int .u32 2870763221, .int .u32 3624381080, .int .u32 310598401, .int .u32 607225278, .int .u32 1426881987, .int .u32 1925078388, .int .u32 2162078206, .int .u32 2614888103, .int .u32 3248222580, .int .u32 3835390401, .int .u32 4022224774, .int .u32 264347078, .int .u32 604807628, .int .u32 770255983, .int .u32 1249150122, .int .u32 1555081692, .int .u32 1996064986, .int .u32 2554220882, .int .u32 2821834349, .int .u32 2952996808, .int .u32 3210313671, .int .u32 3336571891, .int .u32 3584528711, .int .u32 113926993, .int .u32 338241895, .int .u32 666307205, .int .u32 773529912, .int .u32 1294757372, .int .u32 1396182291, .int .u32 1695183700, .int .u32 1986661051, .int .u32 2177026350, .int .u32 2456956037, .int .u32 2730485921, .int .u32 2820302411, .int .u32 3259730800, .int .u32 3345764771, .int .u32 3516065817, .int .u32 3600352804, .int .u32 4094571909, .int .u32 275423344, .int .u32 430227734, .int .u32 506948616, .int .u32 659060556, .int .u32 883997877, .int .u32 958139571, .int .u32 1322822218, .int .u32 1537002063, .int .u32 1747873779, .int .u32 1955562222, .int .u32 2024104815, .int .u32 2227730452, .int .u32 2361852424, .int .u32 2428436474, .int .u32 2756734187, .int .u32 3204031479, .int .u32 3329325298]
def tb0 :List V:=[.sl false 1 [.str [97,105,120], .str [97,110,100,114,111,105,100], .str [100,97,114,119,105,110], .str [100,114,97,103,111,110,102,108,121], .str [102,114,101,101,98,115,100], .str [105,108,108,117,109,111,115], .str [105,111,115], .str [106,115], .str [108,105,110,117,120], .str [110,101,116,98,115,100], .str [111,112,101,110,98,115,100], .str [112,108,97,110,57], .str [115,111,108,97,114,105,115], .str [119,97,115,105,112,49], .str [119,105,110,100,111,119,115]]]
def tb1 :List V:=[.sl false 1 [.str [51,56,54], .str [97,109,100,54,52], .str [97,114,109], .str [97,114,109,54,52], .str [108,111,111,110,103,54,52], .str [109,105,112,115], .str [109,105,112,115,54,52], .str [109,105,112,115,54,52,108,101], .str [109,105,112,115,108,101], .str [112,112,99,54,52], .str [112,112,99,54,52,108,101], .str [114,105,115,99,118,54,52], .str [115,51,57,48,120], .str [119,97,115,109]]]
def gls :Nat->Option (List V):=fun g=>match Nat.beq g 9 with|true=>some tb9|false=>match Nat.beq g 0 with|true=>some tb0|false=>match Nat.beq g 1 with|true=>some tb1|false=>none
def cfg :Cfg:=Z5x tabs extO gls
theorem keys :Znm tabs=true:=by kernel_rfl
noncomputable abbrev vl (e:Nat->List V->Option V):Gam:=val Tryz.prog tabs e cfg
abbrev Ev :=Nat->List V->Option V
noncomputable abbrev stp (e:Ev)(Γ:Gam):=Go.Abs.step Tryz.prog tabs e cfg Γ
abbrev S0 (f l:Nat)(g:Gam->Option V):Prop:=∀(e:Ev) (Γ:Gam),stp e Γ f l []=g Γ
theorem w0 {f l:Nat}{g:Gam->Option V}(h:S0 f l g)(e:Ev):vl e f l []=g (vl e) :=Zdk (h e _)
abbrev S1 (f l:Nat)(g:Gam->V->Option V):Prop:=∀(e:Ev) (Γ:Gam) (v0:V),stp e Γ f l [v0]=g Γ v0
theorem w1 {f l:Nat}{g:Gam->V->Option V}(h:S1 f l g)(e:Ev)(v0:V):vl e f l [v0]=g (vl e) v0:=Zdk (h e _ v0)
abbrev S2 (f l:Nat)(g:Gam->V->V->Option V):Prop:=∀(e:Ev) (Γ:Gam) (v0 v1:V),stp e Γ f l [v0,v1]=g Γ v0 v1
theorem w2 {f l:Nat}{g:Gam->V->V->Option V}(h:S2 f l g)(e:Ev)(v0 v1:V):vl e f l [v0,v1]=g (vl e) v0 v1:=Zdk (h e _ v0 v1)
abbrev S3 (f l:Nat)(g:Gam->V->V->V->Option V):Prop:=∀(e:Ev) (Γ:Gam) (v0 v1 v2:V),stp e Γ f l [v0,v1,v2]=g Γ v0 v1 v2
theorem w3 {f l:Nat}{g:Gam->V->V->V->Option V}(h:S3 f l g)(e:Ev)(v0 v1 v2:V):vl e f l [v0,v1,v2]=g (vl e) v0 v1 v2:=Zdk (h e _ v0 v1 v2)
abbrev S4 (f l:Nat)(g:Gam->V->V->V->V->Option V):Prop:=∀(e:Ev) (Γ:Gam) (v0 v1 v2 v3:V),stp e Γ f l [v0,v1,v2,v3]=g Γ v0 v1 v2 v3
theorem w4 {f l:Nat}{g:Gam->V->V->V->V->Option V}(h:S4 f l g)(e:Ev)(v0 v1 v2 v3:V):vl e f l [v0,v1,v2,v3]=g (vl e) v0 v1 v2 v3:=Zdk (h e _ v0 v1 v2 v3)
abbrev S5 (f l:Nat)(g:Gam->V->V->V->V->V->Option V):Prop:=∀(e:Ev) (Γ:Gam) (v0 v1 v2 v3 v4:V),stp e Γ f l [v0,v1,v2,v3,v4]=g Γ v0 v1 v2 v3 v4
theorem w5 {f l:Nat}{g:Gam->V->V->V->V->V->Option V}(h:S5 f l g)(e:Ev)(v0 v1 v2 v3 v4:V):vl e f l [v0,v1,v2,v3,v4]=g (vl e) v0 v1 v2 v3 v4:=Zdk (h e _ v0 v1 v2 v3 v4)
abbrev S6 (f l:Nat)(g:Gam->V->V->V->V->V->V->Option V):Prop:=∀(e:Ev) (Γ:Gam) (v0 v1 v2 v3 v4 v5:V),stp e Γ f l [v0,v1,v2,v3,v4,v5]=g Γ v0 v1 v2 v3 v4 v5
theorem w6 {f l:Nat}{g:Gam->V->V->V->V->V->V->Option V}(h:S6 f l g)(e:Ev)(v0 v1 v2 v3 v4 v5:V):vl e f l [v0,v1,v2,v3,v4,v5]=g (vl e) v0 v1 v2 v3 v4 v5:=Zdk (h e _ v0 v1 v2 v3 v4 v5)
abbrev S7 (f l:Nat)(g:Gam->V->V->V->V->V->V->V->Option V):Prop:=∀(e:Ev) (Γ:Gam) (v0 v1 v2 v3 v4 v5 v6:V),stp e Γ f l [v0,v1,v2,v3,v4,v5,v6]=g Γ v0 v1 v2 v3 v4 v5 v6
theorem w7 {f l:Nat}{g:Gam->V->V->V->V->V->V->V->Option V}(h:S7 f l g)(e:Ev)(v0 v1 v2 v3 v4 v5 v6:V):vl e f l [v0,v1,v2,v3,v4,v5,v6]=g (vl e) v0 v1 v2 v3 v4 v5 v6:=Zdk (h e _ v0 v1 v2 v3 v4 v5 v6)
abbrev S8 (f l:Nat)(g:Gam->V->V->V->V->V->V->V->V->Option V):Prop:=∀(e:Ev) (Γ:Gam) (v0 v1 v2 v3 v4 v5 v6 v7:V),stp e Γ f l [v0,v1,v2,v3,v4,v5,v6,v7]=g Γ v0 v1 v2 v3 v4 v5 v6 v7
theorem w8 {f l:Nat}{g:Gam->V->V->V->V->V->V->V->V->Option V}(h:S8 f l g)(e:Ev)(v0 v1 v2 v3 v4 v5 v6 v7:V):vl e f l [v0,v1,v2,v3,v4,v5,v6,v7]=g (vl e) v0 v1 v2 v3 v4 v5 v6 v7:=Zdk (h e _ v0 v1 v2 v3 v4 v5 v6 v7)
abbrev S9 (f l:Nat)(g:Gam->V->V->V->V->V->V->V->V->V->Option V):Prop:=∀(e:Ev) (Γ:Gam) (v0 v1 v2 v3 v4 v5 v6 v7 v8:V),stp e Γ f l [v0,v1,v2,v3,v4,v5,v6,v7,v8]=g Γ v0 v1 v2 v3 v4 v5 v6 v7 v8
theorem w9 {f l:Nat}{g:Gam->V->V->V->V->V->V->V->V->V->Option V}(h:S9 f l g)(e:Ev)(v0 v1 v2 v3 v4 v5 v6 v7 v8:V):vl e f l [v0,v1,v2,v3,v4,v5,v6,v7,v8]=g (vl e) v0 v1 v2 v3 v4 v5 v6 v7 v8:=Zdk (h e _ v0 v1 v2 v3 v4 v5 v6 v7 v8)
abbrev S10 (f l:Nat)(g:Gam->V->V->V->V->V->V->V->V->V->V->Option V):Prop:=∀(e:Ev) (Γ:Gam) (v0 v1 v2 v3 v4 v5 v6 v7 v8 v9:V),stp e Γ f l [v0,v1,v2,v3,v4,v5,v6,v7,v8,v9]=g Γ v0 v1 v2 v3 v4 v5 v6 v7 v8 v9
theorem w10 {f l:Nat}{g:Gam->V->V->V->V->V->V->V->V->V->V->Option V}(h:S10 f l g)(e:Ev)(v0 v1 v2 v3 v4 v5 v6 v7 v8 v9:V):vl e f l [v0,v1,v2,v3,v4,v5,v6,v7,v8,v9]=g (vl e) v0 v1 v2 v3 v4 v5 v6 v7 v8 v9:=Zdk (h e _ v0 v1 v2 v3 v4 v5 v6 v7 v8 v9)
abbrev S11 (f l:Nat)(g:Gam->V->V->V->V->V->V->V->V->V->V->V->Option V):Prop:=∀(e:Ev) (Γ:Gam) (v0 v1 v2 v3 v4 v5 v6 v7 v8 v9 v10:V),stp e Γ f l [v0,v1,v2,v3,v4,v5,v6,v7,v8,v9,v10]=g Γ v0 v1 v2 v3 v4 v5 v6 v7 v8 v9 v10
theorem w11 {f l:Nat}{g:Gam->V->V->V->V->V->V->V->V->V->V->V->Option V}(h:S11 f l g)(e:Ev)(v0 v1 v2 v3 v4 v5 v6 v7 v8 v9 v10:V):vl e f l [v0,v1,v2,v3,v4,v5,v6,v7,v8,v9,v10]=g (vl e) v0 v1 v2 v3 v4 v5 v6 v7 v8 v9 v10:=Zdk (h e _ v0 v1 v2 v3 v4 v5 v6 v7 v8 v9 v10)
abbrev S12 (f l:Nat)(g:Gam->V->V->V->V->V->V->V->V->V->V->V->V->Option V):Prop:=∀(e:Ev) (Γ:Gam) (v0 v1 v2 v3 v4 v5 v6 v7 v8 v9 v10 v11:V),stp e Γ f l [v0,v1,v2,v3,v4,v5,v6,v7,v8,v9,v10,v11]=g Γ v0 v1 v2 v3 v4 v5 v6 v7 v8 v9 v10 v11
theorem w12 {f l:Nat}{g:Gam->V->V->V->V->V->V->V->V->V->V->V->V->Option V}(h:S12 f l g)(e:Ev)(v0 v1 v2 v3 v4 v5 v6 v7 v8 v9 v10 v11:V):vl e f l [v0,v1,v2,v3,v4,v5,v6,v7,v8,v9,v10,v11]=g (vl e) v0 v1 v2 v3 v4 v5 v6 v7 v8 v9 v10 v11:=Zdk (h e _ v0 v1 v2 v3 v4 v5 v6 v7 v8 v9 v10 v11)
abbrev S13 (f l:Nat)(g:Gam->V->V->V->V->V->V->V->V->V->V->V->V->V->Option V):Prop:=∀(e:Ev) (Γ:Gam) (v0 v1 v2 v3 v4 v5 v6 v7 v8 v9 v10 v11 v12:V),stp e Γ f l [v0,v1,v2,v3,v4,v5,v6,v7,v8,v9,v10,v11,v12]=g Γ v0 v1 v2 v3 v4 v5 v6 v7 v8 v9 v10 v11 v12
theorem w13 {f l:Nat}{g:Gam->V->V->V->V->V->V->V->V->V->V->V->V->V->Option V}(h:S13 f l g)(e:Ev)(v0 v1 v2 v3 v4 v5 v6 v7 v8 v9 v10 v11 v12:V):vl e f l [v0,v1,v2,v3,v4,v5,v6,v7,v8,v9,v10,v11,v12]=g (vl e) v0 v1 v2 v3 v4 v5 v6 v7 v8 v9 v10 v11 v12:=Zdk (h e _ v0 v1 v2 v3 v4 v5 v6 v7 v8 v9 v10 v11 v12)
end Go.Proofs.YtegmegbanfkomaaGreatDoor
namespace Go.Proofs.YtegmegbanfkomaaGreatDoor
open Go.Abs
noncomputable def y.zq60 (Γ:Gam):Option V:=
 pr (.cat [none,none]) [.str [103,111,46,109,111,100], .str [109,111,100,117,108,101,32,97]] fun v0=>pr (.cat [none]) [.str [120,47,102,46,103,111]] fun v1=>pr (.cat [none,none]) [.str [120,47,102,46,103,111], .str []] fun v2=>pr (.bsl 2) [v0,v2] fun v3=>ch Γ 10256 [v3] fun v4=>pr (.ext 0) [v4] fun v5=>pr (.bin .eql .no) [v5, .int .i64 0] fun v6=>vif v6 (pr (.ext 1) [v4] fun v7=>vif v7 (ch Γ 10272 [.str [], .str [97,47,120]] fun v8=>pr (.cat [none,none]) [.int .i64 1, .str [120]] fun v10=>pr (.bin .eql (.flat [(some .i64,true),(none,true)])) [v8,v10] fun v11=>vif v11 (ch Γ 10272 [.str [120], .str [97,47,121]] fun v12=>pr (.cat [none]) [.int .i64 5] fun v14=>pr (.cat [none,none]) [.int .i64 5, .str []] fun v15=>pr (.bin .eql (.flat [(some .i64,true),(none,true)])) [v12,v15] fun v16=>vif v16 (ch Γ 10272 [.str [], .str [102,109,116]] fun v17=>pr (.cat [none]) [.int .i64 2] fun v19=>pr (.cat [none,none]) [.int .i64 2, .str []] fun v20=>pr (.bin .eql (.flat [(some .i64,true),(none,true)])) [v17,v20] fun v21=>vif v21 (ch Γ 10272 [.str [], .str [98,46,99,111,109,47,122]] fun v22=>pr (.cat [none]) [.int .i64 4] fun v24=>pr (.cat [none,none]) [.int .i64 4, .str []] fun v25=>pr (.bin .eql (.flat [(some .i64,true),(none,true)])) [v22,v25] fun v26=>some v26) (some (.bool false))) (some (.bool false))) (some (.bool false))) (some (.bool false))) (pr (.ext 1) [v4] fun v7=>pr (.ext 2) [v4] fun v8=>pr (.ext 3) [v4] fun v9=>pr (.ext 4) [v4] fun v10=>vif v7 (ch Γ 10273 [.str [], .str [97,47,120],v8,v9,v10] fun v11=>pr (.ext 0) [v11] fun v12=>pr (.ext 1) [v11] fun v13=>pr (.ext 2) [v11] fun v14=>pr (.ext 3) [v11] fun v15=>pr (.cat [none,none]) [.int .i64 1, .str [120]] fun v16=>pr (.bin .eql (.flat [(some .i64,true),(none,true)])) [v12,v16] fun v17=>vif v17 (ch Γ 10273 [.str [120], .str [97,47,121],v13,v14,v15] fun v18=>pr (.ext 0) [v18] fun v19=>pr (.ext 1) [v18] fun v20=>pr (.ext 2) [v18] fun v21=>pr (.ext 3) [v18] fun v22=>pr (.cat [none]) [.int .i64 5] fun v23=>pr (.cat [none,none]) [.int .i64 5, .str []] fun v24=>pr (.bin .eql (.flat [(some .i64,true),(none,true)])) [v19,v24] fun v25=>vif v25 (ch Γ 10273 [.str [], .str [102,109,116],v20,v21,v22] fun v26=>pr (.ext 0) [v26] fun v27=>pr (.ext 1) [v26] fun v28=>pr (.ext 2) [v26] fun v29=>pr (.ext 3) [v26] fun v30=>pr (.cat [none]) [.int .i64 2] fun v31=>pr (.cat [none,none]) [.int .i64 2, .str []] fun v32=>pr (.bin .eql (.flat [(some .i64,true),(none,true)])) [v27,v32] fun v33=>vif v33 (ch Γ 10273 [.str [], .str [98,46,99,111,109,47,122],v28,v29,v30] fun v34=>pr (.ext 0) [v34] fun v35=>pr (.ext 1) [v34] fun v36=>pr (.ext 2) [v34] fun v37=>pr (.ext 3) [v34] fun v38=>pr (.cat [none]) [.int .i64 4] fun v39=>pr (.cat [none,none]) [.int .i64 4, .str []] fun v40=>pr (.bin .eql (.flat [(some .i64,true),(none,true)])) [v35,v40] fun v41=>some v41) (some (.bool false))) (some (.bool false))) (some (.bool false))) (some (.bool false)))
theorem s.zq60 :S0 12 0 y.zq60:=by intro;intros;kernel_rfl
noncomputable def y.zq81 (Γ:Gam)(v0:V):Option V:=
 pr (.cat []) [] fun v1=>pr (.cat [none,none]) [.sl false 34 [], .sl false 34 []] fun v2=>pr (.len false) [v0] fun v3=>Γ 42 10 [v0,v3, .int .i64 0, .sl false 34 [], .sl false 34 []]
theorem s.zq81 :S1 42 0 y.zq81:=by intro;intros;kernel_rfl
noncomputable def y.zq81_10 (Γ:Gam)(v0 v1 v2 v3 v4:V):Option V:=
 pr (.bin .lss .no) [v2,v1] fun v5=>vif v5 (pr (.elem 1) [v0,v2] fun v6=>pr (.ld none 0) [v6] fun v7=>ch Γ 11392 [v7,v3,v4] fun v8=>pr (.ext 0) [v8] fun v9=>pr (.ext 1) [v8] fun v10=>pr (.ext 2) [v8] fun v11=>pr (.ext 3) [v8] fun v12=>pr (.bin .add .no) [v2, .int .i64 1] fun v13=>Γ 42 10 [v0,v1,v13,v11,v12]) (ch Γ 11408 [v3,v4] fun v6=>pr (.ext 0) [v6] fun v7=>pr (.ext 1) [v6] fun v8=>pr (.ext 2) [v6] fun v9=>some v7)
theorem s.zq81_10 :S5 42 10 y.zq81_10:=by intro;intros;kernel_rfl
noncomputable def y.zq28 (Γ:Gam)(v0:V):Option V:=
 ch Γ 11616 [v0] fun v1=>pr (.ext 0) [v1] fun v2=>pr (.ext 1) [v1] fun v3=>ch Γ 11600 [v2, .fn 102 [],v3] fun v4=>pr (.ext 0) [v4] fun v5=>pr (.ext 1) [v4] fun v6=>pr .snapx [v6,v5] fun v7=>ca Γ 99 [v7, .str [47]] fun v8=>pr .flr [v8] fun v9=>some v9
theorem s.zq28 :S1 48 0 y.zq28:=by intro;intros;kernel_rfl
noncomputable def y.zq29 (Γ:Gam)(v0:V):Option V:=
 pr (.bin .eql .no) [v0, .str []] fun v1=>some v1
theorem s.zq29 :S1 102 0 y.zq29:=by intro;intros;kernel_rfl
noncomputable def y.zq111 (Γ:Gam)(v0 v1:V):Option V:=
 ca Γ 150 [v0,v1] fun v2=>pr (.ext 0) [v2] fun v3=>pr (.ext 1) [v2] fun v4=>some (.tup [v3,v4])
theorem s.zq111 :S2 108 0 y.zq111:=by intro;intros;kernel_rfl
noncomputable def y.zq93 (Γ:Gam)(v0 v1:V):Option V:=
 ca Γ 145 [v0,v1] fun v2=>pr (.bin .geq .no) [v2, .int .i64 0] fun v3=>some v3
theorem s.zq93 :S2 120 0 y.zq93:=by intro;intros;kernel_rfl
noncomputable def y.zq4 (Γ:Gam)(v0:V):Option V:=
 pr (.len true) [v0] fun v1=>pr (.bin .lss .no) [v1, .int .i64 8] fun v2=>vif v2 (some (.tup [.int .i64 0, .bool false])) (Γ 132 18 [v0, .int .u64 0, .int .i64 0])
theorem s.zq4 :S1 132 0 y.zq4:=by intro;intros;kernel_rfl
noncomputable def y.zq4_18 (Γ:Gam)(v0 v1 v2:V):Option V:=
 pr (.bin .lss .no) [v2, .int .i64 8] fun v3=>vif v3 (pr (.bin .shl .no) [v1, .int .u64 8] fun v4=>pr .idx [v0,v2] fun v5=>pr (.i2i .u64) [v5] fun v6=>pr (.bin .or .no) [v4,v6] fun v7=>pr (.bin .add .no) [v2, .int .i64 1] fun v8=>Γ 132 18 [v0,v7,v8]) (pr (.i2i .i64) [v1] fun v4=>some (.tup [v4, .bool true]))
theorem s.zq4_18 :S3 132 18 y.zq4_18:=by intro;intros;kernel_rfl
noncomputable def y.zq27 (Γ:Gam)(v0:V):Option V:=
 ca Γ 139 [v0] fun v1=>pr (.un .not) [v1] fun v2=>some v2
theorem s.zq27 :S1 138 0 y.zq27:=by intro;intros;kernel_rfl
noncomputable def y.zq8 (Γ:Gam)(v0 v1:V):Option V:=
 ca Γ 199 [v0,v1] fun v2=>pr (.un .not) [v2] fun v3=>vif v3 (some (.tup [v0, .bool false])) (pr (.len true) [v0] fun v4=>pr (.len true) [v1] fun v5=>pr (.bin .sub .no) [v4,v5] fun v6=>pr (.sls false true) [v0,v6] fun v7=>some (.tup [v7, .bool true]))
theorem s.zq8 :S2 150 0 y.zq8:=by intro;intros;kernel_rfl
noncomputable def y.zq72 (Γ:Gam)(v0 v1:V):Option V:=
 ca Γ 117 [v0] fun v2=>ca Γ 117 [v1] fun v3=>Γ 162 10 [v2,v3, .int .i64 0]
theorem s.zq72 :S2 162 0 y.zq72:=by intro;intros;kernel_rfl
noncomputable def y.zq72_10 (Γ:Gam)(v0 v1 v2:V):Option V:=
 pr (.len false) [v0] fun v3=>pr (.bin .lss .no) [v2,v3] fun v4=>vif v4 (pr (.len false) [v1] fun v5=>pr (.bin .lss .no) [v2,v5] fun v6=>vif v6 (pr (.elem 1) [v0,v2] fun v7=>pr (.ld none 0) [v7] fun v8=>pr (.elem 1) [v1,v2] fun v9=>pr (.ld none 0) [v9] fun v10=>pr (.bin .lss .no) [v8,v10] fun v11=>vif v11 (some (.int .i64 (-1))) (pr (.elem 1) [v0,v2] fun v12=>pr (.ld none 0) [v12] fun v13=>pr (.elem 1) [v1,v2] fun v14=>pr (.ld none 0) [v14] fun v15=>pr (.bin .gtr .no) [v13,v15] fun v16=>vif v16 (some (.int .i64 1)) (pr (.bin .add .no) [v2, .int .i64 1] fun v17=>Γ 162 10 [v0,v1,v17]))) (pr (.len false) [v0] fun v7=>pr (.len false) [v1] fun v8=>pr (.bin .lss .no) [v7,v8] fun v9=>vif v9 (some (.int .i64 (-1))) (pr (.len false) [v0] fun v10=>pr (.len false) [v1] fun v11=>pr (.bin .gtr .no) [v10,v11] fun v12=>vif v12 (some (.int .i64 1)) (some (.int .i64 0))))) (pr (.len false) [v0] fun v5=>pr (.len false) [v1] fun v6=>pr (.bin .lss .no) [v5,v6] fun v7=>vif v7 (some (.int .i64 (-1))) (pr (.len false) [v0] fun v8=>pr (.len false) [v1] fun v9=>pr (.bin .gtr .no) [v8,v9] fun v10=>vif v10 (some (.int .i64 1)) (some (.int .i64 0))))
theorem s.zq72_10 :S3 162 10 y.zq72_10:=by intro;intros;kernel_rfl
noncomputable def y.zq65 (Γ:Gam)(v0 v1 v2:V):Option V:=
 pr .scs [v0] fun v3=>pr .scs [v2] fun v4=>Γ 168 10 [v1, .int .i64 0,v3,v4, .agg [.int .u32 0, .int .u32 0, .int .u32 0, .int .u32 0, .int .u32 0, .int .u32 0, .int .u32 0, .int .u32 0],(.agg (repl 64 (.int .u32 0)))]
theorem s.zq65 :S3 168 0 y.zq65:=by intro;intros;kernel_rfl
noncomputable def y.zq65_10 (Γ:Gam)(v0 v1 v2 v3 v4 v5:V):Option V:=
 pr (.bin .lss .no) [v1, .int .i64 16] fun v6=>vif v6 (pr (.bin .mul .no) [.int .i64 4,v1] fun v7=>pr (.elem 1) [v0,v7] fun v8=>pr (.ld none 0) [v8] fun v9=>pr (.i2i .u32) [v9] fun v10=>pr (.bin .shl .no) [v10, .int .u64 24] fun v11=>pr (.bin .mul .no) [.int .i64 4,v1] fun v12=>pr (.bin .add .no) [v12, .int .i64 1] fun v13=>pr (.elem 1) [v0,v13] fun v14=>pr (.ld none 0) [v14] fun v15=>pr (.i2i .u32) [v15] fun v16=>pr (.bin .shl .no) [v16, .int .u64 16] fun v17=>pr (.bin .add .no) [v11,v17] fun v18=>pr (.bin .mul .no) [.int .i64 4,v1] fun v19=>pr (.bin .add .no) [v19, .int .i64 2] fun v20=>pr (.elem 1) [v0,v20] fun v21=>pr (.ld none 0) [v21] fun v22=>pr (.i2i .u32) [v22] fun v23=>pr (.bin .shl .no) [v23, .int .u64 8] fun v24=>pr (.bin .add .no) [v18,v24] fun v25=>pr (.bin .mul .no) [.int .i64 4,v1] fun v26=>pr (.bin .add .no) [v26, .int .i64 3] fun v27=>pr (.elem 1) [v0,v27] fun v28=>pr (.ld none 0) [v28] fun v29=>pr (.i2i .u32) [v29] fun v30=>pr (.bin .add .no) [v25,v30] fun v31=>pr (.chk 64) [v1] fun v32=>pr (.std 1 0 1) [v5,v32,v31] fun v33=>pr (.bin .add .no) [v1, .int .i64 1] fun v34=>Γ 168 10 [v0,v34,v2,v3,v4,v33]) (Γ 168 25 [.int .i64 16,v2,v3,v4,v5])
theorem s.zq65_10 :S6 168 10 y.zq65_10:=by intro;intros;kernel_rfl
noncomputable def y.zq65_25 (Γ:Gam)(v0 v1 v2 v3 v4:V):Option V:=
 pr (.bin .lss .no) [v0, .int .i64 64] fun v5=>vif v5 (pr (.bin .sub .no) [v0, .int .i64 15] fun v6=>pr (.chk 64) [v6] fun v7=>pr (.ldd none 0 1) [v4,v7] fun v8=>pr (.bin .sub .no) [v0, .int .i64 2] fun v9=>pr (.chk 64) [v9] fun v10=>pr (.ldd none 0 1) [v4,v10] fun v11=>ca Γ 212 [v8, .int .u64 7] fun v12=>ca Γ 212 [v8, .int .u64 18] fun v13=>pr (.bin .xor .no) [v12,v13] fun v14=>pr (.bin .shr .no) [v8, .int .u64 3] fun v15=>pr (.bin .xor .no) [v14,v15] fun v16=>ca Γ 212 [v11, .int .u64 17] fun v17=>ca Γ 212 [v11, .int .u64 19] fun v18=>pr (.bin .xor .no) [v17,v18] fun v19=>pr (.bin .shr .no) [v11, .int .u64 10] fun v20=>pr (.bin .xor .no) [v19,v20] fun v21=>pr (.bin .sub .no) [v0, .int .i64 16] fun v22=>pr (.chk 64) [v22] fun v23=>pr (.ldd none 0 1) [v4,v23] fun v24=>pr (.bin .add .no) [v24,v16] fun v25=>pr (.bin .sub .no) [v0, .int .i64 7] fun v26=>pr (.chk 64) [v26] fun v27=>pr (.ldd none 0 1) [v4,v27] fun v28=>pr (.bin .add .no) [v25,v28] fun v29=>pr (.bin .add .no) [v29,v21] fun v30=>pr (.chk 64) [v0] fun v31=>pr (.std 1 0 1) [v4,v31,v30] fun v32=>pr (.bin .add .no) [v0, .int .i64 1] fun v33=>Γ 168 25 [v33,v1,v2,v3,v32]) (pr (.ld none 0) [v1] fun v6=>pr (.ld none 1) [v1] fun v7=>pr (.ld none 2) [v1] fun v8=>pr (.ld none 3) [v1] fun v9=>pr (.ld none 4) [v1] fun v10=>pr (.ld none 5) [v1] fun v11=>pr (.ld none 6) [v1] fun v12=>pr (.ld none 7) [v1] fun v13=>Γ 168 48 [v6,v7,v8,v9,v10,v11,v12,v13, .int .i64 0,v1,v2,v3,v4])
theorem s.zq65_25 :S5 168 25 y.zq65_25:=by intro;intros;kernel_rfl
noncomputable def y.zq65_48 (Γ:Gam)(v0 v1 v2 v3 v4 v5 v6 v7 v8 v9 v10 v11 v12:V):Option V:=
 pr (.bin .lss .no) [v8, .int .i64 64] fun v13=>vif v13 (ca Γ 213 [v4, .int .u64 6, .int .u64 11, .int .u64 25] fun v14=>pr (.bin .add .no) [v7,v14] fun v15=>pr (.bin .and .no) [v4,v5] fun v16=>pr (.un .xor) [v4] fun v17=>pr (.bin .and .no) [v17,v6] fun v18=>pr (.bin .xor .no) [v16,v18] fun v19=>pr (.bin .add .no) [v15,v19] fun v20=>pr (.chk 64) [v8] fun v21=>pr (.ldd none 0 1) [v10,v21] fun v22=>pr (.bin .add .no) [v20,v22] fun v23=>pr (.chk 64) [v8] fun v24=>pr (.ldd none 0 1) [v12,v24] fun v25=>pr (.bin .add .no) [v23,v25] fun v26=>ca Γ 213 [v0, .int .u64 2, .int .u64 13, .int .u64 22] fun v27=>pr (.bin .and .no) [v0,v1] fun v28=>pr (.bin .and .no) [v0,v2] fun v29=>pr (.bin .xor .no) [v28,v29] fun v30=>pr (.bin .and .no) [v1,v2] fun v31=>pr (.bin .xor .no) [v30,v31] fun v32=>pr (.bin .add .no) [v27,v32] fun v33=>pr (.bin .add .no) [v3,v26] fun v34=>pr (.bin .add .no) [v26,v33] fun v35=>pr (.bin .add .no) [v8, .int .i64 1] fun v36=>Γ 168 48 [v35,v0,v1,v2,v34,v4,v5,v6,v36,v9,v10,v11,v12]) (pr (.ld none 0) [v9] fun v14=>pr (.bin .add .no) [v14,v0] fun v15=>pr (.ld none 1) [v9] fun v16=>pr (.bin .add .no) [v16,v1] fun v17=>pr (.ld none 2) [v9] fun v18=>pr (.bin .add .no) [v18,v2] fun v19=>pr (.ld none 3) [v9] fun v20=>pr (.bin .add .no) [v20,v3] fun v21=>pr (.ld none 4) [v9] fun v22=>pr (.bin .add .no) [v22,v4] fun v23=>pr (.ld none 5) [v9] fun v24=>pr (.bin .add .no) [v24,v5] fun v25=>pr (.ld none 6) [v9] fun v26=>pr (.bin .add .no) [v26,v6] fun v27=>pr (.ld none 7) [v9] fun v28=>pr (.bin .add .no) [v28,v7] fun v29=>pr (.cat [none,none,none,none,none,none,none,none]) [v15,v17,v19,v21,v23,v25,v27,v29] fun v30=>some v30)
theorem s.zq65_48 :S13 168 48 y.zq65_48:=by intro;intros;kernel_rfl
noncomputable def y.zq0 (Γ:Gam)(v0 v1:V):Option V:=
 ca Γ 236 [v0] fun v2=>ca Γ 236 [v1] fun v3=>vif v2 (vif v3 (some (.int .i64 0)) (some (.int .i64 (-1)))) (vif v3 (some (.int .i64 1)) (pr (.bin .lss .no) [v0,v1] fun v4=>vif v4 (some (.int .i64 (-1))) (pr (.bin .gtr .no) [v0,v1] fun v5=>vif v5 (some (.int .i64 1)) (some (.int .i64 0)))))
theorem s.zq0 :S2 186 0 y.zq0:=by intro;intros;kernel_rfl
noncomputable def y.zq17 (Γ:Gam)(v0:V):Option V:=
 ca Γ 79 [v0] fun v1=>pr (.ext 0) [v1] fun v2=>pr (.ext 1) [v1] fun v3=>pr (.bin .neq .no) [v3, .int .i64 0] fun v4=>vif v4 (Γ 198 9 [v2, .bool true]) (pr (.len false) [v2] fun v5=>pr (.bin .rem .no) [v5, .int .i64 3] fun v6=>pr (.bin .neq .no) [v6, .int .i64 0] fun v7=>Γ 198 9 [v2,v7])
theorem s.zq17 :S1 198 0 y.zq17:=by intro;intros;kernel_rfl
noncomputable def y.zq17_9 (Γ:Gam)(v0 v1:V):Option V:=
 vif v1 (some (.tup [.sl false 34 [], .int .i64 4])) (Γ 198 18 [v0, .sl false 34 []])
theorem s.zq17_9 :S2 198 9 y.zq17_9:=by intro;intros;kernel_rfl
noncomputable def y.zq17_18 (Γ:Gam)(v0 v1:V):Option V:=
 pr (.len false) [v0] fun v2=>pr (.bin .gtr .no) [v2, .int .i64 0] fun v3=>vif v3 (pr (.elem 1) [v0, .int .i64 2] fun v4=>pr (.ld none 0) [v4] fun v5=>ca Γ 246 [v5] fun v6=>pr (.ext 0) [v6] fun v7=>pr (.ext 1) [v6] fun v8=>pr (.cat [some 32]) [v7] fun v9=>pr (.un .not) [v8] fun v10=>vif v10 (some (.tup [.sl false 34 [], .int .i64 4])) (pr (.elem 1) [v0, .int .i64 0] fun v11=>pr (.ld none 0) [v11] fun v12=>pr (.bin .neq .no) [v12, .str [98,108,111,98]] fun v13=>vif v13 (pr (.elem 1) [v0, .int .i64 0] fun v14=>pr (.ld none 0) [v14] fun v15=>pr (.bin .neq .no) [v15, .str [116,114,101,101]] fun v16=>vif v16 (some (.tup [.sl false 34 [], .int .i64 4])) (pr (.elem 1) [v0, .int .i64 1] fun v17=>pr (.ld none 0) [v17] fun v18=>pr (.elem 1) [v0, .int .i64 0] fun v19=>pr (.ld none 0) [v19] fun v20=>pr (.bin .eql .no) [v20, .str [116,114,101,101]] fun v21=>pr (.cat [none,none,some 32]) [v18,v21,v9] fun v22=>pr (.bsl 34) [v22] fun v23=>pr (.app 34) [v1,v23] fun v24=>pr (.slc 1 true false false) [v0, .int .i64 3] fun v25=>Γ 198 18 [v25,v24])) (pr (.elem 1) [v0, .int .i64 1] fun v14=>pr (.ld none 0) [v14] fun v15=>pr (.elem 1) [v0, .int .i64 0] fun v16=>pr (.ld none 0) [v16] fun v17=>pr (.bin .eql .no) [v17, .str [116,114,101,101]] fun v18=>pr (.cat [none,none,some 32]) [v15,v18,v9] fun v19=>pr (.bsl 34) [v19] fun v20=>pr (.app 34) [v1,v20] fun v21=>pr (.slc 1 true false false) [v0, .int .i64 3] fun v22=>Γ 198 18 [v22,v21]))) (ca Γ 238 [v1] fun v4=>pr (.un .not) [v4] fun v5=>vif v5 (some (.tup [.sl false 34 [], .int .i64 4])) (some (.tup [v1, .int .i64 0])))
theorem s.zq17_18 :S2 198 18 y.zq17_18:=by intro;intros;kernel_rfl
noncomputable def y.zq21 (Γ:Gam)(v0:V):Option V:=
 pr (.len true) [v0] fun v1=>pr (.bin .neq .no) [v1, .int .i64 32] fun v2=>vif v2 (pr (.cat []) [] fun v3=>pr (.cat [some 32]) [(.agg (repl 32 (.int .u8 0)))] fun v4=>some (.tup [v4, .bool false])) (pr .s2b [v0] fun v3=>pr (.s2a 32) [v3] fun v4=>pr (.ld (some 32) 0) [v4] fun v5=>pr (.cat [some 32]) [v5] fun v6=>some (.tup [v6, .bool true]))
theorem s.zq21 :S1 246 0 y.zq21:=by intro;intros;kernel_rfl
noncomputable def y.zq86 (Γ:Gam)(v0:V):Option V:=
 pr (.cat [none,none,none,none,none,none,none,none]) [.int .u32 1779033703, .int .u32 3144134277, .int .u32 1013904242, .int .u32 2773480762, .int .u32 1359893119, .int .u32 2600822924, .int .u32 528734635, .int .u32 1541459225] fun v1=>Γ 282 12 [v0,v0,(.agg (repl 32 (.int .u8 0))),v1,(.agg (repl 64 (.int .u8 0)))]
theorem s.zq86 :S1 282 0 y.zq86:=by intro;intros;kernel_rfl
noncomputable def y.zq86_12 (Γ:Gam)(v0 v1 v2 v3 v4:V):Option V:=
 pr (.len true) [v1] fun v5=>pr (.bin .geq .no) [v5, .int .i64 64] fun v6=>vif v6 (pr (.cpya 0 64) [v4,v1] fun v7=>pr (.cpyn 64) [v1] fun v8=>ch Γ 15136 [v3,v7] fun v9=>pr (.ext 0) [v9] fun v10=>pr (.ext 1) [v9] fun v11=>pr (.sls true false) [v1, .int .i64 64] fun v12=>Γ 282 12 [v0,v12,v2,v10,v11]) (pr (.clra (.int .u8 0) 0 64) [v4] fun v7=>pr (.cpya 0 64) [v7,v1] fun v8=>pr (.cpyn 64) [v1] fun v9=>pr (.len true) [v1] fun v10=>pr (.chk 64) [v10] fun v11=>pr (.std 1 0 1) [v8,v11, .int .u8 128] fun v12=>pr (.len true) [v1] fun v13=>pr (.bin .geq .no) [v13, .int .i64 56] fun v14=>vif v14 (ch Γ 15136 [v3,v12] fun v15=>pr (.ext 0) [v15] fun v16=>pr (.ext 1) [v15] fun v17=>pr (.clra (.int .u8 0) 0 64) [v17] fun v18=>Γ 282 39 [v0,v2,v16,v18]) (Γ 282 39 [v0,v2,v3,v12]))
theorem s.zq86_12 :S5 282 12 y.zq86_12:=by intro;intros;kernel_rfl
noncomputable def y.zq86_39 (Γ:Gam)(v0 v1 v2 v3:V):Option V:=
 Γ 282 43 [v0, .int .i64 0,v1,v2,v3]
theorem s.zq86_39 :S4 282 39 y.zq86_39:=by intro;intros;kernel_rfl
noncomputable def y.zq86_43 (Γ:Gam)(v0 v1 v2 v3 v4:V):Option V:=
 pr (.bin .lss .no) [v1, .int .i64 8] fun v5=>vif v5 (pr (.bin .add .no) [.int .i64 56,v1] fun v6=>pr (.len true) [v0] fun v7=>pr (.i2i .u64) [v7] fun v8=>pr (.bin .shl .no) [v8, .int .u64 3] fun v9=>pr (.bin .mul .no) [.int .i64 8,v1] fun v10=>pr (.bin .sub .no) [.int .i64 56,v10] fun v11=>pr (.bin .shr .no) [v9,v11] fun v12=>pr (.i2i .u8) [v12] fun v13=>pr (.chk 64) [v6] fun v14=>pr (.std 1 0 1) [v4,v14,v13] fun v15=>pr (.bin .add .no) [v1, .int .i64 1] fun v16=>Γ 282 43 [v0,v16,v2,v3,v15]) (ch Γ 15136 [v3,v4] fun v6=>pr (.ext 0) [v6] fun v7=>pr (.ext 1) [v6] fun v8=>Γ 282 64 [.int .i64 0,v2,v7,(.agg (repl 32 (.int .u8 0)))])
theorem s.zq86_43 :S5 282 43 y.zq86_43:=by intro;intros;kernel_rfl
noncomputable def y.zq86_64 (Γ:Gam)(v0 v1 v2 v3:V):Option V:=
 pr (.bin .lss .no) [v0, .int .i64 32] fun v4=>vif v4 (pr (.bin .quo .no) [v0, .int .i64 4] fun v5=>pr (.chk 8) [v5] fun v6=>pr (.ldd none 0 1) [v2,v6] fun v7=>pr (.bin .rem .no) [v0, .int .i64 4] fun v8=>pr (.bin .mul .no) [.int .i64 8,v8] fun v9=>pr (.bin .sub .no) [.int .i64 24,v9] fun v10=>pr (.bin .shr .no) [v7,v10] fun v11=>pr (.i2i .u8) [v11] fun v12=>pr (.chk 32) [v0] fun v13=>pr (.std 1 0 1) [v3,v13,v12] fun v14=>pr (.bin .add .no) [v0, .int .i64 1] fun v15=>Γ 282 64 [v15,v1,v2,v14]) (pr (.cat [some 32]) [v3] fun v5=>some v5)
theorem s.zq86_64 :S4 282 64 y.zq86_64:=by intro;intros;kernel_rfl
noncomputable def y.zq62 (Γ:Gam)(v0:V):Option V:=
 ca Γ 40 [v0, .int .i64 40, .int .i64 4096] fun v1=>vif v1 (some (.bool true)) (ca Γ 41 [v0] fun v2=>pr (.bin .neq .no) [v2, .int .i64 0] fun v3=>vif v3 (some (.bool true)) (pr (.bsl 1) [v0] fun v4=>ca Γ 42 [v4] fun v5=>some v5))
theorem s.zq62 :S1 13 0 y.zq62:=by intro;intros;kernel_rfl
noncomputable def y.zq76 (Γ:Gam)(v0:V):Option V:=
 Γ 43 12 [v0, .sl false 1 [], .int .i64 0, .int .i64 0]
theorem s.zq76 :S1 43 0 y.zq76:=by intro;intros;kernel_rfl
noncomputable def y.zq76_12 (Γ:Gam)(v0 v1 v2 v3:V):Option V:=
 pr (.len true) [v0] fun v4=>pr (.bin .leq .no) [v3,v4] fun v5=>vif v5 (pr (.len true) [v0] fun v6=>pr (.bin .eql .no) [v3,v6] fun v7=>vif v7 (pr (.sls true true) [v0,v2,v3] fun v8=>pr (.bsl 1) [v8] fun v9=>pr (.app 1) [v1,v9] fun v10=>pr (.bin .add .no) [v3, .int .i64 1] fun v11=>pr (.bin .add .no) [v3, .int .i64 1] fun v12=>Γ 43 12 [v0,v10,v11,v12]) (pr .idx [v0,v3] fun v8=>pr (.bin .eql .no) [v8, .int .u8 47] fun v9=>vif v9 (pr (.sls true true) [v0,v2,v3] fun v10=>pr (.bsl 1) [v10] fun v11=>pr (.app 1) [v1,v11] fun v12=>pr (.bin .add .no) [v3, .int .i64 1] fun v13=>pr (.bin .add .no) [v3, .int .i64 1] fun v14=>Γ 43 12 [v0,v12,v13,v14]) (pr (.bin .add .no) [v3, .int .i64 1] fun v10=>Γ 43 12 [v0,v1,v2,v10]))) (some v1)
theorem s.zq76_12 :S4 43 12 y.zq76_12:=by intro;intros;kernel_rfl
noncomputable def y.zq22 (Γ:Gam)(v0:V):Option V:=
 ca Γ 105 [v0, .int .u8 47] fun v1=>pr (.bin .add .no) [v1, .int .i64 1] fun v2=>pr (.sls true false) [v0,v2] fun v3=>some v3
theorem s.zq22 :S1 55 0 y.zq22:=by intro;intros;kernel_rfl
noncomputable def y.zq5 (Γ:Gam)(v0:V):Option V:=
 pr (.len true) [v0] fun v1=>pr (.bin .gtr .no) [v1, .int .i64 1048576] fun v2=>vif v2 (some (.tup [.sl false 1 [], .int .i64 3])) (ca Γ 132 [v0] fun v3=>pr (.ext 0) [v3] fun v4=>pr (.ext 1) [v3] fun v5=>pr (.un .not) [v5] fun v6=>vif v6 (Γ 79 17 [v0,v4, .bool true]) (pr (.bin .lss .no) [v4, .int .i64 0] fun v7=>vif v7 (Γ 79 17 [v0,v4, .bool true]) (pr (.len true) [v0] fun v8=>pr (.bin .quo .no) [v8, .int .i64 8] fun v9=>pr (.bin .gtr .no) [v4,v9] fun v10=>Γ 79 17 [v0,v4,v10])))
theorem s.zq5 :S1 79 0 y.zq5:=by intro;intros;kernel_rfl
noncomputable def y.zq5_17 (Γ:Gam)(v0 v1 v2:V):Option V:=
 vif v2 (some (.tup [.sl false 1 [], .int .i64 4])) (pr (.mnx false) [v1, .int .i64 4096] fun v3=>pr (.mks 1) [.int .i64 0,v3] fun v4=>pr (.sls true false) [v0, .int .i64 8] fun v5=>Γ 79 30 [v4,v5,v1, .int .i64 0])
theorem s.zq5_17 :S3 79 17 y.zq5_17:=by intro;intros;kernel_rfl
noncomputable def y.zq5_30 (Γ:Gam)(v0 v1 v2 v3:V):Option V:=
 pr (.bin .lss .no) [v3,v2] fun v4=>vif v4 (ca Γ 132 [v1] fun v5=>pr (.ext 0) [v5] fun v6=>pr (.ext 1) [v5] fun v7=>pr (.un .not) [v7] fun v8=>vif v8 (some (.tup [.sl false 1 [], .int .i64 4])) (pr (.bin .lss .no) [v6, .int .i64 0] fun v9=>vif v9 (some (.tup [.sl false 1 [], .int .i64 4])) (pr (.len true) [v1] fun v10=>pr (.bin .sub .no) [v10, .int .i64 8] fun v11=>pr (.bin .gtr .no) [v6,v11] fun v12=>vif v12 (some (.tup [.sl false 1 [], .int .i64 4])) (pr (.bin .add .no) [.int .i64 8,v6] fun v13=>pr (.sls true true) [v1, .int .i64 8,v13] fun v14=>pr (.bsl 1) [v14] fun v15=>pr (.app 1) [v0,v15] fun v16=>pr (.bin .add .no) [.int .i64 8,v6] fun v17=>pr (.sls true false) [v1,v17] fun v18=>pr (.bin .add .no) [v3, .int .i64 1] fun v19=>Γ 79 30 [v16,v18,v2,v19])))) (pr (.bin .neq .no) [v1, .str []] fun v5=>vif v5 (some (.tup [.sl false 1 [], .int .i64 4])) (some (.tup [v0, .int .i64 0])))
theorem s.zq5_30 :S4 79 30 y.zq5_30:=by intro;intros;kernel_rfl
end Go.Proofs.YtegmegbanfkomaaGreatDoor
namespace Go.Proofs.YtegmegbanfkomaaGreatDoor
open Go.Abs
noncomputable def y.zq52 (Γ:Gam)(v0 v1:V):Option V:=
 pr .scs [v0] fun v2=>pr .scs [v1] fun v3=>pr (.ld none 0) [v2] fun v4=>pr (.ld none 0) [v3] fun v5=>ca Γ 92 [v4,v5] fun v6=>some v6
theorem s.zq52 :S2 91 0 y.zq52:=by intro;intros;kernel_rfl
noncomputable def y.zq113 (Γ:Gam)(v0 v1:V):Option V:=
 ca Γ 151 [v0,v1] fun v2=>some v2
theorem s.zq113 :S2 109 0 y.zq113:=by intro;intros;kernel_rfl
noncomputable def y.zq67 (Γ:Gam)(v0:V):Option V:=
 pr (.cat [none,none,none,none,none,none,none,none]) [.int .u32 1779033703, .int .u32 3144134277, .int .u32 1013904242, .int .u32 2773480762, .int .u32 1359893119, .int .u32 2600822924, .int .u32 528734635, .int .u32 1541459225] fun v1=>ca Γ 166 [v0] fun v2=>ca Γ 167 [] fun v3=>pr (.cat [some 64]) [v3] fun v4=>Γ 127 14 [v2, .int .i64 0,(.agg (repl 32 (.int .u8 0))),v1,v4]
theorem s.zq67 :S1 127 0 y.zq67:=by intro;intros;kernel_rfl
noncomputable def y.zq67_14 (Γ:Gam)(v0 v1 v2 v3 v4:V):Option V:=
 pr (.len false) [v0] fun v5=>pr (.bin .lss .no) [v1,v5] fun v6=>vif v6 (pr (.bin .add .no) [v1, .int .i64 64] fun v7=>pr (.slc 1 true true false) [v0,v1,v7] fun v8=>ca Γ 168 [v3,v8,v4] fun v9=>pr (.cat [some 8]) [v9] fun v10=>pr (.bin .add .no) [v1, .int .i64 64] fun v11=>Γ 127 14 [v0,v11,v2,v10,v4]) (Γ 127 31 [v3, .int .i64 0,v2,(.agg (repl 32 (.int .u8 0)))])
theorem s.zq67_14 :S5 127 14 y.zq67_14:=by intro;intros;kernel_rfl
noncomputable def y.zq67_31 (Γ:Gam)(v0 v1 v2 v3:V):Option V:=
 pr (.bin .lss .no) [v1, .int .i64 8] fun v4=>vif v4 (pr (.idxa 8 1 none) [v0,v1] fun v5=>Γ 127 45 [v1,v5, .int .i64 0,v0,v1,v2,v3]) (pr (.cat [some 32]) [v3] fun v5=>some v5)
theorem s.zq67_31 :S4 127 31 y.zq67_31:=by intro;intros;kernel_rfl
noncomputable def y.zq67_45 (Γ:Gam)(v0 v1 v2 v3 v4 v5 v6:V):Option V:=
 pr (.bin .lss .no) [v2, .int .i64 4] fun v7=>vif v7 (pr (.bin .mul .no) [.int .i64 4,v0] fun v8=>pr (.bin .add .no) [v8,v2] fun v9=>pr (.bin .mul .no) [.int .i64 8,v2] fun v10=>pr (.bin .sub .no) [.int .i64 24,v10] fun v11=>pr (.i2i .u64) [v11] fun v12=>pr (.bin .shr .no) [v1,v12] fun v13=>pr (.i2i .u8) [v13] fun v14=>pr (.chk 32) [v9] fun v15=>pr (.std 1 0 1) [v6,v15,v14] fun v16=>pr (.bin .add .no) [v2, .int .i64 1] fun v17=>Γ 127 45 [v0,v1,v17,v3,v4,v5,v16]) (pr (.bin .add .no) [v4, .int .i64 1] fun v8=>Γ 127 31 [v3,v8,v5,v6])
theorem s.zq67_45 :S7 127 45 y.zq67_45:=by intro;intros;kernel_rfl
noncomputable def y.zq32 (Γ:Gam)(v0:V):Option V:=
 pr (.bin .neq .no) [v0, .str []] fun v1=>vif v1 (pr (.bin .neq .no) [v0, .str [46]] fun v2=>vif v2 (pr (.bin .neq .no) [v0, .str [46,46]] fun v3=>vif v3 (ca Γ 50 [v0, .str [0]] fun v4=>pr (.un .not) [v4] fun v5=>vif v5 (ca Γ 50 [v0, .str [47]] fun v6=>pr (.un .not) [v6] fun v7=>some v7) (some (.bool false))) (some (.bool false))) (some (.bool false))) (some (.bool false))
theorem s.zq32 :S1 139 0 y.zq32:=by intro;intros;kernel_rfl
noncomputable def y.zq97 (Γ:Gam)(v0 v1:V):Option V:=
 pr (.len false) [v0] fun v2=>Γ 145 8 [v0,v1,v2, .int .i64 0]
theorem s.zq97 :S2 145 0 y.zq97:=by intro;intros;kernel_rfl
noncomputable def y.zq97_8 (Γ:Gam)(v0 v1 v2 v3:V):Option V:=
 pr (.bin .lss .no) [v3,v2] fun v4=>vif v4 (pr (.elem 1) [v0,v3] fun v5=>pr (.ld none 0) [v5] fun v6=>cv Γ v1 [v6] fun v7=>vif v7 (some v3) (pr (.bin .add .no) [v3, .int .i64 1] fun v8=>Γ 145 8 [v0,v1,v2,v8])) (some (.int .i64 (-1)))
theorem s.zq97_8 :S4 145 8 y.zq97_8:=by intro;intros;kernel_rfl
noncomputable def y.zq9 (Γ:Gam)(v0 v1:V):Option V:=
 pr (.len true) [v0] fun v2=>pr (.len true) [v1] fun v3=>pr (.bin .geq .no) [v2,v3] fun v4=>vif v4 (pr (.len true) [v1] fun v5=>pr (.sls false true) [v0,v5] fun v6=>pr (.bin .eql .no) [v6,v1] fun v7=>some v7) (some (.bool false))
theorem s.zq9 :S2 151 0 y.zq9:=by intro;intros;kernel_rfl
noncomputable def y.zq16 (Γ:Gam)(v0:V):Option V:=
 pr (.bsl 1) [v0] fun v1=>ca Γ 237 [.str [98,108,111,98],v1] fun v2=>pr (.cat [some 32]) [v2] fun v3=>some v3
theorem s.zq16 :S1 187 0 y.zq16:=by intro;intros;kernel_rfl
noncomputable def y.zq10 (Γ:Gam)(v0 v1:V):Option V:=
 pr (.len true) [v0] fun v2=>pr (.len true) [v1] fun v3=>pr (.bin .geq .no) [v2,v3] fun v4=>vif v4 (pr (.len true) [v0] fun v5=>pr (.len true) [v1] fun v6=>pr (.bin .sub .no) [v5,v6] fun v7=>pr (.sls true false) [v0,v7] fun v8=>pr (.bin .eql .no) [v8,v1] fun v9=>some v9) (some (.bool false))
theorem s.zq10 :S2 199 0 y.zq10:=by intro;intros;kernel_rfl
noncomputable def y.zq14 (Γ:Gam)(v0:V):Option V:=
 pr (.bin .eql .no) [v0, .str [46]] fun v1=>vif v1 (some (.bool true)) (pr (.bin .eql .no) [v0, .str [46,46]] fun v2=>vif v2 (some (.bool true)) (ca Γ 109 [v0, .str [46,47]] fun v3=>vif v3 (some (.bool true)) (ca Γ 109 [v0, .str [46,46,47]] fun v4=>some v4)))
theorem s.zq14 :S1 253 0 y.zq14:=by intro;intros;kernel_rfl
noncomputable def y.zq88 (Γ:Gam)(v0:V):Option V:=
 pr (.elem 1) [v0, .int .i64 0] fun v1=>pr (.ld none 0) [v1] fun v2=>pr (.i2i .u32) [v2] fun v3=>pr (.bin .shl .no) [v3, .int .u64 24] fun v4=>pr (.elem 1) [v0, .int .i64 1] fun v5=>pr (.ld none 0) [v5] fun v6=>pr (.i2i .u32) [v6] fun v7=>pr (.bin .shl .no) [v7, .int .u64 16] fun v8=>pr (.bin .or .no) [v4,v8] fun v9=>pr (.elem 1) [v0, .int .i64 2] fun v10=>pr (.ld none 0) [v10] fun v11=>pr (.i2i .u32) [v11] fun v12=>pr (.bin .shl .no) [v12, .int .u64 8] fun v13=>pr (.bin .or .no) [v9,v13] fun v14=>pr (.elem 1) [v0, .int .i64 3] fun v15=>pr (.ld none 0) [v15] fun v16=>pr (.i2i .u32) [v16] fun v17=>pr (.bin .or .no) [v14,v17] fun v18=>some v18
theorem s.zq88 :S1 355 0 y.zq88:=by intro;intros;kernel_rfl
noncomputable def y.zq73 (Γ:Gam)(v0:V):Option V:=
 ca Γ 43 [v0] fun v1=>pr (.len false) [v1] fun v2=>Γ 14 10 [v0,v1,v1,v2, .int .i64 0]
theorem s.zq73 :S1 14 0 y.zq73:=by intro;intros;kernel_rfl
noncomputable def y.zq73_10 (Γ:Gam)(v0 v1 v2 v3 v4:V):Option V:=
 pr (.bin .lss .no) [v4,v3] fun v5=>vif v5 (pr (.elem 1) [v2,v4] fun v6=>pr (.ld none 0) [v6] fun v7=>ca Γ 44 [v7] fun v8=>pr (.un .not) [v8] fun v9=>vif v9 (some (.bool false)) (pr (.bin .add .no) [v4, .int .i64 1] fun v10=>Γ 14 10 [v0,v1,v2,v3,v10])) (pr (.len true) [v0] fun v6=>pr (.bin .leq .no) [v6, .int .i64 128] fun v7=>vif v7 (pr (.len false) [v1] fun v8=>pr (.bin .leq .no) [v8, .int .i64 16] fun v9=>some v9) (some (.bool false)))
theorem s.zq73_10 :S5 14 10 y.zq73_10:=by intro;intros;kernel_rfl
noncomputable def y.zq71 (Γ:Gam)(v0:V):Option V:=
 ca Γ 43 [v0] fun v1=>pr (.len false) [v1] fun v2=>pr (.bin .sub .no) [v2, .int .i64 1] fun v3=>pr (.elem 1) [v1,v3] fun v4=>pr (.ld none 0) [v4] fun v5=>some v5
theorem s.zq71 :S1 20 0 y.zq71:=by intro;intros;kernel_rfl
noncomputable def y.zq75 (Γ:Gam)(v0:V):Option V:=
 Γ 44 8 [v0, .int .i64 0]
theorem s.zq75 :S1 44 0 y.zq75:=by intro;intros;kernel_rfl
noncomputable def y.zq75_8 (Γ:Gam)(v0 v1:V):Option V:=
 pr (.len true) [v0] fun v2=>pr (.bin .lss .no) [v1,v2] fun v3=>vif v3 (pr .idx [v0,v1] fun v4=>pr (.bin .eql .no) [v4, .int .u8 0] fun v5=>vif v5 (some (.bool false)) (pr .idx [v0,v1] fun v6=>pr (.bin .eql .no) [v6, .int .u8 47] fun v7=>vif v7 (some (.bool false)) (pr (.bin .add .no) [v1, .int .i64 1] fun v8=>Γ 44 8 [v0,v8]))) (pr (.bin .neq .no) [v0, .str []] fun v4=>vif v4 (pr (.bin .neq .no) [v0, .str [46]] fun v5=>vif v5 (pr (.bin .neq .no) [v0, .str [46,46]] fun v6=>some v6) (some (.bool false))) (some (.bool false)))
theorem s.zq75_8 :S2 44 8 y.zq75_8:=by intro;intros;kernel_rfl
noncomputable def y.zq118 (Γ:Gam)(v0:V):Option V:=
 ca Γ 108 [v0, .str [46,103,111]] fun v1=>pr (.ext 0) [v1] fun v2=>pr (.ext 1) [v1] fun v3=>pr (.un .not) [v3] fun v4=>vif v4 (Γ 56 9 [v2, .bool true, .bool false, .bool false, .str [], .str []]) (ca Γ 109 [v0, .str [95]] fun v5=>vif v5 (Γ 56 9 [v2, .bool true, .bool false, .bool false, .str [], .str []]) (ca Γ 109 [v0, .str [46]] fun v6=>Γ 56 9 [v2,v6, .bool false, .bool false, .str [], .str []]))
theorem s.zq118 :S1 56 0 y.zq118:=by intro;intros;kernel_rfl
noncomputable def y.zq118_9 (Γ:Gam)(v0 v1 v2 v3 v4 v5:V):Option V:=
 vif v1 (pr (.cat []) [] fun v6=>pr (.cat [none,none,none,none]) [.bool false, .bool false, .str [], .str []] fun v7=>pr (.cat [none,none,none,none]) [.bool false, .bool false, .str [], .str []] fun v8=>some v8) (pr (.cat [none]) [.bool true] fun v6=>pr (.cat [none,none,none,none]) [.bool true, .bool false, .str [], .str []] fun v7=>ca Γ 108 [v0, .str [95,116,101,115,116]] fun v8=>pr (.ext 0) [v8] fun v9=>pr (.ext 1) [v8] fun v10=>pr .sc [v10] fun v11=>ca Γ 110 [v9, .str [95]] fun v12=>pr (.slc 1 true false false) [v12, .int .i64 1] fun v13=>pr (.len false) [v13] fun v14=>pr (.bin .sub .no) [v14, .int .i64 1] fun v15=>pr (.bin .gtr .no) [v15, .int .i64 0] fun v16=>vif v16 (pr (.bin .sub .no) [v15, .int .i64 1] fun v17=>pr (.elem 1) [v13,v17] fun v18=>pr (.ld none 0) [v18] fun v19=>ca Γ 111 [v19] fun v20=>vif v20 (pr (.elem 1) [v13,v15] fun v21=>pr (.ld none 0) [v21] fun v22=>ca Γ 112 [v22] fun v23=>Γ 56 26 [v13,v15,v23,v2,v3,v4,v5, .bool true,v11, .str [], .str []]) (Γ 56 26 [v13,v15, .bool false,v2,v3,v4,v5, .bool true,v11, .str [], .str []])) (Γ 56 26 [v13,v15, .bool false,v2,v3,v4,v5, .bool true,v11, .str [], .str []]))
theorem s.zq118_9 :S6 56 9 y.zq118_9:=by intro;intros;kernel_rfl
noncomputable def y.zq118_26 (Γ:Gam)(v0 v1 v2 v3 v4 v5 v6 v7 v8 v9 v10:V):Option V:=
 vif v2 (pr (.bin .sub .no) [v1, .int .i64 1] fun v11=>pr (.elem 1) [v0,v11] fun v12=>pr (.ld none 0) [v12] fun v13=>pr (.elem 1) [v0,v1] fun v14=>pr (.ld none 0) [v14] fun v15=>pr .sc [v13] fun v16=>pr .sc [v15] fun v17=>pr (.cat [none,none,none,none]) [v7,v8,v16,v17] fun v18=>pr (.cat [none,none,none,none]) [v7,v8,v16,v17] fun v19=>some v19) (pr (.bin .geq .no) [v1, .int .i64 0] fun v11=>vif v11 (pr (.elem 1) [v0,v1] fun v12=>pr (.ld none 0) [v12] fun v13=>ca Γ 111 [v13] fun v14=>vif v14 (pr (.elem 1) [v0,v1] fun v15=>pr (.ld none 0) [v15] fun v16=>pr .sc [v16] fun v17=>pr (.cat [none,none,none,none]) [v7,v8,v17,v10] fun v18=>pr (.cat [none,none,none,none]) [v7,v8,v17,v10] fun v19=>some v19) (pr (.bin .geq .no) [v1, .int .i64 0] fun v15=>vif v15 (pr (.elem 1) [v0,v1] fun v16=>pr (.ld none 0) [v16] fun v17=>ca Γ 112 [v17] fun v18=>vif v18 (pr (.elem 1) [v0,v1] fun v19=>pr (.ld none 0) [v19] fun v20=>pr .sc [v20] fun v21=>pr (.cat [none,none,none,none]) [v7,v8,v9,v21] fun v22=>pr (.cat [none,none,none,none]) [v7,v8,v9,v21] fun v23=>some v23) (pr (.cat [none,none,none,none]) [v7,v8,v9,v10] fun v19=>pr (.cat [none,none,none,none]) [v7,v8,v9,v10] fun v20=>some v20)) (pr (.cat [none,none,none,none]) [v7,v8,v9,v10] fun v16=>pr (.cat [none,none,none,none]) [v7,v8,v9,v10] fun v17=>some v17))) (pr (.bin .geq .no) [v1, .int .i64 0] fun v12=>vif v12 (pr (.elem 1) [v0,v1] fun v13=>pr (.ld none 0) [v13] fun v14=>ca Γ 112 [v14] fun v15=>vif v15 (pr (.elem 1) [v0,v1] fun v16=>pr (.ld none 0) [v16] fun v17=>pr .sc [v17] fun v18=>pr (.cat [none,none,none,none]) [v7,v8,v9,v18] fun v19=>pr (.cat [none,none,none,none]) [v7,v8,v9,v18] fun v20=>some v20) (pr (.cat [none,none,none,none]) [v7,v8,v9,v10] fun v16=>pr (.cat [none,none,none,none]) [v7,v8,v9,v10] fun v17=>some v17)) (pr (.cat [none,none,none,none]) [v7,v8,v9,v10] fun v13=>pr (.cat [none,none,none,none]) [v7,v8,v9,v10] fun v14=>some v14)))
theorem s.zq118_26 :S11 56 26 y.zq118_26:=by intro;intros;kernel_rfl
noncomputable def y.zq74 (Γ:Gam)(v0:V):Option V:=
 pr (.len false) [v0] fun v1=>Γ 62 10 [.str [],v0,v1, .int .i64 0]
theorem s.zq74 :S1 62 0 y.zq74:=by intro;intros;kernel_rfl
noncomputable def y.zq74_10 (Γ:Gam)(v0 v1 v2 v3:V):Option V:=
 pr (.bin .lss .no) [v3,v2] fun v4=>vif v4 (pr (.elem 1) [v1,v3] fun v5=>pr (.ld none 0) [v5] fun v6=>pr (.bin .neq .no) [v6, .str []] fun v7=>vif v7 (pr (.bin .neq .no) [v0, .str []] fun v8=>vif v8 (pr (.bin .add .no) [v0, .str [47]] fun v9=>pr (.bin .add .no) [v9,v6] fun v10=>pr (.bin .add .no) [v3, .int .i64 1] fun v11=>Γ 62 10 [v10,v1,v2,v11]) (pr (.bin .add .no) [v0,v6] fun v9=>pr (.bin .add .no) [v3, .int .i64 1] fun v10=>Γ 62 10 [v9,v1,v2,v10])) (pr (.bin .add .no) [v0,v6] fun v8=>pr (.bin .add .no) [v3, .int .i64 1] fun v9=>Γ 62 10 [v8,v1,v2,v9])) (some v0)
theorem s.zq74_10 :S4 62 10 y.zq74_10:=by intro;intros;kernel_rfl
noncomputable def y.zq3 (Γ:Gam)(v0:V):Option V:=
 Γ 74 10 [v0, .int .i64 0, .agg [.int .u8 0, .int .u8 0, .int .u8 0, .int .u8 0, .int .u8 0, .int .u8 0, .int .u8 0, .int .u8 0]]
theorem s.zq3 :S1 74 0 y.zq3:=by intro;intros;kernel_rfl
noncomputable def y.zq3_10 (Γ:Gam)(v0 v1 v2:V):Option V:=
 pr (.bin .lss .no) [v1, .int .i64 8] fun v3=>vif v3 (pr (.i2i .u64) [v0] fun v4=>pr (.bin .mul .no) [.int .i64 8,v1] fun v5=>pr (.bin .sub .no) [.int .i64 56,v5] fun v6=>pr (.bin .shr .no) [v4,v6] fun v7=>pr (.i2i .u8) [v7] fun v8=>pr (.chk 8) [v1] fun v9=>pr (.std 1 0 1) [v2,v9,v8] fun v10=>pr (.bin .add .no) [v1, .int .i64 1] fun v11=>Γ 74 10 [v0,v11,v10]) (pr (.b2so 0 8) [v2] fun v4=>some v4)
theorem s.zq3_10 :S3 74 10 y.zq3_10:=by intro;intros;kernel_rfl
noncomputable def y.zq23 (Γ:Gam)(v0 v1:V):Option V:=
 ca Γ 122 [v0] fun v2=>ca Γ 122 [v1] fun v3=>ca Γ 137 [v2,v3] fun v4=>some v4
theorem s.zq23 :S2 92 0 y.zq23:=by intro;intros;kernel_rfl
noncomputable def y.zq30 (Γ:Gam)(v0:V):Option V:=
 pr (.bin .eql .no) [v0, .str []] fun v1=>vif v1 (some (.sl false 1 [])) (ca Γ 110 [v0, .str [47]] fun v2=>some v2)
theorem s.zq30 :S1 122 0 y.zq30:=by intro;intros;kernel_rfl
noncomputable def y.zq19 (Γ:Gam)(v0:V):Option V:=
 ca Γ 238 [v0] fun v1=>pr (.un .not) [v1] fun v2=>vif v2 (some (.tup [.str [], .int .i64 1])) (pr (.len false) [v0] fun v3=>Γ 188 18 [.sl false 1 [],v0,v3, .int .i64 0])
theorem s.zq19 :S1 188 0 y.zq19:=by intro;intros;kernel_rfl
noncomputable def y.zq19_18 (Γ:Gam)(v0 v1 v2 v3:V):Option V:=
 pr (.bin .lss .no) [v3,v2] fun v4=>vif v4 (pr (.elem 34) [v1,v3] fun v5=>pr (.ld (some 34) 0) [v5] fun v6=>pr (.cat [some 34]) [v6] fun v7=>pr (.ld none 1) [v7] fun v8=>vif v8 (pr (.ld none 0) [v7] fun v9=>pr (.b2so 2 32) [v7] fun v10=>pr (.bsl 1) [.str [116,114,101,101],v9,v10] fun v11=>pr (.app 1) [v0,v11] fun v12=>pr (.bin .add .no) [v3, .int .i64 1] fun v13=>Γ 188 18 [v12,v1,v2,v13]) (pr (.ld none 0) [v7] fun v9=>pr (.b2so 2 32) [v7] fun v10=>pr (.bsl 1) [.str [98,108,111,98],v9,v10] fun v11=>pr (.app 1) [v0,v11] fun v12=>pr (.bin .add .no) [v3, .int .i64 1] fun v13=>Γ 188 18 [v12,v1,v2,v13])) (ca Γ 75 [v0] fun v5=>some (.tup [v5, .int .i64 0]))
theorem s.zq19_18 :S4 188 18 y.zq19_18:=by intro;intros;kernel_rfl
noncomputable def y.zq70 (Γ:Gam)(v0 v1:V):Option V:=
 pr (.bin .shr .no) [v0,v1] fun v2=>pr (.bin .sub .no) [.int .u64 32,v1] fun v3=>pr (.bin .shl .no) [v0,v3] fun v4=>pr (.bin .or .no) [v2,v4] fun v5=>some v5
theorem s.zq70 :S2 212 0 y.zq70:=by intro;intros;kernel_rfl
noncomputable def y.zq1 (Γ:Gam)(v0:V):Option V:=
 pr (.bin .neq .no) [v0,v0] fun v1=>some v1
theorem s.zq1 :S1 236 0 y.zq1:=by intro;intros;kernel_rfl
noncomputable def y.zq11 (Γ:Gam)(v0 v1:V):Option V:=
 pr (.i2i .u64) [v1] fun v2=>pr (.bin .and .no) [v2, .int .u64 31] fun v3=>pr (.bin .shl .no) [v0,v3] fun v4=>pr (.bin .sub .no) [.int .u64 32,v3] fun v5=>pr (.bin .shr .no) [v0,v5] fun v6=>pr (.bin .or .no) [v4,v6] fun v7=>some v7
theorem s.zq11 :S2 356 0 y.zq11:=by intro;intros;kernel_rfl
noncomputable def y.zq85 (Γ:Gam)(v0:V):Option V:=
 ca Γ 43 [v0] fun v1=>pr (.len false) [v1] fun v2=>Γ 15 8 [v1,v2, .int .i64 0]
theorem s.zq85 :S1 15 0 y.zq85:=by intro;intros;kernel_rfl
noncomputable def y.zq85_8 (Γ:Gam)(v0 v1 v2:V):Option V:=
 pr (.bin .lss .no) [v2,v1] fun v3=>vif v3 (pr (.elem 1) [v0,v2] fun v4=>pr (.ld none 0) [v4] fun v5=>ca Γ 44 [v5] fun v6=>pr (.un .not) [v6] fun v7=>vif v7 (some (.bool false)) (pr (.bin .add .no) [v2, .int .i64 1] fun v8=>Γ 15 8 [v0,v1,v8])) (some (.bool true))
theorem s.zq85_8 :S3 15 8 y.zq85_8:=by intro;intros;kernel_rfl
noncomputable def y.zq78 (Γ:Gam)(v0 v1:V):Option V:=
 pr (.bin .eql .no) [v0, .str []] fun v2=>vif v2 (pr (.bin .neq .no) [v1, .str []] fun v3=>some (.tup [v1,v3])) (pr (.len true) [v0] fun v3=>pr (.len true) [v1] fun v4=>pr (.bin .add .no) [v3, .int .i64 1] fun v5=>pr (.bin .leq .no) [v4,v5] fun v6=>vif v6 (some (.tup [.str [], .bool false])) (pr (.sls false true) [v1,v3] fun v7=>pr (.bin .neq .no) [v7,v0] fun v8=>vif v8 (some (.tup [.str [], .bool false])) (pr .idx [v1,v3] fun v9=>pr (.bin .neq .no) [v9, .int .u8 47] fun v10=>vif v10 (some (.tup [.str [], .bool false])) (pr (.bin .add .no) [v3, .int .i64 1] fun v11=>pr (.sls true false) [v1,v11] fun v12=>some (.tup [v12, .bool true])))))
theorem s.zq78 :S2 33 0 y.zq78:=by intro;intros;kernel_rfl
noncomputable def y.zq24 (Γ:Gam)(v0:V):Option V:=
 ca Γ 105 [v0, .int .u8 47] fun v1=>pr (.mnx true) [v1, .int .i64 0] fun v2=>pr (.sls false true) [v0,v2] fun v3=>some v3
theorem s.zq24 :S1 51 0 y.zq24:=by intro;intros;kernel_rfl
noncomputable def y.zq2 (Γ:Gam)(v0:V):Option V:=
 pr (.len false) [v0] fun v1=>Γ 75 10 [v0, .int .i64 8,v0,v1, .int .i64 0]
theorem s.zq2 :S1 75 0 y.zq2:=by intro;intros;kernel_rfl
noncomputable def y.zq2_10 (Γ:Gam)(v0 v1 v2 v3 v4:V):Option V:=
 pr (.bin .lss .no) [v4,v3] fun v5=>vif v5 (pr (.elem 1) [v2,v4] fun v6=>pr (.ld none 0) [v6] fun v7=>pr (.len true) [v7] fun v8=>pr (.bin .add .no) [.int .i64 8,v8] fun v9=>pr (.bin .add .no) [v1,v9] fun v10=>pr (.bin .add .no) [v4, .int .i64 1] fun v11=>Γ 75 10 [v0,v10,v2,v3,v11]) (pr (.mks 1) [.int .i64 0,v1] fun v6=>pr (.len false) [v0] fun v7=>ca Γ 74 [v7] fun v8=>pr (.app 1) [v6,v8] fun v9=>pr (.len false) [v0] fun v10=>Γ 75 31 [v9,v0,v10, .int .i64 0])
theorem s.zq2_10 :S5 75 10 y.zq2_10:=by intro;intros;kernel_rfl
noncomputable def y.zq2_31 (Γ:Gam)(v0 v1 v2 v3:V):Option V:=
 pr (.bin .lss .no) [v3,v2] fun v4=>vif v4 (pr (.elem 1) [v1,v3] fun v5=>pr (.ld none 0) [v5] fun v6=>pr (.len true) [v6] fun v7=>ca Γ 74 [v7] fun v8=>pr (.app 1) [v0,v8] fun v9=>pr (.app 1) [v9,v6] fun v10=>pr (.bin .add .no) [v3, .int .i64 1] fun v11=>Γ 75 31 [v10,v1,v2,v11]) (pr .b2s [v0] fun v5=>some v5)
theorem s.zq2_31 :S4 75 31 y.zq2_31:=by intro;intros;kernel_rfl
noncomputable def y.zq26 (Γ:Gam)(v0:V):Option V:=
 pr (.len true) [v0] fun v1=>pr (.bin .gtr .no) [v1, .int .i64 128] fun v2=>vif v2 (some (.bool false)) (ca Γ 110 [v0, .str [47]] fun v3=>pr (.len false) [v3] fun v4=>pr (.bin .leq .no) [v4, .int .i64 16] fun v5=>vif v5 (ca Γ 120 [v3, .fn 138 []] fun v6=>pr (.un .not) [v6] fun v7=>some v7) (some (.bool false)))
theorem s.zq26 :S1 93 0 y.zq26:=by intro;intros;kernel_rfl
noncomputable def y.zq116 (Γ:Gam)(v0 v1:V):Option V:=
 ca Γ 147 [v0,v1] fun v2=>some v2
theorem s.zq116 :S2 105 0 y.zq116:=by intro;intros;kernel_rfl
noncomputable def y.zq120 (Γ:Gam)(v0:V):Option V:=
 pr (.ld none 0) [(.agg [.sl false 1 [.str [97,105,120], .str [97,110,100,114,111,105,100], .str [100,97,114,119,105,110], .str [100,114,97,103,111,110,102,108,121], .str [102,114,101,101,98,115,100], .str [105,108,108,117,109,111,115], .str [105,111,115], .str [106,115], .str [108,105,110,117,120], .str [110,101,116,98,115,100], .str [111,112,101,110,98,115,100], .str [112,108,97,110,57], .str [115,111,108,97,114,105,115], .str [119,97,115,105,112,49], .str [119,105,110,100,111,119,115]]])] fun v1=>ca Γ 153 [v1,v0] fun v2=>some v2
theorem s.zq120 :S1 111 0 y.zq120:=by intro;intros;kernel_rfl
noncomputable def y.zq77 (Γ:Gam)(v0:V):Option V:=
 pr (.bin .eql .no) [v0, .str []] fun v1=>vif v1 (some (.sl false 1 [])) (ca Γ 43 [v0] fun v2=>some v2)
theorem s.zq77 :S1 117 0 y.zq77:=by intro;intros;kernel_rfl
noncomputable def y.zq6 (Γ:Gam)(v0 v1:V):Option V:=
 pr (.len true) [v0] fun v2=>pr (.bin .sub .no) [v2, .int .i64 1] fun v3=>Γ 147 8 [v0,v1,v3]
theorem s.zq6 :S2 147 0 y.zq6:=by intro;intros;kernel_rfl
noncomputable def y.zq6_8 (Γ:Gam)(v0 v1 v2:V):Option V:=
 pr (.bin .geq .no) [v2, .int .i64 0] fun v3=>vif v3 (pr .idx [v0,v2] fun v4=>pr (.bin .eql .no) [v4,v1] fun v5=>vif v5 (some v2) (pr (.bin .sub .no) [v2, .int .i64 1] fun v6=>Γ 147 8 [v0,v1,v6])) (some (.int .i64 (-1)))
theorem s.zq6_8 :S3 147 8 y.zq6_8:=by intro;intros;kernel_rfl
end Go.Proofs.YtegmegbanfkomaaGreatDoor
namespace Go.Proofs.YtegmegbanfkomaaGreatDoor
open Go.Abs
noncomputable def y.zq94 (Γ:Gam)(v0 v1:V):Option V:=
 ca Γ 202 [v0,v1] fun v2=>pr (.bin .geq .no) [v2, .int .i64 0] fun v3=>some v3
theorem s.zq94 :S2 153 0 y.zq94:=by intro;intros;kernel_rfl
noncomputable def y.zq80 (Γ:Gam)(v0:V):Option V:=
 pr (.len false) [v0] fun v1=>Γ 183 10 [.sl false 1 [],v0,v1, .int .i64 0]
theorem s.zq80 :S1 183 0 y.zq80:=by intro;intros;kernel_rfl
noncomputable def y.zq80_10 (Γ:Gam)(v0 v1 v2 v3:V):Option V:=
 pr (.bin .lss .no) [v3,v2] fun v4=>vif v4 (pr (.elem 34) [v1,v3] fun v5=>pr (.ld (some 34) 0) [v5] fun v6=>pr (.cat [some 34]) [v6] fun v7=>pr (.ld none 1) [v7] fun v8=>vif v8 (pr (.bsl 1) [.str [116,114,101,101]] fun v9=>pr (.app 1) [v0,v9] fun v10=>pr (.ld none 0) [v7] fun v11=>pr (.b2so 2 32) [v7] fun v12=>pr (.bsl 1) [v11,v12] fun v13=>pr (.app 1) [v10,v13] fun v14=>pr (.bin .add .no) [v3, .int .i64 1] fun v15=>Γ 183 10 [v14,v1,v2,v15]) (pr (.bsl 1) [.str [98,108,111,98]] fun v9=>pr (.app 1) [v0,v9] fun v10=>pr (.ld none 0) [v7] fun v11=>pr (.b2so 2 32) [v7] fun v12=>pr (.bsl 1) [v11,v12] fun v13=>pr (.app 1) [v10,v13] fun v14=>pr (.bin .add .no) [v3, .int .i64 1] fun v15=>Γ 183 10 [v14,v1,v2,v15])) (ca Γ 77 [v0] fun v5=>some v5)
theorem s.zq80_10 :S4 183 10 y.zq80_10:=by intro;intros;kernel_rfl
noncomputable def y.zq20 (Γ:Gam)(v0:V):Option V:=
 pr (.bsl 1) [v0] fun v1=>ca Γ 237 [.str [116,114,101,101],v1] fun v2=>pr (.cat [some 32]) [v2] fun v3=>some v3
theorem s.zq20 :S1 189 0 y.zq20:=by intro;intros;kernel_rfl
noncomputable def y.zq69 (Γ:Gam)(v0 v1 v2 v3:V):Option V:=
 ca Γ 212 [v0,v1] fun v4=>ca Γ 212 [v0,v2] fun v5=>pr (.bin .xor .no) [v4,v5] fun v6=>ca Γ 212 [v0,v3] fun v7=>pr (.bin .xor .no) [v6,v7] fun v8=>some v8
theorem s.zq69 :S4 213 0 y.zq69:=by intro;intros;kernel_rfl
noncomputable def y.zq87 (Γ:Gam)(v0 v1:V):Option V:=
 pr (.bsl 1) [v0] fun v2=>pr (.app 1) [v2,v1] fun v3=>ca Γ 75 [v3] fun v4=>ca Γ 282 [v4] fun v5=>pr (.cat [some 32]) [v5] fun v6=>some v6
theorem s.zq87 :S2 237 0 y.zq87:=by intro;intros;kernel_rfl
noncomputable def y.zq59 (Γ:Gam)(v0 v1 v2:V):Option V:=
 ca Γ 12 [] fun v3=>pr (.un .not) [v3] fun v4=>vif v4 (some (.bool false)) (ca Γ 13 [v0] fun v5=>vif v5 (Γ 4 15 [v0,v1,v2, .bool true]) (pr (.len true) [v2] fun v6=>pr (.bin .gtr .no) [v6, .int .i64 512] fun v7=>vif v7 (Γ 4 15 [v0,v1,v2, .bool true]) (pr (.bin .neq .no) [v1, .str []] fun v8=>vif v8 (ca Γ 14 [v1] fun v9=>pr (.un .not) [v9] fun v10=>vif v10 (Γ 4 15 [v0,v1,v2, .bool true]) (ca Γ 15 [v2] fun v11=>pr (.un .not) [v11] fun v12=>Γ 4 15 [v0,v1,v2,v12])) (ca Γ 15 [v2] fun v9=>pr (.un .not) [v9] fun v10=>Γ 4 15 [v0,v1,v2,v10]))))
theorem s.zq59 :S3 4 0 y.zq59:=by intro;intros;kernel_rfl
noncomputable def y.zq59_15 (Γ:Gam)(v0 v1 v2 v3:V):Option V:=
 vif v3 (some (.bool true)) (pr (.len false) [v0] fun v4=>Γ 4 24 [v0,v1,v2,v0,v4, .int .i64 0])
theorem s.zq59_15 :S4 4 15 y.zq59_15:=by intro;intros;kernel_rfl
noncomputable def y.zq59_24 (Γ:Gam)(v0 v1 v2 v3 v4 v5:V):Option V:=
 pr (.bin .lss .no) [v5,v4] fun v6=>vif v6 (pr (.elem 2) [v3,v5] fun v7=>pr (.ld (some 2) 0) [v7] fun v8=>pr (.cat [some 2]) [v8] fun v9=>pr (.ld none 0) [v9] fun v10=>ca Γ 20 [v10] fun v11=>pr (.bin .eql .no) [v11, .str [103,111,46,109,111,100]] fun v12=>vif v12 (some (.bool true)) (pr (.bin .add .no) [v5, .int .i64 1] fun v13=>Γ 4 24 [v0,v1,v2,v3,v4,v13])) (ch Γ 10256 [v0] fun v7=>pr (.ext 0) [v7] fun v8=>pr (.bin .eql .no) [v8, .int .i64 0] fun v9=>vif v9 (pr (.ext 1) [v7] fun v10=>pr (.un .not) [v10] fun v11=>vif v11 (some (.bool false)) (ch Γ 10272 [v1,v2] fun v12=>pr (.cat [some 2]) [v12] fun v14=>ch Γ 10288 [v1] fun v15=>pr (.ext 0) [v15] fun v16=>pr (.ext 1) [v15] fun v17=>pr (.ext 2) [v15] fun v18=>pr (.cat [some 4]) [v17] fun v19=>pr (.un .not) [v18] fun v20=>vif v20 (pr (.ld none 1) [v14] fun v21=>pr (.bin .eql .no) [v21, .str []] fun v22=>vif v22 (pr (.ld none 0) [v14] fun v23=>pr (.bin .eql .no) [v23, .int .i64 3] fun v24=>vif v24 (some (.bool true)) (pr (.ld none 0) [v14] fun v25=>pr (.bin .eql .no) [v25, .int .i64 2] fun v26=>vif v26 (some (.bool true)) (pr (.ld none 0) [v14] fun v27=>pr (.bin .eql .no) [v27, .int .i64 4] fun v28=>some v28))) (some (.bool false))) (some (.bool false)))) (pr (.ext 1) [v7] fun v10=>pr (.ext 2) [v7] fun v11=>pr (.ext 3) [v7] fun v12=>pr (.ext 4) [v7] fun v13=>pr (.un .not) [v10] fun v14=>vif v14 (some (.bool false)) (ch Γ 10273 [v1,v2,v11,v12,v13] fun v15=>pr (.ext 0) [v15] fun v16=>pr (.ext 1) [v15] fun v17=>pr (.ext 2) [v15] fun v18=>pr (.ext 3) [v15] fun v19=>pr (.cat [some 2]) [v16] fun v20=>ch Γ 10289 [v1,v17,v18,v19] fun v21=>pr (.ext 0) [v21] fun v22=>pr (.ext 1) [v21] fun v23=>pr (.ext 2) [v21] fun v24=>pr (.ext 3) [v21] fun v25=>pr (.ext 4) [v21] fun v26=>pr (.ext 5) [v21] fun v27=>pr (.cat [some 4]) [v23] fun v28=>pr (.un .not) [v24] fun v29=>vif v29 (pr (.ld none 1) [v20] fun v30=>pr (.bin .eql .no) [v30, .str []] fun v31=>vif v31 (pr (.ld none 0) [v20] fun v32=>pr (.bin .eql .no) [v32, .int .i64 3] fun v33=>vif v33 (some (.bool true)) (pr (.ld none 0) [v20] fun v34=>pr (.bin .eql .no) [v34, .int .i64 2] fun v35=>vif v35 (some (.bool true)) (pr (.ld none 0) [v20] fun v36=>pr (.bin .eql .no) [v36, .int .i64 4] fun v37=>some v37))) (some (.bool false))) (some (.bool false)))))
theorem s.zq59_24 :S6 4 24 y.zq59_24:=by intro;intros;kernel_rfl
noncomputable def y.zq82 (Γ:Gam)(v0 v1 v2:V):Option V:=
 pr (.len false) [v0] fun v3=>Γ 40 10 [v0,v1,v2, .int .i64 0,v0,v3, .int .i64 0]
theorem s.zq82 :S3 40 0 y.zq82:=by intro;intros;kernel_rfl
noncomputable def y.zq82_10 (Γ:Gam)(v0 v1 v2 v3 v4 v5 v6:V):Option V:=
 pr (.bin .lss .no) [v6,v5] fun v7=>vif v7 (pr (.elem 2) [v4,v6] fun v8=>pr (.ld (some 2) 0) [v8] fun v9=>pr (.cat [some 2]) [v9] fun v10=>pr (.ld none 0) [v10] fun v11=>pr (.len true) [v11] fun v12=>pr (.ld none 1) [v10] fun v13=>pr (.len true) [v13] fun v14=>pr (.bin .add .no) [v12,v14] fun v15=>pr (.bin .add .no) [v3,v15] fun v16=>pr (.bin .gtr .no) [v16,v2] fun v17=>vif v17 (some (.bool true)) (pr (.bin .add .no) [v6, .int .i64 1] fun v18=>Γ 40 10 [v0,v1,v2,v16,v4,v5,v18])) (pr (.len false) [v0] fun v8=>pr (.bin .gtr .no) [v8,v1] fun v9=>some v9)
theorem s.zq82_10 :S7 40 10 y.zq82_10:=by intro;intros;kernel_rfl
noncomputable def y.zq64 (Γ:Gam)(v0:V):Option V:=
 pr (.i2i .u64) [v0] fun v1=>Γ 76 12 [v1, .str [], .int .i64 0]
theorem s.zq64 :S1 76 0 y.zq64:=by intro;intros;kernel_rfl
noncomputable def y.zq64_12 (Γ:Gam)(v0 v1 v2:V):Option V:=
 pr (.bin .lss .no) [v2, .int .i64 8] fun v3=>vif v3 (pr (.bin .rem .no) [v0, .int .u64 256] fun v4=>pr (.i2i .u8) [v4] fun v5=>pr (.bsl 1) [v5] fun v6=>pr .b2s [v6] fun v7=>pr (.bin .add .no) [v7,v1] fun v8=>pr (.bin .quo .no) [v0, .int .u64 256] fun v9=>pr (.bin .add .no) [v2, .int .i64 1] fun v10=>Γ 76 12 [v9,v8,v10]) (some v1)
theorem s.zq64_12 :S3 76 12 y.zq64_12:=by intro;intros;kernel_rfl
noncomputable def y.zq31 (Γ:Gam)(v0 v1:V):Option V:=
 pr (.bin .eql .no) [v0, .str []] fun v2=>vif v2 (pr (.bin .neq .no) [v1, .str []] fun v3=>some (.tup [v1,v3])) (pr (.bin .add .no) [v0, .str [47]] fun v3=>ca Γ 65 [v1,v3] fun v4=>pr (.ext 0) [v4] fun v5=>pr (.ext 1) [v4] fun v6=>vif v6 (pr (.bin .neq .no) [v5, .str []] fun v7=>some (.tup [v5,v7])) (some (.tup [v5, .bool false])))
theorem s.zq31 :S2 94 0 y.zq31:=by intro;intros;kernel_rfl
noncomputable def y.zq119 (Γ:Gam)(v0:V):Option V:=
 pr (.ld none 0) [(.agg [.sl false 1 [.str [51,56,54], .str [97,109,100,54,52], .str [97,114,109], .str [97,114,109,54,52], .str [108,111,111,110,103,54,52], .str [109,105,112,115], .str [109,105,112,115,54,52], .str [109,105,112,115,54,52,108,101], .str [109,105,112,115,108,101], .str [112,112,99,54,52], .str [112,112,99,54,52,108,101], .str [114,105,115,99,118,54,52], .str [115,51,57,48,120], .str [119,97,115,109]]])] fun v1=>ca Γ 153 [v1,v0] fun v2=>some v2
theorem s.zq119 :S1 112 0 y.zq119:=by intro;intros;kernel_rfl
noncomputable def y.zq7 (Γ:Gam)(v0 v1:V):Option V:=
 ca Γ 151 [v0,v1] fun v2=>pr (.un .not) [v2] fun v3=>vif v3 (some (.tup [v0, .bool false])) (pr (.len true) [v1] fun v4=>pr (.sls true false) [v0,v4] fun v5=>some (.tup [v5, .bool true]))
theorem s.zq7 :S2 118 0 y.zq7:=by intro;intros;kernel_rfl
noncomputable def y.zq83 (Γ:Gam)(v0:V):Option V:=
 pr (.len false) [v0] fun v1=>Γ 124 10 [.sl false 2 [],v0,v1, .int .i64 0]
theorem s.zq83 :S1 124 0 y.zq83:=by intro;intros;kernel_rfl
noncomputable def y.zq83_10 (Γ:Gam)(v0 v1 v2 v3:V):Option V:=
 pr (.bin .lss .no) [v3,v2] fun v4=>vif v4 (pr (.elem 2) [v1,v3] fun v5=>pr (.ld (some 2) 0) [v5] fun v6=>pr (.cat [some 2]) [v6] fun v7=>pr (.len false) [v0] fun v8=>Γ 124 25 [v0,v8,v1,v2,v3,v7]) (some v0)
theorem s.zq83_10 :S4 124 10 y.zq83_10:=by intro;intros;kernel_rfl
noncomputable def y.zq83_25 (Γ:Gam)(v0 v1 v2 v3 v4 v5:V):Option V:=
 pr (.bin .gtr .no) [v1, .int .i64 0] fun v6=>vif v6 (pr (.bin .sub .no) [v1, .int .i64 1] fun v7=>pr (.elem 2) [v0,v7] fun v8=>pr (.ld none 0) [v8] fun v9=>pr (.ld none 0) [v5] fun v10=>ca Γ 162 [v9,v10] fun v11=>pr (.bin .gtr .no) [v11, .int .i64 0] fun v12=>vif v12 (pr (.bin .sub .no) [v1, .int .i64 1] fun v13=>Γ 124 25 [v0,v13,v2,v3,v4,v5]) (pr (.bsl 2) [] fun v13=>pr (.slc 2 false true false) [v0,v1] fun v14=>pr (.app 2) [v13,v14] fun v15=>pr (.bsl 2) [v5] fun v16=>pr (.app 2) [v15,v16] fun v17=>pr (.slc 2 true false false) [v0,v1] fun v18=>pr (.app 2) [v17,v18] fun v19=>pr (.bin .add .no) [v4, .int .i64 1] fun v20=>Γ 124 10 [v19,v2,v3,v20])) (pr (.bsl 2) [] fun v7=>pr (.slc 2 false true false) [v0,v1] fun v8=>pr (.app 2) [v7,v8] fun v9=>pr (.bsl 2) [v5] fun v10=>pr (.app 2) [v9,v10] fun v11=>pr (.slc 2 true false false) [v0,v1] fun v12=>pr (.app 2) [v11,v12] fun v13=>pr (.bin .add .no) [v4, .int .i64 1] fun v14=>Γ 124 10 [v13,v2,v3,v14])
theorem s.zq83_25 :S6 124 25 y.zq83_25:=by intro;intros;kernel_rfl
noncomputable def y.zq68 (Γ:Gam)(v0:V):Option V:=
 pr (.bsl 1) [] fun v1=>pr (.app 1) [v1,v0] fun v2=>pr (.bsl 1) [.int .u8 128] fun v3=>pr (.app 1) [v2,v3] fun v4=>Γ 166 8 [v0,v4]
theorem s.zq68 :S1 166 0 y.zq68:=by intro;intros;kernel_rfl
noncomputable def y.zq68_8 (Γ:Gam)(v0 v1:V):Option V:=
 pr (.len false) [v1] fun v2=>pr (.bin .rem .no) [v2, .int .i64 64] fun v3=>pr (.bin .neq .no) [v3, .int .i64 56] fun v4=>vif v4 (pr (.bsl 1) [.int .u8 0] fun v5=>pr (.app 1) [v1,v5] fun v6=>Γ 166 8 [v0,v6]) (pr (.len false) [v0] fun v5=>Γ 166 25 [v1,v5, .sl false 1 [], .int .i64 0])
theorem s.zq68_8 :S2 166 8 y.zq68_8:=by intro;intros;kernel_rfl
noncomputable def y.zq68_25 (Γ:Gam)(v0 v1 v2 v3:V):Option V:=
 pr (.bin .lss .no) [v3, .int .i64 8] fun v4=>vif v4 (pr (.bin .eql .no) [v3, .int .i64 0] fun v5=>vif v5 (pr (.bin .rem .no) [v1, .int .i64 32] fun v6=>pr (.bin .mul .no) [v6, .int .i64 8] fun v7=>pr (.i2i .u8) [v7] fun v8=>pr (.bsl 1) [v8] fun v9=>pr (.app 1) [v9,v2] fun v10=>pr (.bin .quo .no) [v1, .int .i64 32] fun v11=>pr (.bin .add .no) [v3, .int .i64 1] fun v12=>Γ 166 25 [v0,v11,v10,v12]) (pr (.bin .rem .no) [v1, .int .i64 256] fun v6=>pr (.i2i .u8) [v6] fun v7=>pr (.bsl 1) [v7] fun v8=>pr (.app 1) [v8,v2] fun v9=>pr (.bin .quo .no) [v1, .int .i64 256] fun v10=>pr (.bin .add .no) [v3, .int .i64 1] fun v11=>Γ 166 25 [v0,v10,v9,v11])) (pr (.app 1) [v0,v2] fun v5=>some v5)
theorem s.zq68_25 :S4 166 25 y.zq68_25:=by intro;intros;kernel_rfl
noncomputable def y.zq98 (Γ:Gam)(v0 v1:V):Option V:=
 pr (.len false) [v0] fun v2=>Γ 202 8 [v0,v1,v2, .int .i64 0]
theorem s.zq98 :S2 202 0 y.zq98:=by intro;intros;kernel_rfl
noncomputable def y.zq98_8 (Γ:Gam)(v0 v1 v2 v3:V):Option V:=
 pr (.bin .lss .no) [v3,v2] fun v4=>vif v4 (pr (.elem 1) [v0,v3] fun v5=>pr (.ld none 0) [v5] fun v6=>pr (.bin .eql .no) [v1,v6] fun v7=>vif v7 (some v3) (pr (.bin .add .no) [v3, .int .i64 1] fun v8=>Γ 202 8 [v0,v1,v2,v8])) (some (.int .i64 (-1)))
theorem s.zq98_8 :S4 202 8 y.zq98_8:=by intro;intros;kernel_rfl
noncomputable def y.zq18 (Γ:Gam)(v0:V):Option V:=
 pr (.len false) [v0] fun v1=>Γ 238 8 [v0,v0,v1, .int .i64 0]
theorem s.zq18 :S1 238 0 y.zq18:=by intro;intros;kernel_rfl
noncomputable def y.zq18_8 (Γ:Gam)(v0 v1 v2 v3:V):Option V:=
 pr (.bin .lss .no) [v3,v2] fun v4=>vif v4 (pr (.elem 34) [v1,v3] fun v5=>pr (.ld (some 34) 0) [v5] fun v6=>pr (.cat [some 34]) [v6] fun v7=>pr (.ld none 0) [v7] fun v8=>ca Γ 93 [v8] fun v9=>pr (.un .not) [v9] fun v10=>vif v10 (some (.bool false)) (pr (.ld none 0) [v7] fun v11=>ca Γ 51 [v11] fun v12=>pr (.bin .neq .no) [v12, .str []] fun v13=>vif v13 (some (.bool false)) (pr (.bin .gtr .no) [v3, .int .i64 0] fun v14=>vif v14 (pr (.bin .sub .no) [v3, .int .i64 1] fun v15=>pr (.elem 34) [v0,v15] fun v16=>pr (.ld none 0) [v16] fun v17=>pr (.ld none 0) [v7] fun v18=>pr (.bin .geq .no) [v17,v18] fun v19=>vif v19 (some (.bool false)) (pr (.bin .add .no) [v3, .int .i64 1] fun v20=>Γ 238 8 [v0,v1,v2,v20])) (pr (.bin .add .no) [v3, .int .i64 1] fun v15=>Γ 238 8 [v0,v1,v2,v15])))) (pr (.len false) [v0] fun v5=>pr (.bin .leq .no) [v5, .int .i64 512] fun v6=>some v6)
theorem s.zq18_8 :S4 238 8 y.zq18_8:=by intro;intros;kernel_rfl
noncomputable def y.zq84 (Γ:Gam)(v0:V):Option V:=
 pr (.len false) [v0] fun v1=>pr (.bin .gtr .no) [v1, .int .i64 512] fun v2=>vif v2 (some (.int .i64 3)) (pr (.len false) [v0] fun v3=>Γ 41 16 [v0,v0,v3, .int .i64 0])
theorem s.zq84 :S1 41 0 y.zq84:=by intro;intros;kernel_rfl
noncomputable def y.zq84_16 (Γ:Gam)(v0 v1 v2 v3:V):Option V:=
 pr (.bin .lss .no) [v3,v2] fun v4=>vif v4 (pr (.elem 2) [v1,v3] fun v5=>pr (.ld (some 2) 0) [v5] fun v6=>pr (.cat [some 2]) [v6] fun v7=>pr (.ld none 0) [v7] fun v8=>ca Γ 14 [v8] fun v9=>pr (.un .not) [v9] fun v10=>vif v10 (some (.int .i64 1)) (pr (.len false) [v0] fun v11=>Γ 41 38 [v0,v3,v1,v2,v3,v0,v11, .int .i64 0,v7])) (pr (.len false) [v0] fun v5=>Γ 41 64 [v0,v5, .int .i64 0])
theorem s.zq84_16 :S4 41 16 y.zq84_16:=by intro;intros;kernel_rfl
noncomputable def y.zq84_38 (Γ:Gam)(v0 v1 v2 v3 v4 v5 v6 v7 v8:V):Option V:=
 pr (.bin .lss .no) [v7,v6] fun v9=>vif v9 (pr (.elem 2) [v5,v7] fun v10=>pr (.ld (some 2) 0) [v10] fun v11=>pr (.cat [some 2]) [v11] fun v12=>pr (.ld none 0) [v12] fun v13=>pr (.ld none 0) [v8] fun v14=>ca Γ 33 [v13,v14] fun v15=>pr (.ext 0) [v15] fun v16=>pr (.ext 1) [v15] fun v17=>pr (.bin .neq .no) [v7,v1] fun v18=>vif v18 (vif v17 (some (.int .i64 1)) (pr (.ld none 0) [v12] fun v19=>pr (.ld none 0) [v8] fun v20=>pr (.bin .eql .no) [v19,v20] fun v21=>vif v21 (some (.int .i64 1)) (pr (.bin .add .no) [v7, .int .i64 1] fun v22=>Γ 41 38 [v0,v1,v2,v3,v4,v5,v6,v22,v8]))) (pr (.bin .add .no) [v7, .int .i64 1] fun v19=>Γ 41 38 [v0,v1,v2,v3,v4,v5,v6,v19,v8])) (pr (.bin .add .no) [v4, .int .i64 1] fun v10=>Γ 41 16 [v0,v2,v3,v10])
theorem s.zq84_38 :S9 41 38 y.zq84_38:=by intro;intros;kernel_rfl
noncomputable def y.zq84_64 (Γ:Gam)(v0 v1 v2:V):Option V:=
 pr (.bin .lss .no) [v2,v1] fun v3=>vif v3 (pr (.elem 2) [v0,v2] fun v4=>pr (.ld (some 2) 0) [v4] fun v5=>pr (.cat [some 2]) [v5] fun v6=>pr (.ld none 1) [v6] fun v7=>pr (.len true) [v7] fun v8=>pr (.bin .gtr .no) [v8, .int .i64 32768] fun v9=>vif v9 (some (.int .i64 3)) (pr (.bin .add .no) [v2, .int .i64 1] fun v10=>Γ 41 64 [v0,v1,v10])) (some (.int .i64 0))
theorem s.zq84_64 :S3 41 64 y.zq84_64:=by intro;intros;kernel_rfl
noncomputable def y.zq110 (Γ:Gam)(v0 v1:V):Option V:=
 ca Γ 118 [v0,v1] fun v2=>pr (.ext 0) [v2] fun v3=>pr (.ext 1) [v2] fun v4=>some (.tup [v3,v4])
theorem s.zq110 :S2 65 0 y.zq110:=by intro;intros;kernel_rfl
noncomputable def y.zq79 (Γ:Gam)(v0 v1:V):Option V:=
 pr (.bsl 1) [v0,v1] fun v2=>ca Γ 77 [v2] fun v3=>pr .s2b [v3] fun v4=>ca Γ 127 [v4] fun v5=>pr (.cat [some 32]) [v5] fun v6=>some v6
theorem s.zq79 :S2 71 0 y.zq79:=by intro;intros;kernel_rfl
noncomputable def y.zq63 (Γ:Gam)(v0:V):Option V:=
 pr (.len false) [v0] fun v1=>ca Γ 76 [v1] fun v2=>pr (.len false) [v0] fun v3=>Γ 77 10 [v2,v0,v3, .int .i64 0]
theorem s.zq63 :S1 77 0 y.zq63:=by intro;intros;kernel_rfl
noncomputable def y.zq63_10 (Γ:Gam)(v0 v1 v2 v3:V):Option V:=
 pr (.bin .lss .no) [v3,v2] fun v4=>vif v4 (pr (.elem 1) [v1,v3] fun v5=>pr (.ld none 0) [v5] fun v6=>pr (.len true) [v6] fun v7=>ca Γ 76 [v7] fun v8=>pr (.bin .add .no) [v0,v8] fun v9=>pr (.bin .add .no) [v9,v6] fun v10=>pr (.bin .add .no) [v3, .int .i64 1] fun v11=>Γ 77 10 [v10,v1,v2,v11]) (some v0)
theorem s.zq63_10 :S4 77 10 y.zq63_10:=by intro;intros;kernel_rfl
noncomputable def y.zq91 (Γ:Gam)(v0 v1:V):Option V:=
 pr (.len false) [v0] fun v2=>Γ 137 8 [v0,v1,v0,v2, .int .i64 0]
theorem s.zq91 :S2 137 0 y.zq91:=by intro;intros;kernel_rfl
noncomputable def y.zq91_8 (Γ:Gam)(v0 v1 v2 v3 v4:V):Option V:=
 pr (.bin .lss .no) [v4,v3] fun v5=>vif v5 (pr (.elem 1) [v2,v4] fun v6=>pr (.ld none 0) [v6] fun v7=>pr (.len false) [v1] fun v8=>pr (.bin .geq .no) [v4,v8] fun v9=>vif v9 (some (.int .i64 1)) (pr (.elem 1) [v1,v4] fun v10=>pr (.ld none 0) [v10] fun v11=>ca Γ 186 [v7,v11] fun v12=>pr (.bin .neq .no) [v12, .int .i64 0] fun v13=>vif v13 (some v12) (pr (.bin .add .no) [v4, .int .i64 1] fun v14=>Γ 137 8 [v0,v1,v2,v3,v14]))) (pr (.len false) [v0] fun v6=>pr (.len false) [v1] fun v7=>pr (.bin .lss .no) [v6,v7] fun v8=>vif v8 (some (.int .i64 (-1))) (some (.int .i64 0)))
theorem s.zq91_8 :S5 137 8 y.zq91_8:=by intro;intros;kernel_rfl
noncomputable def y.zq66 (Γ:Gam):Option V:=
 pr (.cat [none,none,none,none,none,none,none,none,none,none,none,none,none,none,none,none,none,none,none,none,none,none,none,none,none,none,none,none,none,none,none,none,none,none,none,none,none,none,none,none,none,none,none,none,none,none,none,none,none,none,none,none,none,none,none,none,none,none,none,none,none,none,none,none]) ((.int .u32 1116352408)::(.int .u32 1899447441)::(.int .u32 3049323471)::(.int .u32 3921009573)::(.int .u32 961987163)::(.int .u32 1508970993)::(.int .u32 2453635748)::(.int .u32 2870763221)::(.int .u32 3624381080)::(.int .u32 310598401)::(.int .u32 607225278)::(.int .u32 1426881987)::(.int .u32 1925078388)::(.int .u32 2162078206)::(.int .u32 2614888103)::(.int .u32 3248222580)::(.int .u32 3835390401)::(.int .u32 4022224774)::(.int .u32 264347078)::(.int .u32 604807628)::(.int .u32 770255983)::(.int .u32 1249150122)::(.int .u32 1555081692)::(.int .u32 1996064986)::(.int .u32 2554220882)::(.int .u32 2821834349)::(.int .u32 2952996808)::(.int .u32 3210313671)::(.int .u32 3336571891)::(.int .u32 3584528711)::(.int .u32 113926993)::(.int .u32 338241895)::(.int .u32 666307205)::(.int .u32 773529912)::(.int .u32 1294757372)::(.int .u32 1396182291)::(.int .u32 1695183700)::(.int .u32 1986661051)::(.int .u32 2177026350)::(.int .u32 2456956037)::(.int .u32 2730485921)::(.int .u32 2820302411)::(.int .u32 3259730800)::(.int .u32 3345764771)::(.int .u32 3516065817)::(.int .u32 3600352804)::(.int .u32 4094571909)::(.int .u32 275423344)::(.int .u32 430227734)::(.int .u32 506948616)::(.int .u32 659060556)::(.int .u32 883997877)::(.int .u32 958139571)::(.int .u32 1322822218)::(.int .u32 1537002063)::(.int .u32 1747873779)::(.int .u32 1955562222)::(.int .u32 2024104815)::(.int .u32 2227730452)::(.int .u32 2361852424)::(.int .u32 2428436474)::(.int .u32 2756734187)::(.int .u32 3204031479)::(.int .u32 3329325298):: []) fun v0=>some v0
theorem s.zq66 :S0 167 0 y.zq66:=by intro;intros;kernel_rfl
noncomputable def y.zq13 (Γ:Gam)(v0:V):Option V:=
 pr (.bin .neq .no) [v0, .str []] fun v1=>vif v1 (ca Γ 250 [v0, .str [34,39,96,92,40,41,44,61,62]] fun v2=>pr (.un .not) [v2] fun v3=>some v3) (some (.bool false))
theorem s.zq13 :S1 203 0 y.zq13:=by intro;intros;kernel_rfl
end Go.Proofs.YtegmegbanfkomaaGreatDoor
namespace Go.Proofs.YtegmegbanfkomaaGreatDoor
open Go.Abs
noncomputable def y.zq61_h0 (Γ:Gam)(v0:V):Option V:=
 ch Γ 10720 [] fun v1=>pr (.ext 0) [v1] fun v2=>pr (.ext 1) [v1] fun v3=>pr (.ext 2) [v1] fun v4=>ch Γ 10736 [v0,v2,v3,v4] fun v5=>pr (.ext 0) [v5] fun v6=>pr (.ext 1) [v5] fun v7=>pr (.ext 2) [v5] fun v8=>pr (.ext 3) [v5] fun v9=>pr (.ext 4) [v5] fun v10=>pr (.cat [some 32]) [v6] fun v11=>pr (.bin .neq .no) [v7, .int .i64 0] fun v12=>vif v12 (some (.tup [.int .i64 0, .bool false])) (ch Γ 10352 [v11,v8,v9,v10] fun v13=>pr (.ext 0) [v13] fun v14=>pr (.bin .eql .no) [v14, .int .i64 0] fun v15=>vif v15 (pr (.ext 1) [v13] fun v16=>pr (.ext 2) [v13] fun v17=>pr (.ext 3) [v13] fun v18=>pr (.ext 4) [v13] fun v19=>pr (.bin .eql .no) [v16, .int .i64 0] fun v20=>some (.tup [.int .i64 0,v20])) (pr (.ext 1) [v13] fun v16=>pr (.ext 2) [v13] fun v17=>pr (.ext 3) [v13] fun v18=>pr (.ext 4) [v13] fun v19=>pr (.ext 5) [v13] fun v20=>pr (.ext 6) [v13] fun v21=>pr (.ext 7) [v13] fun v22=>pr (.bin .eql .no) [v16, .int .i64 0] fun v23=>some (.tup [.int .i64 1,v23,v20,v21,v22])))
theorem s.zq61_h0 :S1 10256 1 y.zq61_h0:=by intro;intros;kernel_rfl
noncomputable def y.zq45_h0 (Γ:Gam)(v0 v1 v2:V):Option V:=
 ca Γ 41 [v0] fun v3=>pr (.bin .neq .no) [v3, .int .i64 0] fun v4=>vif v4 (pr (.cat []) [] fun v5=>pr (.cat [some 32]) [(.agg (repl 32 (.int .u8 0)))] fun v6=>some (.tup [v6,v3,v1,v2])) (ca Γ 124 [v0] fun v5=>ch Γ 12160 [.str [],v5,v1,v2] fun v6=>pr (.ext 0) [v6] fun v7=>pr (.ext 1) [v6] fun v8=>pr (.ext 2) [v6] fun v9=>pr (.cat [some 32]) [v7] fun v10=>some (.tup [v10, .int .i64 0,v8,v9]))
theorem s.zq45_h0 :S3 11392 1 y.zq45_h0:=by intro;intros;kernel_rfl
noncomputable def y.zq47_h0 (Γ:Gam)(v0 v1:V):Option V:=
 pr (.len false) [v1] fun v2=>Γ 11408 8 [v1,v2, .int .i64 0,v0,v1]
theorem s.zq47_h0 :S2 11408 1 y.zq47_h0:=by intro;intros;kernel_rfl
noncomputable def y.zq47_h0_8 (Γ:Gam)(v0 v1 v2 v3 v4:V):Option V:=
 pr (.bin .lss .no) [v2,v1] fun v5=>vif v5 (pr (.elem 34) [v0,v2] fun v6=>pr (.ld (some 34) 0) [v6] fun v7=>pr (.cat [some 34]) [v7] fun v8=>pr (.slc 34 false true false) [v4,v2] fun v9=>pr (.len false) [v9] fun v10=>Γ 11408 22 [v0,v1,v2,v9,v10, .int .i64 0,v3,v4,v8]) (some (.tup [.bool false,v3,v4]))
theorem s.zq47_h0_8 :S5 11408 8 y.zq47_h0_8:=by intro;intros;kernel_rfl
noncomputable def y.zq47_h0_22 (Γ:Gam)(v0 v1 v2 v3 v4 v5 v6 v7 v8:V):Option V:=
 pr (.bin .lss .no) [v5,v4] fun v9=>vif v9 (pr (.elem 34) [v3,v5] fun v10=>pr (.ld (some 34) 0) [v10] fun v11=>pr (.cat [some 34]) [v11] fun v12=>pr (.ld none 0) [v8] fun v13=>pr (.ld none 0) [v12] fun v14=>pr (.bin .eql .no) [v13,v14] fun v15=>vif v15 (pr (.ld (some 32) 1) [v8] fun v16=>pr (.ld (some 32) 1) [v12] fun v17=>pr (.bin .eql (.flat [(some .u8,true),(some .u8,true),(some .u8,true),(some .u8,true),(some .u8,true),(some .u8,true),(some .u8,true),(some .u8,true),(some .u8,true),(some .u8,true),(some .u8,true),(some .u8,true),(some .u8,true),(some .u8,true),(some .u8,true),(some .u8,true),(some .u8,true),(some .u8,true),(some .u8,true),(some .u8,true),(some .u8,true),(some .u8,true),(some .u8,true),(some .u8,true),(some .u8,true),(some .u8,true),(some .u8,true),(some .u8,true),(some .u8,true),(some .u8,true),(some .u8,true),(some .u8,true)])) [v16,v17] fun v18=>vif v18 (pr (.ld none 33) [v8] fun v19=>pr (.ld none 33) [v12] fun v20=>pr (.bin .neq .no) [v19,v20] fun v21=>vif v21 (some (.tup [.bool true,v6,v7])) (pr (.bin .add .no) [v5, .int .i64 1] fun v22=>Γ 11408 22 [v0,v1,v2,v3,v4,v22,v6,v7,v8])) (pr (.bin .add .no) [v5, .int .i64 1] fun v19=>Γ 11408 22 [v0,v1,v2,v3,v4,v19,v6,v7,v8])) (pr (.bin .add .no) [v5, .int .i64 1] fun v16=>Γ 11408 22 [v0,v1,v2,v3,v4,v16,v6,v7,v8])) (pr (.bin .add .no) [v2, .int .i64 1] fun v10=>Γ 11408 8 [v0,v1,v10,v6,v7])
theorem s.zq47_h0_22 :S9 11408 22 y.zq47_h0_22:=by intro;intros;kernel_rfl
noncomputable def y.zq90_h0 (Γ:Gam)(v0:V):Option V:=
 vamb v0 (some (.tup [.int .i64 0, .agg []])) (pr (.rapp 1) [.agg [], .int .i64 0,v0] fun v3=>pr (.rlen 1) [.int .i64 0,v0] fun v4=>some (.tup [v4,v3]))
theorem s.zq90_h0 :S1 11616 1 y.zq90_h0:=by intro;intros;kernel_rfl
noncomputable def y.zq49_h0 (Γ:Gam)(v0 v1:V):Option V:=
 Γ 15136 8 [.int .i64 0,v0,v1,(.agg (repl 64 (.int .u32 0)))]
theorem s.zq49_h0 :S2 15136 1 y.zq49_h0:=by intro;intros;kernel_rfl
noncomputable def y.zq49_h0_8 (Γ:Gam)(v0 v1 v2 v3:V):Option V:=
 pr (.bin .lss .no) [v0, .int .i64 16] fun v4=>vif v4 (pr (.bin .mul .no) [.int .i64 4,v0] fun v5=>pr (.chk 64) [v5] fun v6=>pr (.snapd 0 64) [v2,v6] fun v7=>ca Γ 355 [v7] fun v8=>pr .flr [v8] fun v9=>pr (.chk 64) [v0] fun v10=>pr (.std 1 0 1) [v3,v10,v9] fun v11=>pr (.bin .add .no) [v0, .int .i64 1] fun v12=>Γ 15136 8 [v12,v1,v2,v11]) (Γ 15136 25 [.int .i64 16,v1,v2,v3])
theorem s.zq49_h0_8 :S4 15136 8 y.zq49_h0_8:=by intro;intros;kernel_rfl
noncomputable def y.zq49_h0_25 (Γ:Gam)(v0 v1 v2 v3:V):Option V:=
 pr (.bin .lss .no) [v0, .int .i64 64] fun v4=>vif v4 (pr (.bin .sub .no) [v0, .int .i64 15] fun v5=>pr (.chk 64) [v5] fun v6=>pr (.ldd none 0 1) [v3,v6] fun v7=>pr (.bin .sub .no) [v0, .int .i64 2] fun v8=>pr (.chk 64) [v8] fun v9=>pr (.ldd none 0 1) [v3,v9] fun v10=>ca Γ 356 [v7,(.int .i64 (-7))] fun v11=>ca Γ 356 [v7,(.int .i64 (-18))] fun v12=>pr (.bin .xor .no) [v11,v12] fun v13=>pr (.bin .shr .no) [v7, .int .u64 3] fun v14=>pr (.bin .xor .no) [v13,v14] fun v15=>ca Γ 356 [v10,(.int .i64 (-17))] fun v16=>ca Γ 356 [v10,(.int .i64 (-19))] fun v17=>pr (.bin .xor .no) [v16,v17] fun v18=>pr (.bin .shr .no) [v10, .int .u64 10] fun v19=>pr (.bin .xor .no) [v18,v19] fun v20=>pr (.bin .sub .no) [v0, .int .i64 16] fun v21=>pr (.chk 64) [v21] fun v22=>pr (.ldd none 0 1) [v3,v22] fun v23=>pr (.bin .add .no) [v23,v15] fun v24=>pr (.bin .sub .no) [v0, .int .i64 7] fun v25=>pr (.chk 64) [v25] fun v26=>pr (.ldd none 0 1) [v3,v26] fun v27=>pr (.bin .add .no) [v24,v27] fun v28=>pr (.bin .add .no) [v28,v20] fun v29=>pr (.chk 64) [v0] fun v30=>pr (.std 1 0 1) [v3,v30,v29] fun v31=>pr (.bin .add .no) [v0, .int .i64 1] fun v32=>Γ 15136 25 [v32,v1,v2,v31]) (pr (.ld none 0) [v1] fun v5=>pr (.ld none 1) [v1] fun v6=>pr (.ld none 2) [v1] fun v7=>pr (.ld none 3) [v1] fun v8=>pr (.ld none 4) [v1] fun v9=>pr (.ld none 5) [v1] fun v10=>pr (.ld none 6) [v1] fun v11=>pr (.ld none 7) [v1] fun v12=>Γ 15136 48 [v5,v6,v7,v8,v9,v10,v11,v12,v3, .int .i64 0,v1,v2])
theorem s.zq49_h0_25 :S4 15136 25 y.zq49_h0_25:=by intro;intros;kernel_rfl
noncomputable def y.zq49_h0_48 (Γ:Gam)(v0 v1 v2 v3 v4 v5 v6 v7 v8 v9 v10 v11:V):Option V:=
 pr (.bin .lss .no) [v9, .int .i64 64] fun v12=>vif v12 (pr (.idxa 64 1 none) [v8,v9] fun v13=>ca Γ 356 [v4,(.int .i64 (-6))] fun v14=>ca Γ 356 [v4,(.int .i64 (-11))] fun v15=>pr (.bin .xor .no) [v14,v15] fun v16=>ca Γ 356 [v4,(.int .i64 (-25))] fun v17=>pr (.bin .xor .no) [v16,v17] fun v18=>pr (.bin .add .no) [v7,v18] fun v19=>pr (.bin .and .no) [v4,v5] fun v20=>pr (.un .xor) [v4] fun v21=>pr (.bin .and .no) [v21,v6] fun v22=>pr (.bin .xor .no) [v20,v22] fun v23=>pr (.bin .add .no) [v19,v23] fun v24=>pr (.chk 64) [v9] fun v25=>pr (.ldd none 0 1) [(.agg (.int .u32 1116352408:: .int .u32 1899447441:: .int .u32 3049323471:: .int .u32 3921009573:: .int .u32 961987163:: .int .u32 1508970993:: .int .u32 2453635748:: .int .u32 2870763221:: .int .u32 3624381080:: .int .u32 310598401:: .int .u32 607225278:: .int .u32 1426881987:: .int .u32 1925078388:: .int .u32 2162078206:: .int .u32 2614888103:: .int .u32 3248222580:: .int .u32 3835390401:: .int .u32 4022224774:: .int .u32 264347078:: .int .u32 604807628:: .int .u32 770255983:: .int .u32 1249150122:: .int .u32 1555081692:: .int .u32 1996064986:: .int .u32 2554220882:: .int .u32 2821834349:: .int .u32 2952996808:: .int .u32 3210313671:: .int .u32 3336571891:: .int .u32 3584528711:: .int .u32 113926993:: .int .u32 338241895:: .int .u32 666307205:: .int .u32 773529912:: .int .u32 1294757372:: .int .u32 1396182291:: .int .u32 1695183700:: .int .u32 1986661051:: .int .u32 2177026350:: .int .u32 2456956037:: .int .u32 2730485921:: .int .u32 2820302411:: .int .u32 3259730800:: .int .u32 3345764771:: .int .u32 3516065817:: .int .u32 3600352804:: .int .u32 4094571909:: .int .u32 275423344:: .int .u32 430227734:: .int .u32 506948616:: .int .u32 659060556:: .int .u32 883997877:: .int .u32 958139571:: .int .u32 1322822218:: .int .u32 1537002063:: .int .u32 1747873779:: .int .u32 1955562222:: .int .u32 2024104815:: .int .u32 2227730452:: .int .u32 2361852424:: .int .u32 2428436474:: .int .u32 2756734187:: .int .u32 3204031479:: .int .u32 3329325298:: [])),v25] fun v26=>pr (.bin .add .no) [v24,v26] fun v27=>pr (.bin .add .no) [v27,v13] fun v28=>ca Γ 356 [v0,(.int .i64 (-2))] fun v29=>ca Γ 356 [v0,(.int .i64 (-13))] fun v30=>pr (.bin .xor .no) [v29,v30] fun v31=>ca Γ 356 [v0,(.int .i64 (-22))] fun v32=>pr (.bin .xor .no) [v31,v32] fun v33=>pr (.bin .and .no) [v0,v1] fun v34=>pr (.bin .and .no) [v0,v2] fun v35=>pr (.bin .xor .no) [v34,v35] fun v36=>pr (.bin .and .no) [v1,v2] fun v37=>pr (.bin .xor .no) [v36,v37] fun v38=>pr (.bin .add .no) [v33,v38] fun v39=>pr (.bin .add .no) [v28,v39] fun v40=>pr (.bin .add .no) [v3,v28] fun v41=>pr (.bin .add .no) [v9, .int .i64 1] fun v42=>Γ 15136 48 [v40,v0,v1,v2,v41,v4,v5,v6,v8,v42,v10,v11]) (pr (.cat [none,none,none,none,none,none,none,none]) [v0,v1,v2,v3,v4,v5,v6,v7] fun v13=>Γ 15136 72 [v13, .int .i64 0,v10,v11])
theorem s.zq49_h0_48 :S12 15136 48 y.zq49_h0_48:=by intro;intros;kernel_rfl
noncomputable def y.zq49_h0_72 (Γ:Gam)(v0 v1 v2 v3:V):Option V:=
 pr (.bin .lss .no) [v1, .int .i64 8] fun v4=>vif v4 (pr (.idxa 8 1 none) [v0,v1] fun v5=>pr (.chk 8) [v1] fun v6=>pr (.ldd none 0 1) [v2,v6] fun v7=>pr (.bin .add .no) [v7,v5] fun v8=>pr (.chk 8) [v1] fun v9=>pr (.std 1 0 1) [v2,v9,v8] fun v10=>pr (.bin .add .no) [v1, .int .i64 1] fun v11=>Γ 15136 72 [v0,v11,v10,v3]) (some (.tup [v2,v3]))
theorem s.zq49_h0_72 :S4 15136 72 y.zq49_h0_72:=by intro;intros;kernel_rfl
noncomputable def y.zq121_h0 (Γ:Gam):Option V:=
 some (.tup [(.iface 0 (.tup [])),(.iface 0 (.tup [])),(.iface 0 (.tup []))])
theorem s.zq121_h0 :S0 10720 1 y.zq121_h0:=by intro;intros;kernel_rfl
noncomputable def y.zq48_h0 (Γ:Gam)(v0 v1 v2 v3:V):Option V:=
 pr (.len false) [v1] fun v4=>Γ 12160 12 [v0,v1, .sl false 34 [], .str [],v1,v4, .int .i64 0,v2,v3,(.agg (repl 32 (.int .u8 0)))]
theorem s.zq48_h0 :S4 12160 1 y.zq48_h0:=by intro;intros;kernel_rfl
noncomputable def y.zq48_h0_12 (Γ:Gam)(v0 v1 v2 v3 v4 v5 v6 v7 v8 v9:V):Option V:=
 pr (.bin .lss .no) [v6,v5] fun v10=>vif v10 (pr (.elem 2) [v4,v6] fun v11=>pr (.ld (some 2) 0) [v11] fun v12=>pr (.cat [some 2]) [v12] fun v13=>pr (.ld none 0) [v13] fun v14=>ca Γ 33 [v0,v14] fun v15=>pr (.ext 0) [v15] fun v16=>pr (.ext 1) [v15] fun v17=>pr (.un .not) [v17] fun v18=>vif v18 (pr (.bin .add .no) [v6, .int .i64 1] fun v19=>Γ 12160 12 [v0,v1,v2,v3,v4,v5,v19,v7,v8,v9]) (ca Γ 43 [v16] fun v19=>pr (.elem 1) [v19, .int .i64 0] fun v20=>pr (.ld none 0) [v20] fun v21=>pr (.bin .eql .no) [v21,v16] fun v22=>vif v22 (pr (.ld none 1) [v13] fun v23=>ch Γ 12912 [.str [98,108,111,98],v23,v7,v8] fun v24=>pr (.ext 0) [v24] fun v25=>pr (.ext 1) [v24] fun v26=>pr (.ext 2) [v24] fun v27=>pr (.cat [none,some 32]) [v21,v25] fun v28=>pr (.cat [none,none,some 32]) [v21, .bool false,v25] fun v29=>pr (.bsl 34) [v29] fun v30=>pr (.app 34) [v2,v30] fun v31=>pr (.bin .add .no) [v6, .int .i64 1] fun v32=>Γ 12160 12 [v0,v1,v31,v21,v4,v5,v32,v26,v27,v9]) (pr (.bin .neq .no) [v21,v3] fun v23=>vif v23 (Γ 12160 40 [v0,v1,v2,v21,v4,v5,v6, .bool true,v7,v8,v9]) (pr (.len false) [v2] fun v24=>pr (.bin .eql .no) [v24, .int .i64 0] fun v25=>vif v25 (Γ 12160 40 [v0,v1,v2,v21,v4,v5,v6, .bool true,v7,v8,v9]) (pr (.len false) [v2] fun v26=>pr (.bin .sub .no) [v26, .int .i64 1] fun v27=>pr (.elem 34) [v2,v27] fun v28=>pr (.ld none 1) [v28] fun v29=>pr (.un .not) [v29] fun v30=>vif v30 (Γ 12160 40 [v0,v1,v2,v21,v4,v5,v6, .bool true,v7,v8,v9]) (pr (.len false) [v2] fun v31=>pr (.bin .sub .no) [v31, .int .i64 1] fun v32=>pr (.elem 34) [v2,v32] fun v33=>pr (.ld none 0) [v33] fun v34=>pr (.bin .neq .no) [v34,v21] fun v35=>Γ 12160 40 [v0,v1,v2,v21,v4,v5,v6,v35,v7,v8,v9])))))) (ca Γ 183 [v2] fun v11=>ch Γ 12912 [.str [116,114,101,101],v11,v7,v8] fun v12=>pr (.ext 0) [v12] fun v13=>pr (.ext 1) [v12] fun v14=>pr (.ext 2) [v12] fun v15=>pr (.cat [some 32]) [v13] fun v16=>some (.tup [v16,v14,v15]))
theorem s.zq48_h0_12 :S10 12160 12 y.zq48_h0_12:=by intro;intros;kernel_rfl
noncomputable def y.zq48_h0_40 (Γ:Gam)(v0 v1 v2 v3 v4 v5 v6 v7 v8 v9 v10:V):Option V:=
 vif v7 (pr (.bsl 1) [v0,v3] fun v11=>ca Γ 62 [v11] fun v12=>ch Γ 12160 [v12,v1,v8,v9] fun v13=>pr (.ext 0) [v13] fun v14=>pr (.ext 1) [v13] fun v15=>pr (.ext 2) [v13] fun v16=>pr (.cat [none,none,some 32]) [v3, .bool true,v14] fun v17=>pr (.bsl 34) [v17] fun v18=>pr (.app 34) [v2,v18] fun v19=>pr (.bin .add .no) [v6, .int .i64 1] fun v20=>Γ 12160 12 [v0,v1,v19,v3,v4,v5,v20,v15,v16,v10]) (pr (.bin .add .no) [v6, .int .i64 1] fun v11=>Γ 12160 12 [v0,v1,v2,v3,v4,v5,v11,v8,v9,v10])
theorem s.zq48_h0_40 :S11 12160 40 y.zq48_h0_40:=by intro;intros;kernel_rfl
noncomputable def y.zq46_h0 (Γ:Gam)(v0 v1 v2 v3:V):Option V:=
 ca Γ 71 [v0,v1] fun v4=>pr (.cat [some 32]) [v4] fun v5=>pr (.cat [none,some 32,none]) [v0,v5,v1] fun v6=>pr (.bsl 34) [v6] fun v7=>pr (.app 34) [v3,v7] fun v8=>pr (.len false) [v2] fun v9=>Γ 12912 12 [v0,v1,v2,v9, .int .i64 0,v2,v8,(.agg (repl 32 (.int .u8 0))),v5]
theorem s.zq46_h0 :S4 12912 1 y.zq46_h0:=by intro;intros;kernel_rfl
noncomputable def y.zq46_h0_12 (Γ:Gam)(v0 v1 v2 v3 v4 v5 v6 v7 v8:V):Option V:=
 pr (.bin .lss .no) [v4,v3] fun v9=>vif v9 (pr (.elem 34) [v2,v4] fun v10=>pr (.ld (some 34) 0) [v10] fun v11=>pr (.cat [some 34]) [v11] fun v12=>pr (.ld none 0) [v12] fun v13=>pr (.bin .eql .no) [v13,v0] fun v14=>vif v14 (pr (.ld (some 32) 1) [v12] fun v15=>pr (.bin .eql (.flat [(some .u8,true),(some .u8,true),(some .u8,true),(some .u8,true),(some .u8,true),(some .u8,true),(some .u8,true),(some .u8,true),(some .u8,true),(some .u8,true),(some .u8,true),(some .u8,true),(some .u8,true),(some .u8,true),(some .u8,true),(some .u8,true),(some .u8,true),(some .u8,true),(some .u8,true),(some .u8,true),(some .u8,true),(some .u8,true),(some .u8,true),(some .u8,true),(some .u8,true),(some .u8,true),(some .u8,true),(some .u8,true),(some .u8,true),(some .u8,true),(some .u8,true),(some .u8,true)])) [v15,v8] fun v16=>vif v16 (pr (.cat [some 32]) [v8] fun v17=>some (.tup [v17,v5,v6])) (pr (.bin .add .no) [v4, .int .i64 1] fun v17=>Γ 12912 12 [v0,v1,v2,v3,v17,v5,v6,v7,v8])) (pr (.bin .add .no) [v4, .int .i64 1] fun v15=>Γ 12912 12 [v0,v1,v2,v3,v15,v5,v6,v7,v8])) (pr (.cat [none,some 32,none]) [v0,v8,v1] fun v10=>pr (.bsl 34) [v10] fun v11=>pr (.app 34) [v5,v11] fun v12=>pr (.cat [some 32]) [v8] fun v13=>some (.tup [v13,v12,v6]))
theorem s.zq46_h0_12 :S9 12912 12 y.zq46_h0_12:=by intro;intros;kernel_rfl
end Go.Proofs.YtegmegbanfkomaaGreatDoor
namespace Go.Proofs.YtegmegbanfkomaaGreatDoor
open Go.Abs
noncomputable def y.zq95_h0 (Γ:Gam)(v0 v1 v2:V):Option V:=
 ch Γ 12320 [v0,v1,v2] fun v4=>pr (.ext 0) [v4] fun v5=>pr (.ext 1) [v4] fun v6=>pr (.bin .eql .no) [v5,(.int .i64 (-1))] fun v7=>vif v7 (some (.tup [v0,v6])) (pr (.bin .add .no) [v5, .int .i64 1] fun v8=>Γ 11600 18 [v0,v1,v5,v8,v6])
theorem s.zq95_h0 :S3 11600 1 y.zq95_h0:=by intro;intros;kernel_rfl
noncomputable def y.zq95_h0_18 (Γ:Gam)(v0 v1 v2 v3 v4:V):Option V:=
 pr (.bin .lss .no) [v3,v0] fun v5=>vif v5 (pr .chkd [v0,v3] fun v6=>pr (.ldd none 0 1) [v4,v6] fun v7=>cv Γ v1 [v7] fun v8=>pr (.un .not) [v8] fun v9=>vif v9 (pr .chkd [v0,v2] fun v10=>pr (.std 1 0 1) [v4,v10,v7] fun v11=>pr (.bin .add .no) [v2, .int .i64 1] fun v12=>pr (.bin .add .no) [v3, .int .i64 1] fun v13=>Γ 11600 18 [v0,v1,v12,v13,v11]) (pr (.bin .add .no) [v3, .int .i64 1] fun v10=>Γ 11600 18 [v0,v1,v2,v10,v4])) (pr .chkd [v0,v2] fun v6=>pr (.clrx (.str [])) [v4,v0,v6] fun v7=>pr .chkl [v0,v2] fun v8=>some (.tup [v8,v7]))
theorem s.zq95_h0_18 :S5 11600 18 y.zq95_h0_18:=by intro;intros;kernel_rfl
noncomputable def y.zq51_h0 (Γ:Gam)(v0 v1 v2 v3:V):Option V:=
 pr (.len false) [v0] fun v4=>pr (.bin .gtr .no) [v4, .int .i64 512] fun v5=>vif v5 (pr (.cat []) [] fun v6=>pr (.cat [some 32]) [(.agg (repl 32 (.int .u8 0)))] fun v7=>some (.tup [v7, .int .i64 3,v1,v2,v3])) (ch Γ 11424 [v0] fun v6=>pr (.ext 0) [v6] fun v7=>pr (.ext 1) [v6] fun v8=>ch Γ 11440 [v7, .fn 91 [],v8] fun v9=>Γ 10736 28 [v7,v7,v7, .int .i64 0,v1,v2,v3,(.agg (repl 32 (.int .u8 0))),v9])
theorem s.zq51_h0 :S4 10736 1 y.zq51_h0:=by intro;intros;kernel_rfl
noncomputable def y.zq51_h0_28 (Γ:Gam)(v0 v1 v2 v3 v4 v5 v6 v7 v8:V):Option V:=
 pr (.bin .lss .no) [v3,v2] fun v9=>vif v9 (pr .chkd [v1,v3] fun v10=>pr (.ldd (some 2) 0 2) [v8,v10] fun v11=>pr (.cat [some 2]) [v11] fun v12=>pr (.ld none 0) [v12] fun v13=>ca Γ 93 [v13] fun v14=>pr (.un .not) [v14] fun v15=>vif v15 (pr (.cat []) [] fun v16=>pr (.cat [some 32]) [(.agg (repl 32 (.int .u8 0)))] fun v17=>some (.tup [v17, .int .i64 1,v4,v5,v6])) (pr (.bin .gtr .no) [v3, .int .i64 0] fun v16=>vif v16 (pr (.bin .sub .no) [v3, .int .i64 1] fun v17=>pr .chkd [v0,v17] fun v18=>pr (.ldd none 0 2) [v8,v18] fun v19=>pr (.ld none 0) [v12] fun v20=>ca Γ 94 [v19,v20] fun v21=>pr (.ext 0) [v21] fun v22=>pr (.ext 1) [v21] fun v23=>vif v23 (pr (.cat []) [] fun v24=>pr (.cat [some 32]) [(.agg (repl 32 (.int .u8 0)))] fun v25=>some (.tup [v25, .int .i64 1,v4,v5,v6])) (pr (.bin .sub .no) [v3, .int .i64 1] fun v24=>pr .chkd [v0,v24] fun v25=>pr (.ldd none 0 2) [v8,v25] fun v26=>pr (.ld none 0) [v12] fun v27=>pr (.bin .eql .no) [v26,v27] fun v28=>vif v28 (pr (.cat []) [] fun v29=>pr (.cat [some 32]) [(.agg (repl 32 (.int .u8 0)))] fun v30=>some (.tup [v30, .int .i64 1,v4,v5,v6])) (pr (.bin .add .no) [v3, .int .i64 1] fun v29=>Γ 10736 28 [v0,v1,v2,v29,v4,v5,v6,v7,v8]))) (pr (.bin .add .no) [v3, .int .i64 1] fun v17=>Γ 10736 28 [v0,v1,v2,v17,v4,v5,v6,v7,v8]))) (Γ 10736 65 [v0,v0,v0, .int .i64 0,v4,v5,v6,v7,v8])
theorem s.zq51_h0_28 :S9 10736 28 y.zq51_h0_28:=by intro;intros;kernel_rfl
noncomputable def y.zq51_h0_65 (Γ:Gam)(v0 v1 v2 v3 v4 v5 v6 v7 v8:V):Option V:=
 pr (.bin .lss .no) [v3,v2] fun v9=>vif v9 (pr .chkd [v1,v3] fun v10=>pr (.ldd (some 2) 0 2) [v8,v10] fun v11=>pr (.cat [some 2]) [v11] fun v12=>pr (.ld none 1) [v12] fun v13=>pr (.len true) [v13] fun v14=>pr (.bin .gtr .no) [v14, .int .i64 32768] fun v15=>vif v15 (pr (.cat []) [] fun v16=>pr (.cat [some 32]) [(.agg (repl 32 (.int .u8 0)))] fun v17=>some (.tup [v17, .int .i64 3,v4,v5,v6])) (pr (.bin .add .no) [v3, .int .i64 1] fun v16=>Γ 10736 65 [v0,v1,v2,v16,v4,v5,v6,v7,v8])) (ch Γ 11520 [.str [], .int .i64 0,v0,v8,v4,v5,v6] fun v10=>pr (.ext 0) [v10] fun v11=>pr (.ext 1) [v10] fun v12=>pr (.ext 2) [v10] fun v13=>pr (.ext 3) [v10] fun v14=>pr (.ext 4) [v10] fun v15=>pr (.ext 5) [v10] fun v16=>pr (.cat [some 32]) [v11] fun v17=>some (.tup [v17,v12,v14,v15,v16]))
theorem s.zq51_h0_65 :S9 10736 65 y.zq51_h0_65:=by intro;intros;kernel_rfl
noncomputable def y.zq97_h0 (Γ:Gam)(v0 v1 v2:V):Option V:=
 Γ 12320 8 [v0,v1,v0, .int .i64 0,v2]
theorem s.zq97_h0 :S3 12320 1 y.zq97_h0:=by intro;intros;kernel_rfl
noncomputable def y.zq97_h0_8 (Γ:Gam)(v0 v1 v2 v3 v4:V):Option V:=
 pr (.bin .lss .no) [v3,v2] fun v5=>vif v5 (pr .chkd [v0,v3] fun v6=>pr (.ldd none 0 1) [v4,v6] fun v7=>cv Γ v1 [v7] fun v8=>vif v8 (some (.tup [v3,v4])) (pr (.bin .add .no) [v3, .int .i64 1] fun v9=>Γ 12320 8 [v0,v1,v2,v9,v4])) (some (.tup [(.int .i64 (-1)),v4]))
theorem s.zq97_h0_8 :S5 12320 8 y.zq97_h0_8:=by intro;intros;kernel_rfl
noncomputable def y.zq89_h0 (Γ:Gam)(v0:V):Option V:=
 vamb v0 (some (.tup [.int .i64 0, .agg []])) (pr (.rapp 2) [.agg [], .int .i64 0,v0] fun v3=>pr (.rlen 2) [.int .i64 0,v0] fun v4=>some (.tup [v4,v3]))
theorem s.zq89_h0 :S1 11424 1 y.zq89_h0:=by intro;intros;kernel_rfl
noncomputable def y.zq33_h0 (Γ:Gam)(v0 v1 v2 v3:V):Option V:=
 pr .scs [v0] fun v4=>pr (.ld (some 32) 0) [v4] fun v5=>ch Γ 10864 [v5,v1,v2,v3] fun v6=>pr (.ext 0) [v6] fun v7=>pr (.ext 1) [v6] fun v8=>pr (.ext 2) [v6] fun v9=>pr (.ext 3) [v6] fun v10=>pr (.ext 4) [v6] fun v11=>pr (.bin .neq .no) [v8, .int .i64 0] fun v12=>vif v12 (some (.tup [.int .i64 0,v8,v9,v10,v11])) (pr (.len false) [v7] fun v15=>Γ 10352 20 [v7,v15, .int .i64 0,v9,v10,v11,v7,(.iface 0 (.tup [])),(.iface 0 (.tup []))])
theorem s.zq33_h0 :S4 10352 1 y.zq33_h0:=by intro;intros;kernel_rfl
noncomputable def y.zq33_h0_20 (Γ:Gam)(v0 v1 v2 v3 v4 v5 v6 v7 v8:V):Option V:=
 pr (.bin .lss .no) [v2,v1] fun v9=>vif v9 (pr (.elem 33) [v0,v2] fun v10=>pr (.ld (some 33) 0) [v10] fun v11=>pr (.cat [some 33]) [v11] fun v12=>pr (.ld none 0) [v12] fun v13=>ca Γ 51 [v13] fun v14=>pr (.ld none 0) [v12] fun v15=>ca Γ 55 [v15] fun v16=>ca Γ 56 [v16] fun v17=>pr (.fld none 0) [v17] fun v18=>vif v18 (pr (.mup (false,[(none,true)])) [v8,v14, .bool true] fun v19=>pr (.bin .eql .no) [v16, .str [103,111,46,109,111,100]] fun v20=>vif v20 (pr (.ld (some 32) 1) [v12] fun v21=>ch Γ 10912 [v21,v3,v4,v5] fun v22=>pr (.ext 0) [v22] fun v23=>pr (.ext 1) [v22] fun v24=>pr (.ext 2) [v22] fun v25=>pr (.ext 3) [v22] fun v26=>pr (.ext 4) [v22] fun v27=>pr (.bin .neq .no) [v24, .int .i64 0] fun v28=>vif v28 (some (.tup [.int .i64 0,v24,v25,v26,v27])) (ca Γ 58 [v23] fun v29=>pr (.mup (false,[(none,true)])) [v7,v14,v29] fun v30=>pr (.bin .add .no) [v2, .int .i64 1] fun v31=>Γ 10352 20 [v0,v1,v31,v25,v26,v27,v6,v30,v19])) (pr (.bin .add .no) [v2, .int .i64 1] fun v21=>Γ 10352 20 [v0,v1,v21,v3,v4,v5,v6,v7,v19])) (pr (.bin .eql .no) [v16, .str [103,111,46,109,111,100]] fun v19=>vif v19 (pr (.ld (some 32) 1) [v12] fun v20=>ch Γ 10912 [v20,v3,v4,v5] fun v21=>pr (.ext 0) [v21] fun v22=>pr (.ext 1) [v21] fun v23=>pr (.ext 2) [v21] fun v24=>pr (.ext 3) [v21] fun v25=>pr (.ext 4) [v21] fun v26=>pr (.bin .neq .no) [v23, .int .i64 0] fun v27=>vif v27 (some (.tup [.int .i64 0,v23,v24,v25,v26])) (ca Γ 58 [v22] fun v28=>pr (.mup (false,[(none,true)])) [v7,v14,v28] fun v29=>pr (.bin .add .no) [v2, .int .i64 1] fun v30=>Γ 10352 20 [v0,v1,v30,v24,v25,v26,v6,v29,v8])) (pr (.bin .add .no) [v2, .int .i64 1] fun v20=>Γ 10352 20 [v0,v1,v20,v3,v4,v5,v6,v7,v8]))) (some (.tup [.int .i64 1, .int .i64 0,v3,v4,v5,v6,v7,v8]))
theorem s.zq33_h0_20 :S9 10352 20 y.zq33_h0_20:=by intro;intros;kernel_rfl
noncomputable def y.zq99_h0 (Γ:Gam)(v0 v1 v2:V):Option V:=
 ch Γ 12177 [v0,v0,v1,v2] fun v3=>some v3
theorem s.zq99_h0 :S3 11440 1 y.zq99_h0:=by intro;intros;kernel_rfl
noncomputable def y.zq53_h0 (Γ:Gam)(v0 v1 v2 v3:V):Option V:=
 pr .scs [v0] fun v4=>pr (.ld (some 32) 0) [v4] fun v5=>ch Γ 11712 [.str [],v5, .int .i64 1, .sl false 33 [], .int .i64 4096,v1,v2,v3] fun v6=>pr (.ext 0) [v6] fun v7=>pr (.ext 1) [v6] fun v8=>pr (.ext 2) [v6] fun v9=>pr (.ext 3) [v6] fun v10=>pr (.ext 4) [v6] fun v11=>pr (.ext 5) [v6] fun v12=>pr (.bin .neq .no) [v7, .int .i64 0] fun v13=>vif v13 (some (.tup [.sl false 33 [],v7,v10,v11,v12])) (some (.tup [v8, .int .i64 0,v10,v11,v12]))
theorem s.zq53_h0 :S4 10864 1 y.zq53_h0:=by intro;intros;kernel_rfl
noncomputable def y.zq102_h1 (Γ:Gam)(v0 v1 v2 v3:V):Option V:=
 Γ 12177 8 [v0,v1,v2, .int .i64 20, .int .i64 0, .int .i64 20,v3]
theorem s.zq102_h1 :S4 12177 1 y.zq102_h1:=by intro;intros;kernel_rfl
noncomputable def y.zq102_h1_8 (Γ:Gam)(v0 v1 v2 v3 v4 v5 v6:V):Option V:=
 pr (.bin .leq .no) [v5,v1] fun v7=>vif v7 (ch Γ 12945 [v0,v4,v5,v2,v6] fun v8=>pr (.bin .add .no) [v5,v3] fun v10=>Γ 12177 8 [v0,v1,v2,v3,v5,v10,v8]) (ch Γ 12945 [v0,v4,v1,v2,v6] fun v8=>Γ 12177 24 [v0,v1,v2,v3,v8])
theorem s.zq102_h1_8 :S7 12177 8 y.zq102_h1_8:=by intro;intros;kernel_rfl
noncomputable def y.zq102_h1_24 (Γ:Gam)(v0 v1 v2 v3 v4:V):Option V:=
 pr (.bin .lss .no) [v3,v1] fun v5=>vif v5 (pr (.bin .mul .no) [.int .i64 2,v3] fun v6=>Γ 12177 36 [v0,v1,v2,v3, .int .i64 0,v6,v4]) (some v4)
theorem s.zq102_h1_24 :S5 12177 24 y.zq102_h1_24:=by intro;intros;kernel_rfl
noncomputable def y.zq102_h1_36 (Γ:Gam)(v0 v1 v2 v3 v4 v5 v6:V):Option V:=
 pr (.bin .leq .no) [v5,v1] fun v7=>vif v7 (pr (.bin .add .no) [v4,v3] fun v8=>ch Γ 12961 [v0,v4,v8,v5,v2,v6] fun v9=>pr (.bin .mul .no) [.int .i64 2,v3] fun v11=>pr (.bin .add .no) [v5,v11] fun v12=>Γ 12177 36 [v0,v1,v2,v3,v5,v12,v9]) (pr (.bin .add .no) [v4,v3] fun v8=>pr (.bin .lss .no) [v8,v1] fun v9=>vif v9 (ch Γ 12961 [v0,v4,v8,v1,v2,v6] fun v10=>pr (.bin .mul .no) [v3, .int .i64 2] fun v12=>Γ 12177 24 [v0,v1,v2,v12,v10]) (pr (.bin .mul .no) [v3, .int .i64 2] fun v10=>Γ 12177 24 [v0,v1,v2,v10,v6]))
theorem s.zq102_h1_36 :S7 12177 36 y.zq102_h1_36:=by intro;intros;kernel_rfl
noncomputable def y.zq58_h0 (Γ:Gam)(v0 v1 v2 v3 v4 v5 v6 v7:V):Option V:=
 pr .scs [v1] fun v8=>pr (.bin .gtr .no) [v2, .int .i64 16] fun v9=>vif v9 (some (.tup [.int .i64 8,v3,v4,v5,v6,v7])) (pr (.ld (some 32) 0) [v8] fun v10=>ch Γ 12384 [v10,v5,v6,v7] fun v11=>pr (.ext 0) [v11] fun v12=>pr (.ext 1) [v11] fun v13=>pr (.ext 2) [v11] fun v14=>pr (.ext 3) [v11] fun v15=>pr (.ext 4) [v11] fun v16=>pr (.bin .neq .no) [v13, .int .i64 0] fun v17=>vif v17 (some (.tup [v13,v3,v4,v14,v15,v16])) (pr (.len false) [v12] fun v18=>Γ 11712 26 [v0,v2,v12,v18, .int .i64 0,v3,v4,v14,v15,v16]))
theorem s.zq58_h0 :S8 11712 1 y.zq58_h0:=by intro;intros;kernel_rfl
noncomputable def y.zq58_h0_26 (Γ:Gam)(v0 v1 v2 v3 v4 v5 v6 v7 v8 v9:V):Option V:=
 pr (.bin .lss .no) [v4,v3] fun v10=>vif v10 (pr (.elem 34) [v2,v4] fun v11=>pr (.ld (some 34) 0) [v11] fun v12=>pr (.cat [some 34]) [v12] fun v13=>pr (.bin .eql .no) [v6, .int .i64 0] fun v14=>vif v14 (some (.tup [.int .i64 3,v5,v6,v7,v8,v9])) (pr (.bin .sub .no) [v6, .int .i64 1] fun v15=>pr (.ld none 0) [v13] fun v16=>pr (.bsl 1) [v0,v16] fun v17=>ca Γ 48 [v17] fun v18=>pr (.ld none 1) [v13] fun v19=>pr (.un .not) [v19] fun v20=>vif v20 (pr (.ld (some 32) 2) [v13] fun v21=>pr (.cat [none,some 32]) [v18,v21] fun v22=>pr (.bsl 33) [v22] fun v23=>pr (.app 33) [v5,v23] fun v24=>pr (.bin .add .no) [v4, .int .i64 1] fun v25=>Γ 11712 26 [v0,v1,v2,v3,v25,v24,v15,v7,v8,v9]) (pr (.ld (some 32) 2) [v13] fun v21=>pr (.bin .add .no) [v1, .int .i64 1] fun v22=>ch Γ 11712 [v18,v21,v22,v5,v15,v7,v8,v9] fun v23=>pr (.ext 0) [v23] fun v24=>pr (.ext 1) [v23] fun v25=>pr (.ext 2) [v23] fun v26=>pr (.ext 3) [v23] fun v27=>pr (.ext 4) [v23] fun v28=>pr (.ext 5) [v23] fun v29=>pr (.bin .neq .no) [v24, .int .i64 0] fun v30=>vif v30 (some (.tup [v24,v25,v26,v27,v28,v29])) (pr (.bin .add .no) [v4, .int .i64 1] fun v31=>Γ 11712 26 [v0,v1,v2,v3,v31,v25,v26,v27,v28,v29])))) (some (.tup [.int .i64 0,v5,v6,v7,v8,v9]))
theorem s.zq58_h0_26 :S10 11712 26 y.zq58_h0_26:=by intro;intros;kernel_rfl
noncomputable def y.zq100_h1 (Γ:Gam)(v0 v1 v2 v3 v4:V):Option V:=
 pr (.bin .add .no) [v1, .int .i64 1] fun v5=>Γ 12945 5 [v0,v1,v2,v3,v5,v4]
theorem s.zq100_h1 :S5 12945 1 y.zq100_h1:=by intro;intros;kernel_rfl
noncomputable def y.zq100_h1_5 (Γ:Gam)(v0 v1 v2 v3 v4 v5:V):Option V:=
 pr (.bin .lss .no) [v4,v2] fun v6=>vif v6 (Γ 12945 17 [v0,v1,v2,v3,v4,v4,v5]) (some v5)
theorem s.zq100_h1_5 :S6 12945 5 y.zq100_h1_5:=by intro;intros;kernel_rfl
noncomputable def y.zq100_h1_17 (Γ:Gam)(v0 v1 v2 v3 v4 v5 v6:V):Option V:=
 pr (.bin .gtr .no) [v5,v1] fun v7=>vif v7 (pr .chkd [v0,v5] fun v8=>pr (.ldd (some 2) 0 2) [v6,v8] fun v9=>pr (.bin .sub .no) [v5, .int .i64 1] fun v10=>pr .chkd [v0,v10] fun v11=>pr (.ldd (some 2) 0 2) [v6,v11] fun v12=>cv Γ v3 [v9,v12] fun v13=>pr (.bin .lss .no) [v13, .int .i64 0] fun v14=>vif v14 (pr (.bin .sub .no) [v5, .int .i64 1] fun v15=>pr (.bin .sub .no) [v5, .int .i64 1] fun v16=>pr .chkd [v0,v16] fun v17=>pr (.ldd (some 2) 0 2) [v6,v17] fun v18=>pr .chkd [v0,v5] fun v19=>pr (.ldd (some 2) 0 2) [v6,v19] fun v20=>pr .chkd [v0,v5] fun v21=>pr (.std 2 0 2) [v6,v21,v18] fun v22=>pr .chkd [v0,v15] fun v23=>pr (.std 2 0 2) [v22,v23,v20] fun v24=>pr (.bin .sub .no) [v5, .int .i64 1] fun v25=>Γ 12945 17 [v0,v1,v2,v3,v4,v25,v24]) (pr (.bin .add .no) [v4, .int .i64 1] fun v15=>Γ 12945 5 [v0,v1,v2,v3,v15,v6])) (pr (.bin .add .no) [v4, .int .i64 1] fun v8=>Γ 12945 5 [v0,v1,v2,v3,v8,v6])
theorem s.zq100_h1_17 :S7 12945 17 y.zq100_h1_17:=by intro;intros;kernel_rfl
noncomputable def y.zq56_h0 (Γ:Gam)(v0 v1 v2 v3:V):Option V:=
 pr .scs [v0] fun v4=>pr (.ld (some 32) 0) [v4] fun v5=>pr (.mlk (true,(repl 32 ((some .u8,true)))) (.str []) true) [v2,v5] fun v6=>pr (.ext 0) [v6] fun v7=>pr (.ext 1) [v6] fun v8=>pr (.un .not) [v8] fun v9=>vif v9 (some (.tup [.sl false 34 [], .int .i64 5,v1,v2,v3])) (ca Γ 198 [v7] fun v10=>pr (.ext 0) [v10] fun v11=>pr (.ext 1) [v10] fun v12=>some (.tup [v11,v12,v1,v2,v3]))
theorem s.zq56_h0 :S4 12384 1 y.zq56_h0:=by intro;intros;kernel_rfl
noncomputable def y.zq104_h1 (Γ:Gam)(v0 v1 v2 v3 v4 v5:V):Option V:=
 pr (.bin .sub .no) [v2,v1] fun v6=>pr (.bin .eql .no) [v6, .int .i64 1] fun v7=>vif v7 (Γ 12961 12 [v0,v1,v4,v2,v3,v5]) (pr (.bin .sub .no) [v3,v2] fun v8=>pr (.bin .eql .no) [v8, .int .i64 1] fun v9=>vif v9 (Γ 12961 54 [v0,v2,v4,v1,v2,v5]) (pr (.bin .add .no) [v1,v3] fun v10=>pr (.i2i .u64) [v10] fun v11=>pr (.bin .shr .no) [v11, .int .u64 1] fun v12=>pr (.i2i .i64) [v12] fun v13=>pr (.bin .add .no) [v13,v2] fun v14=>pr (.bin .gtr .no) [v2,v13] fun v15=>vif v15 (pr (.bin .sub .no) [v14,v3] fun v16=>Γ 12961 102 [v0,v1,v2,v3,v4,v13,v14,v16,v13,v5]) (Γ 12961 102 [v0,v1,v2,v3,v4,v13,v14,v1,v2,v5])))
theorem s.zq104_h1 :S6 12961 1 y.zq104_h1:=by intro;intros;kernel_rfl
noncomputable def y.zq104_h1_12 (Γ:Gam)(v0 v1 v2 v3 v4 v5:V):Option V:=
 pr (.bin .lss .no) [v3,v4] fun v6=>vif v6 (pr (.bin .add .no) [v3,v4] fun v7=>pr (.i2i .u64) [v7] fun v8=>pr (.bin .shr .no) [v8, .int .u64 1] fun v9=>pr (.i2i .i64) [v9] fun v10=>pr .chkd [v0,v10] fun v11=>pr (.ldd (some 2) 0 2) [v5,v11] fun v12=>pr .chkd [v0,v1] fun v13=>pr (.ldd (some 2) 0 2) [v5,v13] fun v14=>cv Γ v2 [v12,v14] fun v15=>pr (.bin .lss .no) [v15, .int .i64 0] fun v16=>vif v16 (pr (.bin .add .no) [v10, .int .i64 1] fun v17=>Γ 12961 12 [v0,v1,v2,v17,v4,v5]) (Γ 12961 12 [v0,v1,v2,v3,v10,v5])) (Γ 12961 31 [v0,v3,v1,v5])
theorem s.zq104_h1_12 :S6 12961 12 y.zq104_h1_12:=by intro;intros;kernel_rfl
noncomputable def y.zq104_h1_31 (Γ:Gam)(v0 v1 v2 v3:V):Option V:=
 pr (.bin .sub .no) [v1, .int .i64 1] fun v4=>pr (.bin .lss .no) [v2,v4] fun v5=>vif v5 (pr (.bin .add .no) [v2, .int .i64 1] fun v6=>pr (.bin .add .no) [v2, .int .i64 1] fun v7=>pr .chkd [v0,v7] fun v8=>pr (.ldd (some 2) 0 2) [v3,v8] fun v9=>pr .chkd [v0,v2] fun v10=>pr (.ldd (some 2) 0 2) [v3,v10] fun v11=>pr .chkd [v0,v2] fun v12=>pr (.std 2 0 2) [v3,v12,v9] fun v13=>pr .chkd [v0,v6] fun v14=>pr (.std 2 0 2) [v13,v14,v11] fun v15=>pr (.bin .add .no) [v2, .int .i64 1] fun v16=>Γ 12961 31 [v0,v1,v16,v15]) (some v3)
theorem s.zq104_h1_31 :S4 12961 31 y.zq104_h1_31:=by intro;intros;kernel_rfl
noncomputable def y.zq104_h1_54 (Γ:Gam)(v0 v1 v2 v3 v4 v5:V):Option V:=
 pr (.bin .lss .no) [v3,v4] fun v6=>vif v6 (pr (.bin .add .no) [v3,v4] fun v7=>pr (.i2i .u64) [v7] fun v8=>pr (.bin .shr .no) [v8, .int .u64 1] fun v9=>pr (.i2i .i64) [v9] fun v10=>pr .chkd [v0,v1] fun v11=>pr (.ldd (some 2) 0 2) [v5,v11] fun v12=>pr .chkd [v0,v10] fun v13=>pr (.ldd (some 2) 0 2) [v5,v13] fun v14=>cv Γ v2 [v12,v14] fun v15=>pr (.bin .lss .no) [v15, .int .i64 0] fun v16=>pr (.un .not) [v16] fun v17=>vif v17 (pr (.bin .add .no) [v10, .int .i64 1] fun v18=>Γ 12961 54 [v0,v1,v2,v18,v4,v5]) (Γ 12961 54 [v0,v1,v2,v3,v10,v5])) (Γ 12961 73 [v0,v3,v1,v5])
theorem s.zq104_h1_54 :S6 12961 54 y.zq104_h1_54:=by intro;intros;kernel_rfl
noncomputable def y.zq104_h1_73 (Γ:Gam)(v0 v1 v2 v3:V):Option V:=
 pr (.bin .gtr .no) [v2,v1] fun v4=>vif v4 (pr (.bin .sub .no) [v2, .int .i64 1] fun v5=>pr (.bin .sub .no) [v2, .int .i64 1] fun v6=>pr .chkd [v0,v6] fun v7=>pr (.ldd (some 2) 0 2) [v3,v7] fun v8=>pr .chkd [v0,v2] fun v9=>pr (.ldd (some 2) 0 2) [v3,v9] fun v10=>pr .chkd [v0,v2] fun v11=>pr (.std 2 0 2) [v3,v11,v8] fun v12=>pr .chkd [v0,v5] fun v13=>pr (.std 2 0 2) [v12,v13,v10] fun v14=>pr (.bin .sub .no) [v2, .int .i64 1] fun v15=>Γ 12961 73 [v0,v1,v15,v14]) (some v3)
theorem s.zq104_h1_73 :S4 12961 73 y.zq104_h1_73:=by intro;intros;kernel_rfl
noncomputable def y.zq104_h1_102 (Γ:Gam)(v0 v1 v2 v3 v4 v5 v6 v7 v8 v9:V):Option V:=
 pr (.bin .sub .no) [v6, .int .i64 1] fun v10=>Γ 12961 106 [v0,v1,v2,v3,v4,v5,v6,v7,v8,v10,v9]
theorem s.zq104_h1_102 :S10 12961 102 y.zq104_h1_102:=by intro;intros;kernel_rfl
end Go.Proofs.YtegmegbanfkomaaGreatDoor
namespace Go.Proofs.YtegmegbanfkomaaGreatDoor
open Go.Abs
noncomputable def y.zq104_h1_106 (Γ:Gam)(v0 v1 v2 v3 v4 v5 v6 v7 v8 v9 v10:V):Option V:=
 pr (.bin .lss .no) [v7,v8] fun v11=>vif v11 (pr (.bin .add .no) [v7,v8] fun v12=>pr (.i2i .u64) [v12] fun v13=>pr (.bin .shr .no) [v13, .int .u64 1] fun v14=>pr (.i2i .i64) [v14] fun v15=>pr (.bin .sub .no) [v9,v15] fun v16=>pr .chkd [v0,v16] fun v17=>pr (.ldd (some 2) 0 2) [v10,v17] fun v18=>pr .chkd [v0,v15] fun v19=>pr (.ldd (some 2) 0 2) [v10,v19] fun v20=>cv Γ v4 [v18,v20] fun v21=>pr (.bin .lss .no) [v21, .int .i64 0] fun v22=>pr (.un .not) [v22] fun v23=>vif v23 (pr (.bin .add .no) [v15, .int .i64 1] fun v24=>Γ 12961 106 [v0,v1,v2,v3,v4,v5,v6,v24,v8,v9,v10]) (Γ 12961 106 [v0,v1,v2,v3,v4,v5,v6,v7,v15,v9,v10])) (pr (.bin .sub .no) [v6,v7] fun v12=>pr (.bin .lss .no) [v7,v2] fun v13=>vif v13 (pr (.bin .lss .no) [v2,v12] fun v14=>vif v14 (ch Γ 13761 [v0,v7,v2,v12,v4,v10] fun v15=>Γ 12961 129 [v0,v1,v3,v4,v5,v7,v12,v15]) (Γ 12961 129 [v0,v1,v3,v4,v5,v7,v12,v10])) (Γ 12961 129 [v0,v1,v3,v4,v5,v7,v12,v10]))
theorem s.zq104_h1_106 :S11 12961 106 y.zq104_h1_106:=by intro;intros;kernel_rfl
noncomputable def y.zq104_h1_129 (Γ:Gam)(v0 v1 v2 v3 v4 v5 v6 v7:V):Option V:=
 pr (.bin .lss .no) [v1,v5] fun v8=>vif v8 (pr (.bin .lss .no) [v5,v4] fun v9=>vif v9 (ch Γ 12961 [v0,v1,v5,v4,v3,v7] fun v10=>pr (.bin .lss .no) [v4,v6] fun v12=>vif v12 (pr (.bin .lss .no) [v6,v2] fun v13=>vif v13 (ch Γ 12961 [v0,v4,v6,v2,v3,v10] fun v14=>some v14) (some v10)) (some v10)) (pr (.bin .lss .no) [v4,v6] fun v10=>vif v10 (pr (.bin .lss .no) [v6,v2] fun v11=>vif v11 (ch Γ 12961 [v0,v4,v6,v2,v3,v7] fun v12=>some v12) (some v7)) (some v7))) (pr (.bin .lss .no) [v4,v6] fun v9=>vif v9 (pr (.bin .lss .no) [v6,v2] fun v10=>vif v10 (ch Γ 12961 [v0,v4,v6,v2,v3,v7] fun v11=>some v11) (some v7)) (some v7))
theorem s.zq104_h1_129 :S8 12961 129 y.zq104_h1_129:=by intro;intros;kernel_rfl
noncomputable def y.zq101_h1 (Γ:Gam)(v0 v1 v2 v3 v4 v5:V):Option V:=
 pr (.bin .sub .no) [v2,v1] fun v6=>pr (.bin .sub .no) [v3,v2] fun v7=>Γ 13761 8 [v0,v2,v4,v6,v7,v5]
theorem s.zq101_h1 :S6 13761 1 y.zq101_h1:=by intro;intros;kernel_rfl
noncomputable def y.zq101_h1_8 (Γ:Gam)(v0 v1 v2 v3 v4 v5:V):Option V:=
 pr (.bin .neq .no) [v3,v4] fun v6=>vif v6 (pr (.bin .gtr .no) [v3,v4] fun v7=>vif v7 (pr (.bin .sub .no) [v1,v3] fun v8=>ch Γ 14497 [v0,v8,v1,v4,v2,v5] fun v9=>pr (.bin .sub .no) [v3,v4] fun v11=>Γ 13761 8 [v0,v1,v2,v11,v4,v9]) (pr (.bin .sub .no) [v1,v3] fun v8=>pr (.bin .add .no) [v1,v4] fun v9=>pr (.bin .sub .no) [v9,v3] fun v10=>ch Γ 14497 [v0,v8,v10,v3,v2,v5] fun v11=>pr (.bin .sub .no) [v4,v3] fun v13=>Γ 13761 8 [v0,v1,v2,v3,v13,v11])) (pr (.bin .sub .no) [v1,v3] fun v7=>ch Γ 14497 [v0,v7,v1,v3,v2,v5] fun v8=>some v8)
theorem s.zq101_h1_8 :S6 13761 8 y.zq101_h1_8:=by intro;intros;kernel_rfl
noncomputable def y.zq103_h1 (Γ:Gam)(v0 v1 v2 v3 v4 v5:V):Option V:=
 Γ 14497 5 [v0,v1,v2,v3, .int .i64 0,v5]
theorem s.zq103_h1 :S6 14497 1 y.zq103_h1:=by intro;intros;kernel_rfl
noncomputable def y.zq103_h1_5 (Γ:Gam)(v0 v1 v2 v3 v4 v5:V):Option V:=
 pr (.bin .lss .no) [v4,v3] fun v6=>vif v6 (pr (.bin .add .no) [v1,v4] fun v7=>pr (.bin .add .no) [v2,v4] fun v8=>pr (.bin .add .no) [v2,v4] fun v9=>pr .chkd [v0,v9] fun v10=>pr (.ldd (some 2) 0 2) [v5,v10] fun v11=>pr (.bin .add .no) [v1,v4] fun v12=>pr .chkd [v0,v12] fun v13=>pr (.ldd (some 2) 0 2) [v5,v13] fun v14=>pr .chkd [v0,v7] fun v15=>pr (.std 2 0 2) [v5,v15,v11] fun v16=>pr .chkd [v0,v8] fun v17=>pr (.std 2 0 2) [v16,v17,v14] fun v18=>pr (.bin .add .no) [v4, .int .i64 1] fun v19=>Γ 14497 5 [v0,v1,v2,v3,v19,v18]) (some v5)
theorem s.zq103_h1_5 :S6 14497 5 y.zq103_h1_5:=by intro;intros;kernel_rfl
noncomputable def y.zq50_h0 (Γ:Gam)(v0 v1 v2 v3:V):Option V:=
 pr .scs [v0] fun v4=>pr (.ld (some 32) 0) [v4] fun v5=>pr (.mlk (true,(repl 32 ((some .u8,true)))) (.str []) true) [v1,v5] fun v6=>pr (.ext 0) [v6] fun v7=>pr (.ext 1) [v6] fun v8=>pr (.un .not) [v8] fun v9=>vif v9 (some (.tup [.str [], .int .i64 5,v1,v2,v3])) (some (.tup [v7, .int .i64 0,v1,v2,v3]))
theorem s.zq50_h0 :S4 10912 1 y.zq50_h0:=by intro;intros;kernel_rfl
noncomputable def y.zq57_h0 (Γ:Gam)(v0 v1 v2 v3 v4 v5 v6:V):Option V:=
 Γ 11520 8 [v0,v1,v2, .sl false 34 [],v3,v4,v5,v6,(.agg (repl 32 (.int .u8 0)))]
theorem s.zq57_h0 :S7 11520 1 y.zq57_h0:=by intro;intros;kernel_rfl
noncomputable def y.zq57_h0_8 (Γ:Gam)(v0 v1 v2 v3 v4 v5 v6 v7 v8:V):Option V:=
 pr .vlen [v1,v2] fun v9=>pr (.bin .gtr .no) [v9, .int .i64 0] fun v10=>vif v10 (pr .vidx [v1,v2, .int .i64 0] fun v11=>pr (.ldd none 0 2) [v4,v11] fun v12=>ca Γ 94 [v0,v12] fun v13=>pr (.ext 0) [v13] fun v14=>pr (.ext 1) [v13] fun v15=>ca Γ 122 [v14] fun v16=>pr (.elem 1) [v16, .int .i64 0] fun v17=>pr (.ld none 0) [v17] fun v18=>pr (.bin .eql .no) [v18,v14] fun v19=>vif v19 (pr .vidx [v1,v2, .int .i64 0] fun v20=>pr (.ldd none 1 2) [v4,v20] fun v21=>ch Γ 12240 [v21,v5,v6,v7] fun v22=>pr (.ext 0) [v22] fun v23=>pr (.ext 1) [v22] fun v24=>pr (.ext 2) [v22] fun v25=>pr (.ext 3) [v22] fun v26=>pr (.ext 4) [v22] fun v27=>pr (.cat [some 32]) [v23] fun v28=>pr (.bin .neq .no) [v24, .int .i64 0] fun v29=>vif v29 (pr (.cat [some 32]) [v28] fun v30=>some (.tup [v30,v24,v4,v25,v26,v27])) (pr (.cat [none,some 32]) [v18,v28] fun v30=>pr (.cat [none,none,some 32]) [v18, .bool false,v28] fun v31=>pr (.bsl 34) [v31] fun v32=>pr (.app 34) [v3,v32] fun v33=>pr .vadd [v1,v2, .int .i64 1] fun v34=>Γ 11520 8 [v0,v34,v2,v33,v4,v25,v26,v27,v8])) (pr (.bsl 1) [v0,v18] fun v20=>ca Γ 48 [v20] fun v21=>Γ 11520 44 [v0,v1,v2,v3,v18,v21, .int .i64 0,v4,v5,v6,v7,v8])) (ch Γ 12256 [v3,v5,v6,v7] fun v11=>pr (.ext 0) [v11] fun v12=>pr (.ext 1) [v11] fun v13=>pr (.ext 2) [v11] fun v14=>pr (.ext 3) [v11] fun v15=>pr (.ext 4) [v11] fun v16=>pr (.cat [some 32]) [v12] fun v17=>some (.tup [v17,v13,v4,v14,v15,v16]))
theorem s.zq57_h0_8 :S9 11520 8 y.zq57_h0_8:=by intro;intros;kernel_rfl
noncomputable def y.zq57_h0_44 (Γ:Gam)(v0 v1 v2 v3 v4 v5 v6 v7 v8 v9 v10 v11:V):Option V:=
 pr .vlen [v1,v2] fun v12=>pr (.bin .lss .no) [v6,v12] fun v13=>vif v13 (pr .vidx [v1,v2,v6] fun v14=>pr (.ldd none 0 2) [v7,v14] fun v15=>ca Γ 94 [v5,v15] fun v16=>pr (.ext 0) [v16] fun v17=>pr (.ext 1) [v16] fun v18=>pr (.un .not) [v18] fun v19=>vif v19 (pr .vadd [v1,v2,v6] fun v20=>ch Γ 11520 [v5,v1,v20,v7,v8,v9,v10] fun v21=>pr (.ext 0) [v21] fun v22=>pr (.ext 1) [v21] fun v23=>pr (.ext 2) [v21] fun v24=>pr (.ext 3) [v21] fun v25=>pr (.ext 4) [v21] fun v26=>pr (.ext 5) [v21] fun v27=>pr (.cat [some 32]) [v22] fun v28=>pr (.bin .neq .no) [v23, .int .i64 0] fun v29=>vif v29 (pr (.cat [some 32]) [v28] fun v30=>some (.tup [v30,v23,v24,v25,v26,v27])) (pr (.cat [none,none,some 32]) [v4, .bool true,v28] fun v30=>pr (.bsl 34) [v30] fun v31=>pr (.app 34) [v3,v31] fun v32=>pr .vadd [v1,v2,v6] fun v33=>Γ 11520 8 [v0,v33,v2,v32,v24,v25,v26,v27,v11])) (pr (.bin .add .no) [v6, .int .i64 1] fun v20=>Γ 11520 44 [v0,v1,v2,v3,v4,v5,v20,v7,v8,v9,v10,v11])) (pr .vadd [v1,v2,v6] fun v14=>ch Γ 11520 [v5,v1,v14,v7,v8,v9,v10] fun v15=>pr (.ext 0) [v15] fun v16=>pr (.ext 1) [v15] fun v17=>pr (.ext 2) [v15] fun v18=>pr (.ext 3) [v15] fun v19=>pr (.ext 4) [v15] fun v20=>pr (.ext 5) [v15] fun v21=>pr (.cat [some 32]) [v16] fun v22=>pr (.bin .neq .no) [v17, .int .i64 0] fun v23=>vif v23 (pr (.cat [some 32]) [v22] fun v24=>some (.tup [v24,v17,v18,v19,v20,v21])) (pr (.cat [none,none,some 32]) [v4, .bool true,v22] fun v24=>pr (.bsl 34) [v24] fun v25=>pr (.app 34) [v3,v25] fun v26=>pr .vadd [v1,v2,v6] fun v27=>Γ 11520 8 [v0,v27,v2,v26,v18,v19,v20,v21,v11]))
theorem s.zq57_h0_44 :S12 11520 44 y.zq57_h0_44:=by intro;intros;kernel_rfl
noncomputable def y.zq54_h0 (Γ:Gam)(v0 v1 v2 v3:V):Option V:=
 pr (.len true) [v0] fun v4=>pr (.bin .gtr .no) [v4, .int .i64 32768] fun v5=>vif v5 (pr (.cat []) [] fun v6=>pr (.cat [some 32]) [(.agg (repl 32 (.int .u8 0)))] fun v7=>some (.tup [v7, .int .i64 3,v1,v2,v3])) (ca Γ 187 [v0] fun v6=>pr (.cat [some 32]) [v6] fun v7=>pr (.mup (true,(repl 32 ((some .u8,true))))) [v1,v7,v0] fun v8=>pr (.cat [some 32]) [v7] fun v9=>some (.tup [v9, .int .i64 0,v8,v2,v3]))
theorem s.zq54_h0 :S4 12240 1 y.zq54_h0:=by intro;intros;kernel_rfl
noncomputable def y.zq55_h0 (Γ:Gam)(v0 v1 v2 v3:V):Option V:=
 ca Γ 188 [v0] fun v4=>pr (.ext 0) [v4] fun v5=>pr (.ext 1) [v4] fun v6=>pr (.bin .neq .no) [v6, .int .i64 0] fun v7=>vif v7 (pr (.cat []) [] fun v8=>pr (.cat [some 32]) [(.agg (repl 32 (.int .u8 0)))] fun v9=>some (.tup [v9,v6,v1,v2,v3])) (ca Γ 189 [v5] fun v8=>pr (.cat [some 32]) [v8] fun v9=>pr (.mup (true,(repl 32 ((some .u8,true))))) [v2,v9,v5] fun v10=>pr (.cat [some 32]) [v9] fun v11=>some (.tup [v11, .int .i64 0,v1,v10,v3]))
theorem s.zq55_h0 :S4 12256 1 y.zq55_h0:=by intro;intros;kernel_rfl
noncomputable def y.zq42_h1 (Γ:Gam)(v0 v1 v2 v3 v4:V):Option V:=
 pr (.bin .eql .no) [v1, .str [67]] fun v5=>vif v5 (pr (.cat [none]) [.int .i64 3] fun v6=>pr (.cat [none,none]) [.int .i64 3, .str []] fun v7=>pr (.cat [none,none]) [.int .i64 3, .str []] fun v8=>some (.tup [v8,v2,v3,v4])) (ch Γ 10289 [v0,v2,v3,v4] fun v6=>pr (.ext 0) [v6] fun v7=>pr (.ext 1) [v6] fun v8=>pr (.ext 2) [v6] fun v9=>pr (.ext 3) [v6] fun v10=>pr (.ext 4) [v6] fun v11=>pr (.ext 5) [v6] fun v12=>pr (.cat [some 4]) [v8] fun v13=>vif v9 (pr (.ld none 3) [v13] fun v14=>pr (.bin .eql .no) [v14, .int .i64 0] fun v15=>Γ 10273 17 [v1,v7,v15,v10,v11,v12, .int .i64 0, .str [],v13]) (Γ 10273 17 [v1,v7, .bool false,v10,v11,v12, .int .i64 0, .str [],v13]))
theorem s.zq42_h1 :S5 10273 1 y.zq42_h1:=by intro;intros;kernel_rfl
noncomputable def y.zq42_h1_17 (Γ:Gam)(v0 v1 v2 v3 v4 v5 v6 v7 v8:V):Option V:=
 vif v2 (ch Γ 10753 [v1,v8,v0,v3,v4,v5] fun v9=>pr (.ext 0) [v9] fun v10=>pr (.ext 1) [v9] fun v11=>pr (.ext 2) [v9] fun v12=>pr (.ext 3) [v9] fun v13=>pr (.ext 4) [v9] fun v14=>pr (.cat [some 2]) [v10] fun v15=>vif v11 (pr (.cat [some 2]) [v15] fun v16=>some (.tup [v16,v12,v13,v14])) (pr (.bsl 1) [v1, .str [118,101,110,100,111,114],v0] fun v16=>ca Γ 48 [v16] fun v17=>ch Γ 10305 [v17,v12,v13,v14] fun v18=>pr (.ext 0) [v18] fun v19=>pr (.ext 1) [v18] fun v20=>pr (.ext 2) [v18] fun v21=>pr (.ext 3) [v18] fun v22=>vif v19 (pr (.cat [none,none]) [.int .i64 1,v17] fun v23=>pr (.cat [none,none]) [.int .i64 1,v17] fun v24=>some (.tup [v24,v20,v21,v22])) (ca Γ 49 [v0, .str [47]] fun v23=>pr (.ext 0) [v23] fun v24=>pr (.ext 1) [v23] fun v25=>pr (.ext 2) [v23] fun v26=>ca Γ 50 [v24, .str [46]] fun v27=>vif v27 (pr (.cat [none]) [.int .i64 4] fun v28=>pr (.cat [none,none]) [.int .i64 4, .str []] fun v29=>pr (.cat [none,none]) [.int .i64 4, .str []] fun v30=>some (.tup [v30,v20,v21,v22])) (pr (.cat [none]) [.int .i64 2] fun v28=>pr (.cat [none,none]) [.int .i64 2, .str []] fun v29=>pr (.cat [none,none]) [.int .i64 2, .str []] fun v30=>some (.tup [v30,v20,v21,v22]))))) (ca Γ 49 [v0, .str [47]] fun v9=>pr (.ext 0) [v9] fun v10=>pr (.ext 1) [v9] fun v11=>pr (.ext 2) [v9] fun v12=>ca Γ 50 [v10, .str [46]] fun v13=>vif v13 (pr (.cat [none]) [.int .i64 4] fun v14=>pr (.cat [none,none]) [.int .i64 4, .str []] fun v15=>pr (.cat [none,none]) [.int .i64 4, .str []] fun v16=>some (.tup [v16,v3,v4,v5])) (pr (.cat [none]) [.int .i64 2] fun v14=>pr (.cat [none,none]) [.int .i64 2, .str []] fun v15=>pr (.cat [none,none]) [.int .i64 2, .str []] fun v16=>some (.tup [v16,v3,v4,v5])))
theorem s.zq42_h1_17 :S9 10273 17 y.zq42_h1_17:=by intro;intros;kernel_rfl
noncomputable def y.zq41_h1 (Γ:Gam)(v0 v1 v2 v3:V):Option V:=
 Γ 10289 6 [v0,v1,v2,v3, .str [], .int .i64 0, .sl false 2 [], .int .i64 0]
theorem s.zq41_h1 :S4 10289 1 y.zq41_h1:=by intro;intros;kernel_rfl
noncomputable def y.zq41_h1_6 (Γ:Gam)(v0 v1 v2 v3 v4 v5 v6 v7:V):Option V:=
 pr (.mlk (false,[(none,true)]) (.agg [.str [], .int .i64 0, .sl false 2 [], .int .i64 0]) true) [v2,v0] fun v8=>pr (.ext 0) [v8] fun v9=>pr (.ext 1) [v8] fun v10=>pr (.cat [some 4]) [v9] fun v11=>vif v10 (pr (.cat [some 4]) [v11] fun v12=>some (.tup [v0,v12, .bool true,v1,v2,v3])) (pr (.bin .eql .no) [v0, .str []] fun v12=>vif v12 (pr (.cat []) [] fun v13=>pr (.cat [none,none,none,none]) [.str [], .int .i64 0, .sl false 2 [], .int .i64 0] fun v14=>pr (.cat [none,none,none,none]) [.str [], .int .i64 0, .sl false 2 [], .int .i64 0] fun v15=>some (.tup [.str [],v15, .bool false,v1,v2,v3])) (ca Γ 51 [v0] fun v13=>Γ 10289 6 [v13,v1,v2,v3,v4,v5,v6,v7]))
theorem s.zq41_h1_6 :S8 10289 6 y.zq41_h1_6:=by intro;intros;kernel_rfl
end Go.Proofs.YtegmegbanfkomaaGreatDoor

namespace Go.Proofs.YtegmegbanfkomaaGreatDoor
open Go.Abs
theorem Zai {i n:Nat}(h:i<n)(hn:n<=1152921504606846976):IntKind.i64.wrap ((i:Int)+1)=((i+1:Nat):Int):=w64 _ (by omega)
theorem Qar {x:Bytes}:evp .s2b [.str x]=some (.sl false 1 (encB x)):=rfl
abbrev I (n:Int):V:= .int .i64 n
abbrev strs (l:List Bytes):V:= .sl false 1 (l.map .str)
theorem Zmv {l:List Bytes}{x:Bytes}(h:l.length+1<=Lim):evp (.app 1) [strs l, .sl false 1 [.str x]]=some (strs (l++ [x])):=by
 simp_all[Zl1]
theorem Zhw {x:Bytes}:evp (.bsl 1) [.str x]=some (.sl false 1 [.str x]):=rfl
theorem Zdv {l:List Bytes}{i:Nat}(h:i<l.length):evp (.elem 1) [strs l, .int .i64 i]=some (.str l[i]):=Zf6 (by simp[h])
theorem Zmt {x:Bytes}{l:List Bytes}:evp (.elem 1) [strs (x::l), .int .i64 0]=some (.str x):=Zf6 (i:=0) rfl
theorem Zch {x:Bytes}:evp (.ld none 0) [.str x]=some (.str x):=rfl
theorem Zef {l:List Bytes}:evp (.len false) [strs l]=some (.int .i64 l.length):=by simp_all[Zsr]
theorem Zpg {o:Option V}{v:V}{k:V->Option V}{R:Option V}(h:o=some v)(hk:k v=R):o.bind k=R:=by grind
theorem Zkh {k:IntKind}{a b:Int}:evp (.bin .mul .no) [.int k a, .int k b]=some (.int k (k.wrap (a*b))):=by simp_all[evp]
theorem Zyd {k:Nat}(h0:k≠0){n:Nat}(h:n<4611686018427387904):evp (.bin .quo .no) [.int .i64 (n:Int), .int .i64 (k:Int)]=some (.int .i64 ((n/k:Nat):Int)):=by
 show(if(k:Int)=0 then none else some (V.int .i64 (IntKind.i64.wrap ((n:Int).tdiv (k:Int)))))=_
 have:=Xek n k
 grind[w64]
theorem Zut {k:Nat}(h0:k≠0){n:Nat}:evp (.bin .rem .no) [.int .i64 (n:Int), .int .i64 (k:Int)]=some (.int .i64 ((n % k:Nat):Int)):=by
 show(if(k:Int)=0 then none else some (V.int .i64 ((n:Int).tmod (k:Int))))=_
 grind
abbrev bsl (l:Bytes):V:= .sl false 1 (l.map byteV)
theorem Zev :∀l:Bytes,Zb4 (l.map byteV)=some l
 | []=>rfl
 |c::r=>by
  have ih:=Zev r
  have hc:UInt8.ofNat ((c.toNat:Int).toNat)=c:=by rw[Xc0];exact UInt8.ofNat_toNat
  show((Zb4 (r.map byteV)).map (UInt8.ofNat ((c.toNat:Int).toNat):: ·))=_
  rw[ih,hc];rfl
theorem Z65 {l:Bytes}:evp .b2s [bsl l]=some (.str l):=by
 show(Zb4 (l.map byteV)).map V.str=_
 rw[Zev];rfl
theorem Z09 {sz:Nat}{l:List V}{i:Nat}(h:i<=l.length):evp (.slc sz true false false) [.sl false sz l, .int .i64 (i:Int)]=some (.sl false sz (l.drop i)):=by
 simp_all[evp,Ztf]
theorem Zaz {n i:Nat}(h:i<n):evp .chkd [I n,I i]=some (I i):=by
 show(if 0<=(i:Int)/\(i:Int)<(n:Int)then some (V.int .i64 (i:Int))else none)=_
 grind
theorem Z3j {n i:Nat}(h:i<=n):evp .chkl [I n,I i]=some (I i):=by
 show(if 0<=(i:Int)/\(i:Int)<=(n:Int)then some (V.int .i64 (i:Int))else none)=_
 grind
end Go.Proofs.YtegmegbanfkomaaGreatDoor
namespace Go.Proofs.YtegmegbanfkomaaGreatDoor
open Go.Abs Go.RowKit
noncomputable def cxD (w:World):Cx:=⟨Tryz.prog,w,fun _=>none⟩
theorem mixed :Tryz.prog.follows .mixedOrders=true:=by kernel_rfl
def HasMax (w:World):Prop:= ∃m,w.cell? ⟨2,0,none⟩=some (.int .i64 m)
structure EnvOK (w:World):Prop where
 max:HasMax w
end Go.Proofs.YtegmegbanfkomaaGreatDoor
namespace Go.Proofs
open Go.Shelf
def Tryz.lays156_ren :Go.Shelf.Ren:=⟨fun|156=>99|165=>142|166=>143|169=>144|240=>190|241=>191|276=>239|277=>240|n=>n,fun|31=>52|9=>9|3=>3|4=>4|0=>0|20=>20|72=>211|76=>215|70=>209|37=>132|75=>214|127=>272|164=>311|5=>5|80=>217|n=>n,fun|n=>n⟩
theorem Tryz.lays156 :Go.Proofs.Lays.n156 Tryz.prog Tryz.lays156_ren:= {
 mixed:=by kernel_rfl
 f156:=Tryz.func99.trans (congrArg some (by kernel_rfl))
 f165:=Tryz.func142.trans (congrArg some (by kernel_rfl))
 f166:=Tryz.func143.trans (congrArg some (by kernel_rfl))
 f169:=Tryz.func144.trans (congrArg some (by kernel_rfl))
 f240:=Tryz.func190.trans (congrArg some (by kernel_rfl))
 f241:=Tryz.func191.trans (congrArg some (by kernel_rfl))
 f276:=Tryz.func239.trans (congrArg some (by kernel_rfl))
 f277:=Tryz.func240.trans (congrArg some (by kernel_rfl))
 t0:=Tryz.underlying0
 a0:=Tryz.isAgg0
 z0:=Tryz.sizeOf0
 v0:=Tryz.zeroValue0
 t3:=Tryz.underlying3
 a3:=Tryz.isAgg3
 z3:=Tryz.sizeOf3
 v3:=Tryz.zeroValue3
 t4:=Tryz.underlying4
 a4:=Tryz.isAgg4
 z4:=Tryz.sizeOf4
 v4:=Tryz.zeroValue4
 t9:=Tryz.underlying9
 a9:=Tryz.isAgg9
 z9:=Tryz.sizeOf9
 v9:=Tryz.zeroValue9
 t20:=Tryz.underlying20
 a20:=Tryz.isAgg20
 z20:=Tryz.sizeOf20
 v20:=Tryz.zeroValue20
 t31:=Tryz.underlying52
 a31:=Tryz.isAgg52
 z31:=Tryz.sizeOf52
 v31:=Tryz.zeroValue52
 t37:=Tryz.underlying132
 a37:=Tryz.isAgg132
 z37:=Tryz.sizeOf132
 v37:=Tryz.zeroValue132
 t70:=Tryz.underlying209
 a70:=Tryz.isAgg209
 z70:=Tryz.sizeOf209
 v70:=Tryz.zeroValue209
 t72:=Tryz.underlying211
 a72:=Tryz.isAgg211
 z72:=Tryz.sizeOf211
 v72:=Tryz.zeroValue211
 t75:=Tryz.underlying214
 a75:=Tryz.isAgg214
 z75:=Tryz.sizeOf214
 v75:=Tryz.zeroValue214
 t76:=Tryz.underlying215
 a76:=Tryz.isAgg215
 z76:=Tryz.sizeOf215
 v76:=Tryz.zeroValue215
 t127:=Tryz.underlying272
 a127:=Tryz.isAgg272
 z127:=Tryz.sizeOf272
 v127:=Tryz.zeroValue272
 t164:=Tryz.underlying311
 a164:=Tryz.isAgg311
 z164:=Tryz.sizeOf311
 v164:=Tryz.zeroValue311}
theorem Tryz.Builder_Extra_156 :Builder.Extra Tryz.prog Tryz.lays156_ren:= {
 sizeBuilder:=by kernel_rfl
 liesBuilder:=by kernel_rfl
 t5:=Tryz.underlying5
 a5:=Tryz.isAgg5
 z5:=Tryz.sizeOf5
 v5:=Tryz.zeroValue5
 infoByte:=by kernel_rfl
 cellsByte:=by kernel_rfl
 sizeByte:=by kernel_rfl
 neB5:=by decide}
open Go.RowKit in
theorem Tryz.strings_Join_none (a:Option Addr)(c:Nat)(sep:ByteArray)(w:World):
  Calls Tryz.prog 99 #[.slice a 0 c, .string sep] w fun e w'=>e= .returned (.string ⟨#[]⟩)/\w'=w:=Any.strings_Join_none Tryz.lays156 Tryz.Builder_Extra_156 a c sep w
open Go.RowKit in
theorem Tryz.strings_Join (bk o c:Nat)(xs:List ByteArray)(sep:ByteArray)(w:World)(hcells:∀(j:Nat) x,xs[j]? =some x->w.cell? ⟨bk,o+j,none⟩=some (.string x))(hbk:bk<w.heap.size)(hN:xs.length<=140737488355328)(hcap:xs.length<=c)(hlen:(Lib.join (xs.map (·.data.toList)) sep.data.toList).length<=140737488355328):
  Calls Tryz.prog 99 #[.slice (some ⟨bk,o,none⟩) xs.length c, .string sep] w fun e w'=>e= .returned (.string ⟨(Lib.join (xs.map (·.data.toList)) sep.data.toList).toArray⟩)/\Below w.heap.size w w':=Any.strings_Join Tryz.lays156 Tryz.Builder_Extra_156 bk o c xs sep w hcells hbk hN hcap hlen
def Tryz.lays119_ren :Go.Shelf.Ren:=⟨fun|119=>357|n=>n,fun|21=>21|4=>4|n=>n,fun|n=>n⟩
theorem Tryz.lays119 :Go.Proofs.Lays.n119 Tryz.prog Tryz.lays119_ren:= {
 mixed:=by kernel_rfl
 f119:=Tryz.func357.trans (congrArg some (by kernel_rfl))
 t4:=Tryz.underlying4
 a4:=Tryz.isAgg4
 z4:=Tryz.sizeOf4
 v4:=Tryz.zeroValue4
 t21:=Tryz.underlying21
 a21:=Tryz.isAgg21
 z21:=Tryz.sizeOf21
 v21:=Tryz.zeroValue21}
theorem Tryz.utf8_ValidRune (r:Int)(w:World):
  Calls Tryz.prog 357 #[.int .i32 r] w fun e w'=>e= .returned (.bool (Lib.validRune r))/\w'=w:=Any.utf8_ValidRune Tryz.lays119 r w
def Tryz.lays137_ren :Go.Shelf.Ren:=⟨fun|137=>299|217=>192|266=>241|n=>n,fun|9=>9|5=>5|3=>3|n=>n,fun|n=>n⟩
theorem Tryz.lays137 :Go.Proofs.Lays.n137 Tryz.prog Tryz.lays137_ren:= {
 mixed:=by kernel_rfl
 f137:=Tryz.func299.trans (congrArg some (by kernel_rfl))
 f217:=Tryz.func192.trans (congrArg some (by kernel_rfl))
 f266:=Tryz.func241.trans (congrArg some (by kernel_rfl))
 t3:=Tryz.underlying3
 a3:=Tryz.isAgg3
 z3:=Tryz.sizeOf3
 v3:=Tryz.zeroValue3
 t5:=Tryz.underlying5
 a5:=Tryz.isAgg5
 z5:=Tryz.sizeOf5
 v5:=Tryz.zeroValue5
 t9:=Tryz.underlying9
 a9:=Tryz.isAgg9
 z9:=Tryz.sizeOf9
 v9:=Tryz.zeroValue9}
open Go.RowKit in
theorem Tryz.strings_IndexByte (s:ByteArray)(c:Int)(w:World):
  Calls Tryz.prog 299 #[.string s, .int .u8 c] w fun e w'=>e= .returned (.int .i64 (Lib.indexByte s.data.toList c.toNat.toUInt8))/\w'=w:=Any.strings_IndexByte Tryz.lays137 s c w
def Tryz.lays103_ren :Go.Shelf.Ren:=⟨fun|103=>65|210=>118|206=>151|n=>n,fun|9=>9|4=>4|24=>61|3=>3|n=>n,fun|n=>n⟩
theorem Tryz.lays103 :Go.Proofs.Lays.n103 Tryz.prog Tryz.lays103_ren:= {
 mixed:=by kernel_rfl
 f103:=Tryz.func65.trans (congrArg some (by kernel_rfl))
 f206:=Tryz.func151.trans (congrArg some (by kernel_rfl))
 f210:=Tryz.func118.trans (congrArg some (by kernel_rfl))
 t3:=Tryz.underlying3
 a3:=Tryz.isAgg3
 z3:=Tryz.sizeOf3
 v3:=Tryz.zeroValue3
 t4:=Tryz.underlying4
 a4:=Tryz.isAgg4
 z4:=Tryz.sizeOf4
 v4:=Tryz.zeroValue4
 t9:=Tryz.underlying9
 a9:=Tryz.isAgg9
 z9:=Tryz.sizeOf9
 v9:=Tryz.zeroValue9
 t24:=Tryz.underlying61
 a24:=Tryz.isAgg61
 z24:=Tryz.sizeOf61
 v24:=Tryz.zeroValue61}
open Go.RowKit in
theorem Tryz.strings_CutPrefix (s p:ByteArray)(w:World):
  Calls Tryz.prog 65 #[.string s, .string p] w fun e w'=>e= .returned (.tuple #[.string ⟨(Lib.trimPrefix s.data.toList p.data.toList).toArray⟩, .bool (Lib.hasPrefix s.data.toList p.data.toList)])/\w'=w:=Any.strings_CutPrefix Tryz.lays103 s p w
def Tryz.lays104_ren :Go.Shelf.Ren:=⟨fun|104=>108|211=>150|207=>199|n=>n,fun|9=>9|4=>4|24=>61|3=>3|n=>n,fun|n=>n⟩
theorem Tryz.lays104 :Go.Proofs.Lays.n104 Tryz.prog Tryz.lays104_ren:= {
 mixed:=by kernel_rfl
 f104:=Tryz.func108.trans (congrArg some (by kernel_rfl))
 f207:=Tryz.func199.trans (congrArg some (by kernel_rfl))
 f211:=Tryz.func150.trans (congrArg some (by kernel_rfl))
 t3:=Tryz.underlying3
 a3:=Tryz.isAgg3
 z3:=Tryz.sizeOf3
 v3:=Tryz.zeroValue3
 t4:=Tryz.underlying4
 a4:=Tryz.isAgg4
 z4:=Tryz.sizeOf4
 v4:=Tryz.zeroValue4
 t9:=Tryz.underlying9
 a9:=Tryz.isAgg9
 z9:=Tryz.sizeOf9
 v9:=Tryz.zeroValue9
 t24:=Tryz.underlying61
 a24:=Tryz.isAgg61
 z24:=Tryz.sizeOf61
 v24:=Tryz.zeroValue61}
open Go.RowKit in
theorem Tryz.strings_CutSuffix (s p:ByteArray)(w:World)(hs:s.size<=9223372036854775807):
  Calls Tryz.prog 108 #[.string s, .string p] w fun e w'=>e= .returned (.tuple #[.string ⟨(Lib.trimSuffix s.data.toList p.data.toList).toArray⟩, .bool (Lib.hasSuffix s.data.toList p.data.toList)])/\w'=w:=Any.strings_CutSuffix Tryz.lays104 s p w hs
def Tryz.lays172_ren :Go.Shelf.Ren:=⟨fun|172=>251|244=>287|245=>288|247=>325|279=>326|280=>327|281=>328|282=>329|287=>358|316=>359|171=>252|205=>360|321=>372|322=>373|243=>289|246=>330|283=>361|284=>362|285=>363|286=>364|129=>279|317=>374|318=>375|319=>376|320=>377|337=>380|338=>381|n=>n,fun|9=>9|3=>3|75=>214|76=>215|4=>4|5=>5|167=>377|37=>132|0=>0|85=>378|2=>2|168=>380|53=>195|175=>396|46=>249|210=>399|127=>272|145=>410|143=>408|21=>21|171=>401|173=>403|212=>412|51=>243|20=>20|213=>413|232=>45|233=>370|80=>217|n=>n,fun|15=>10|16=>11|17=>12|18=>13|19=>14|n=>n⟩
theorem Tryz.lays172 :Go.Proofs.Lays.n172 Tryz.prog Tryz.lays172_ren:= {
 mixed:=by kernel_rfl
 f129:=Tryz.func279.trans (congrArg some (by kernel_rfl))
 f171:=Tryz.func252.trans (congrArg some (by kernel_rfl))
 f172:=Tryz.func251.trans (congrArg some (by kernel_rfl))
 f205:=Tryz.func360.trans (congrArg some (by kernel_rfl))
 f243:=Tryz.func289.trans (congrArg some (by kernel_rfl))
 f244:=Tryz.func287.trans (congrArg some (by kernel_rfl))
 f245:=Tryz.func288.trans (congrArg some (by kernel_rfl))
 f246:=Tryz.func330.trans (congrArg some (by kernel_rfl))
 f247:=Tryz.func325.trans (congrArg some (by kernel_rfl))
 f279:=Tryz.func326.trans (congrArg some (by kernel_rfl))
 f280:=Tryz.func327.trans (congrArg some (by kernel_rfl))
 f281:=Tryz.func328.trans (congrArg some (by kernel_rfl))
 f282:=Tryz.func329.trans (congrArg some (by kernel_rfl))
 f283:=Tryz.func361.trans (congrArg some (by kernel_rfl))
 f284:=Tryz.func362.trans (congrArg some (by kernel_rfl))
 f285:=Tryz.func363.trans (congrArg some (by kernel_rfl))
 f286:=Tryz.func364.trans (congrArg some (by kernel_rfl))
 f287:=Tryz.func358.trans (congrArg some (by kernel_rfl))
 f316:=Tryz.func359.trans (congrArg some (by kernel_rfl))
 f317:=Tryz.func374.trans (congrArg some (by kernel_rfl))
 f318:=Tryz.func375.trans (congrArg some (by kernel_rfl))
 f319:=Tryz.func376.trans (congrArg some (by kernel_rfl))
 f320:=Tryz.func377.trans (congrArg some (by kernel_rfl))
 f321:=Tryz.func372.trans (congrArg some (by kernel_rfl))
 f322:=Tryz.func373.trans (congrArg some (by kernel_rfl))
 f337:=Tryz.func380.trans (congrArg some (by kernel_rfl))
 f338:=Tryz.func381.trans (congrArg some (by kernel_rfl))
 t0:=Tryz.underlying0
 a0:=Tryz.isAgg0
 z0:=Tryz.sizeOf0
 v0:=Tryz.zeroValue0
 t2:=Tryz.underlying2
 a2:=Tryz.isAgg2
 z2:=Tryz.sizeOf2
 v2:=Tryz.zeroValue2
 t3:=Tryz.underlying3
 a3:=Tryz.isAgg3
 z3:=Tryz.sizeOf3
 v3:=Tryz.zeroValue3
 t4:=Tryz.underlying4
 a4:=Tryz.isAgg4
 z4:=Tryz.sizeOf4
 v4:=Tryz.zeroValue4
 t5:=Tryz.underlying5
 a5:=Tryz.isAgg5
 z5:=Tryz.sizeOf5
 v5:=Tryz.zeroValue5
 t9:=Tryz.underlying9
 a9:=Tryz.isAgg9
 z9:=Tryz.sizeOf9
 v9:=Tryz.zeroValue9
 t20:=Tryz.underlying20
 a20:=Tryz.isAgg20
 z20:=Tryz.sizeOf20
 v20:=Tryz.zeroValue20
 t21:=Tryz.underlying21
 a21:=Tryz.isAgg21
 z21:=Tryz.sizeOf21
 v21:=Tryz.zeroValue21
 t37:=Tryz.underlying132
 a37:=Tryz.isAgg132
 z37:=Tryz.sizeOf132
 v37:=Tryz.zeroValue132
 t46:=Tryz.underlying249
 a46:=Tryz.isAgg249
 z46:=Tryz.sizeOf249
 v46:=Tryz.zeroValue249
 t51:=Tryz.underlying243
 a51:=Tryz.isAgg243
 z51:=Tryz.sizeOf243
 v51:=Tryz.zeroValue243
 t53:=Tryz.underlying195
 a53:=Tryz.isAgg195
 z53:=Tryz.sizeOf195
 v53:=Tryz.zeroValue195
 t75:=Tryz.underlying214
 a75:=Tryz.isAgg214
 z75:=Tryz.sizeOf214
 v75:=Tryz.zeroValue214
 t76:=Tryz.underlying215
 a76:=Tryz.isAgg215
 z76:=Tryz.sizeOf215
 v76:=Tryz.zeroValue215
 t85:=Tryz.underlying378
 a85:=Tryz.isAgg378
 z85:=Tryz.sizeOf378
 v85:=Tryz.zeroValue378
 t127:=Tryz.underlying272
 a127:=Tryz.isAgg272
 z127:=Tryz.sizeOf272
 v127:=Tryz.zeroValue272
 t143:=Tryz.underlying408
 a143:=Tryz.isAgg408
 z143:=Tryz.sizeOf408
 v143:=Tryz.zeroValue408
 t145:=Tryz.underlying410
 a145:=Tryz.isAgg410
 z145:=Tryz.sizeOf410
 v145:=Tryz.zeroValue410
 t167:=Tryz.underlying377
 a167:=Tryz.isAgg377
 z167:=Tryz.sizeOf377
 v167:=Tryz.zeroValue377
 t168:=Tryz.underlying380
 a168:=Tryz.isAgg380
 z168:=Tryz.sizeOf380
 v168:=Tryz.zeroValue380
 t171:=Tryz.underlying401
 a171:=Tryz.isAgg401
 z171:=Tryz.sizeOf401
 v171:=Tryz.zeroValue401
 t173:=Tryz.underlying403
 a173:=Tryz.isAgg403
 z173:=Tryz.sizeOf403
 v173:=Tryz.zeroValue403
 t175:=Tryz.underlying396
 a175:=Tryz.isAgg396
 z175:=Tryz.sizeOf396
 v175:=Tryz.zeroValue396
 t210:=Tryz.underlying399
 a210:=Tryz.isAgg399
 z210:=Tryz.sizeOf399
 v210:=Tryz.zeroValue399
 t212:=Tryz.underlying412
 a212:=Tryz.isAgg412
 z212:=Tryz.sizeOf412
 v212:=Tryz.zeroValue412
 t213:=Tryz.underlying413
 a213:=Tryz.isAgg413
 z213:=Tryz.sizeOf413
 t232:=Tryz.underlying45
 a232:=Tryz.isAgg45
 z232:=Tryz.sizeOf45
 v232:=Tryz.zeroValue45
 t233:=Tryz.underlying370
 a233:=Tryz.isAgg370
 z233:=Tryz.sizeOf370
 v233:=Tryz.zeroValue370
 g15:=by kernel_rfl
 g16:=by kernel_rfl
 g17:=by kernel_rfl
 g18:=by kernel_rfl
 g19:=by kernel_rfl}
open Go.RowKit in
theorem Tryz.strconv_Atoi (s:ByteArray)(n:Int)(hl:s.size<=18)(h:Lib.atoi s.data.toList=some n)(w:World):
  Calls Tryz.prog 251 #[.string s] w fun e w'=>e= .returned (.tuple #[.int .i64 n, .nilIface])/\ ∃t,w'=Lib.bytesWorld w 5 t:=Any.strconv_Atoi Tryz.lays172 s n hl h w
def Tryz.laysM171_ren :Go.Shelf.Ren:=⟨fun|171=>252|243=>289|246=>330|283=>361|284=>362|285=>363|286=>364|129=>279|317=>374|318=>375|319=>376|320=>377|337=>380|338=>381|n=>n,fun|3=>3|9=>9|2=>2|4=>4|171=>401|0=>0|53=>195|37=>132|5=>5|173=>403|212=>412|51=>243|20=>20|213=>413|46=>249|232=>45|233=>370|n=>n,fun|17=>12|18=>13|19=>14|n=>n⟩
theorem Tryz.laysM171 :Go.Proofs.LaysM.n171 Tryz.prog Tryz.laysM171_ren:= {
 mixed:=by kernel_rfl
 f129:=Tryz.func279.trans (congrArg some (by kernel_rfl))
 f171:=Tryz.func252.trans (congrArg some (by kernel_rfl))
 f243:=Tryz.func289.trans (congrArg some (by kernel_rfl))
 f246:=Tryz.func330.trans (congrArg some (by kernel_rfl))
 f283:=Tryz.func361.trans (congrArg some (by kernel_rfl))
 f284:=Tryz.func362.trans (congrArg some (by kernel_rfl))
 f285:=Tryz.func363.trans (congrArg some (by kernel_rfl))
 f286:=Tryz.func364.trans (congrArg some (by kernel_rfl))
 f317:=Tryz.func374.trans (congrArg some (by kernel_rfl))
 f318:=Tryz.func375.trans (congrArg some (by kernel_rfl))
 f319:=Tryz.func376.trans (congrArg some (by kernel_rfl))
 f320:=Tryz.func377.trans (congrArg some (by kernel_rfl))
 f337:=Tryz.func380.trans (congrArg some (by kernel_rfl))
 f338:=Tryz.func381.trans (congrArg some (by kernel_rfl))
 t0:=Tryz.underlying0
 a0:=Tryz.isAgg0
 z0:=Tryz.sizeOf0
 v0:=Tryz.zeroValue0
 t2:=Tryz.underlying2
 a2:=Tryz.isAgg2
 z2:=Tryz.sizeOf2
 v2:=Tryz.zeroValue2
 t3:=Tryz.underlying3
 a3:=Tryz.isAgg3
 z3:=Tryz.sizeOf3
 v3:=Tryz.zeroValue3
 t4:=Tryz.underlying4
 a4:=Tryz.isAgg4
 z4:=Tryz.sizeOf4
 v4:=Tryz.zeroValue4
 t5:=Tryz.underlying5
 a5:=Tryz.isAgg5
 z5:=Tryz.sizeOf5
 v5:=Tryz.zeroValue5
 t9:=Tryz.underlying9
 a9:=Tryz.isAgg9
 z9:=Tryz.sizeOf9
 v9:=Tryz.zeroValue9
 t20:=Tryz.underlying20
 a20:=Tryz.isAgg20
 z20:=Tryz.sizeOf20
 v20:=Tryz.zeroValue20
 t37:=Tryz.underlying132
 a37:=Tryz.isAgg132
 z37:=Tryz.sizeOf132
 v37:=Tryz.zeroValue132
 t46:=Tryz.underlying249
 a46:=Tryz.isAgg249
 z46:=Tryz.sizeOf249
 v46:=Tryz.zeroValue249
 t51:=Tryz.underlying243
 a51:=Tryz.isAgg243
 z51:=Tryz.sizeOf243
 v51:=Tryz.zeroValue243
 t53:=Tryz.underlying195
 a53:=Tryz.isAgg195
 z53:=Tryz.sizeOf195
 v53:=Tryz.zeroValue195
 t171:=Tryz.underlying401
 a171:=Tryz.isAgg401
 z171:=Tryz.sizeOf401
 v171:=Tryz.zeroValue401
 t173:=Tryz.underlying403
 a173:=Tryz.isAgg403
 z173:=Tryz.sizeOf403
 v173:=Tryz.zeroValue403
 t212:=Tryz.underlying412
 a212:=Tryz.isAgg412
 z212:=Tryz.sizeOf412
 v212:=Tryz.zeroValue412
 t213:=Tryz.underlying413
 a213:=Tryz.isAgg413
 z213:=Tryz.sizeOf413
 t232:=Tryz.underlying45
 a232:=Tryz.isAgg45
 z232:=Tryz.sizeOf45
 v232:=Tryz.zeroValue45
 t233:=Tryz.underlying370
 a233:=Tryz.isAgg370
 z233:=Tryz.sizeOf370
 v233:=Tryz.zeroValue370
 g17:=by kernel_rfl
 g18:=by kernel_rfl
 g19:=by kernel_rfl
 i0:=by kernel_rfl
 i2:=by kernel_rfl
 i3:=by kernel_rfl
 i4:=by kernel_rfl
 i5:=by kernel_rfl
 i9:=by kernel_rfl
 i20:=by kernel_rfl
 i37:=by kernel_rfl
 i46:=by kernel_rfl
 i51:=by kernel_rfl
 i53:=by kernel_rfl
 i171:=by kernel_rfl
 i173:=by kernel_rfl
 i212:=by kernel_rfl
 i232:=by kernel_rfl
 i233:=by kernel_rfl
 m17:=by kernel_rfl
 m18:=by kernel_rfl
 m19:=by kernel_rfl}
open Go.RowKit Go.Sort Go.Lib in
theorem Tryz.strconv_Itoa (n : Int) (h0 : -9223372036854775808 ≤ n) (h1 : n ≤ 9223372036854775807) (w : World) (htab : Lib.TabIs Tryz.prog w "internal/strconv.uint64pow10" .u64 Lib.pow10Tab) :
  Calls Tryz.prog 252 #[.int .i64 n] w fun e w'=>e= .returned (.string ⟨(Lib.itoa n).toArray⟩)/\ ∃k os,w'=grow (w.drewN k) os:=Any.strconv_Itoa Tryz.laysM171 n h0 h1 w htab
def Tryz.laysC172_ren :Go.Shelf.Ren:=⟨fun|172=>251|244=>287|245=>288|247=>325|279=>326|280=>327|281=>328|282=>329|287=>358|316=>359|171=>252|205=>360|321=>372|322=>373|243=>289|246=>330|283=>361|284=>362|285=>363|286=>364|129=>279|317=>374|318=>375|319=>376|320=>377|337=>380|338=>381|n=>n,fun|9=>9|3=>3|75=>214|76=>215|4=>4|5=>5|167=>377|37=>132|0=>0|85=>378|2=>2|168=>380|53=>195|175=>396|46=>249|210=>399|127=>272|145=>410|143=>408|21=>21|171=>401|173=>403|212=>412|51=>243|20=>20|213=>413|232=>45|233=>370|80=>217|n=>n,fun|15=>10|16=>11|17=>12|18=>13|19=>14|n=>n⟩
theorem Tryz.laysC172 :Go.Proofs.LaysC.n172 Tryz.prog Tryz.laysC172_ren:= {
 mixed:=by kernel_rfl
 f129:=Tryz.func279.trans (congrArg some (by kernel_rfl))
 f171:=Tryz.func252.trans (congrArg some (by kernel_rfl))
 f172:=Tryz.func251.trans (congrArg some (by kernel_rfl))
 f205:=Tryz.func360.trans (congrArg some (by kernel_rfl))
 f243:=Tryz.func289.trans (congrArg some (by kernel_rfl))
 f244:=Tryz.func287.trans (congrArg some (by kernel_rfl))
 f245:=Tryz.func288.trans (congrArg some (by kernel_rfl))
 f246:=Tryz.func330.trans (congrArg some (by kernel_rfl))
 f247:=Tryz.func325.trans (congrArg some (by kernel_rfl))
 f279:=Tryz.func326.trans (congrArg some (by kernel_rfl))
 f280:=Tryz.func327.trans (congrArg some (by kernel_rfl))
 f281:=Tryz.func328.trans (congrArg some (by kernel_rfl))
 f282:=Tryz.func329.trans (congrArg some (by kernel_rfl))
 f283:=Tryz.func361.trans (congrArg some (by kernel_rfl))
 f284:=Tryz.func362.trans (congrArg some (by kernel_rfl))
 f285:=Tryz.func363.trans (congrArg some (by kernel_rfl))
 f286:=Tryz.func364.trans (congrArg some (by kernel_rfl))
 f287:=Tryz.func358.trans (congrArg some (by kernel_rfl))
 f316:=Tryz.func359.trans (congrArg some (by kernel_rfl))
 f317:=Tryz.func374.trans (congrArg some (by kernel_rfl))
 f318:=Tryz.func375.trans (congrArg some (by kernel_rfl))
 f319:=Tryz.func376.trans (congrArg some (by kernel_rfl))
 f320:=Tryz.func377.trans (congrArg some (by kernel_rfl))
 f321:=Tryz.func372.trans (congrArg some (by kernel_rfl))
 f322:=Tryz.func373.trans (congrArg some (by kernel_rfl))
 f337:=Tryz.func380.trans (congrArg some (by kernel_rfl))
 f338:=Tryz.func381.trans (congrArg some (by kernel_rfl))
 t0:=Tryz.underlying0
 a0:=Tryz.isAgg0
 z0:=Tryz.sizeOf0
 v0:=Tryz.zeroValue0
 t2:=Tryz.underlying2
 a2:=Tryz.isAgg2
 z2:=Tryz.sizeOf2
 v2:=Tryz.zeroValue2
 t3:=Tryz.underlying3
 a3:=Tryz.isAgg3
 z3:=Tryz.sizeOf3
 v3:=Tryz.zeroValue3
 t4:=Tryz.underlying4
 a4:=Tryz.isAgg4
 z4:=Tryz.sizeOf4
 v4:=Tryz.zeroValue4
 t5:=Tryz.underlying5
 a5:=Tryz.isAgg5
 z5:=Tryz.sizeOf5
 v5:=Tryz.zeroValue5
 t9:=Tryz.underlying9
 a9:=Tryz.isAgg9
 z9:=Tryz.sizeOf9
 v9:=Tryz.zeroValue9
 t20:=Tryz.underlying20
 a20:=Tryz.isAgg20
 z20:=Tryz.sizeOf20
 v20:=Tryz.zeroValue20
 t21:=Tryz.underlying21
 a21:=Tryz.isAgg21
 z21:=Tryz.sizeOf21
 v21:=Tryz.zeroValue21
 t37:=Tryz.underlying132
 a37:=Tryz.isAgg132
 z37:=Tryz.sizeOf132
 v37:=Tryz.zeroValue132
 t46:=Tryz.underlying249
 a46:=Tryz.isAgg249
 z46:=Tryz.sizeOf249
 v46:=Tryz.zeroValue249
 t51:=Tryz.underlying243
 a51:=Tryz.isAgg243
 z51:=Tryz.sizeOf243
 v51:=Tryz.zeroValue243
 t53:=Tryz.underlying195
 a53:=Tryz.isAgg195
 z53:=Tryz.sizeOf195
 v53:=Tryz.zeroValue195
 t75:=Tryz.underlying214
 a75:=Tryz.isAgg214
 z75:=Tryz.sizeOf214
 v75:=Tryz.zeroValue214
 t76:=Tryz.underlying215
 a76:=Tryz.isAgg215
 z76:=Tryz.sizeOf215
 v76:=Tryz.zeroValue215
 t85:=Tryz.underlying378
 a85:=Tryz.isAgg378
 z85:=Tryz.sizeOf378
 v85:=Tryz.zeroValue378
 t127:=Tryz.underlying272
 a127:=Tryz.isAgg272
 z127:=Tryz.sizeOf272
 v127:=Tryz.zeroValue272
 t143:=Tryz.underlying408
 a143:=Tryz.isAgg408
 z143:=Tryz.sizeOf408
 v143:=Tryz.zeroValue408
 t145:=Tryz.underlying410
 a145:=Tryz.isAgg410
 z145:=Tryz.sizeOf410
 v145:=Tryz.zeroValue410
 t167:=Tryz.underlying377
 a167:=Tryz.isAgg377
 z167:=Tryz.sizeOf377
 v167:=Tryz.zeroValue377
 t168:=Tryz.underlying380
 a168:=Tryz.isAgg380
 z168:=Tryz.sizeOf380
 v168:=Tryz.zeroValue380
 t171:=Tryz.underlying401
 a171:=Tryz.isAgg401
 z171:=Tryz.sizeOf401
 v171:=Tryz.zeroValue401
 t173:=Tryz.underlying403
 a173:=Tryz.isAgg403
 z173:=Tryz.sizeOf403
 v173:=Tryz.zeroValue403
 t175:=Tryz.underlying396
 a175:=Tryz.isAgg396
 z175:=Tryz.sizeOf396
 v175:=Tryz.zeroValue396
 t210:=Tryz.underlying399
 a210:=Tryz.isAgg399
 z210:=Tryz.sizeOf399
 v210:=Tryz.zeroValue399
 t212:=Tryz.underlying412
 a212:=Tryz.isAgg412
 z212:=Tryz.sizeOf412
 v212:=Tryz.zeroValue412
 t213:=Tryz.underlying413
 a213:=Tryz.isAgg413
 z213:=Tryz.sizeOf413
 t232:=Tryz.underlying45
 a232:=Tryz.isAgg45
 z232:=Tryz.sizeOf45
 v232:=Tryz.zeroValue45
 t233:=Tryz.underlying370
 a233:=Tryz.isAgg370
 z233:=Tryz.sizeOf370
 v233:=Tryz.zeroValue370
 g15:=by kernel_rfl
 g16:=by kernel_rfl
 g17:=by kernel_rfl
 g18:=by kernel_rfl
 g19:=by kernel_rfl
 t80:=Tryz.underlying217
 a80:=Tryz.isAgg217
 z80:=Tryz.sizeOf217
 v80:=Tryz.zeroValue217
 i0:=by kernel_rfl
 i2:=by kernel_rfl
 i3:=by kernel_rfl
 i4:=by kernel_rfl
 i5:=by kernel_rfl
 i9:=by kernel_rfl
 i20:=by kernel_rfl
 i21:=by kernel_rfl
 i37:=by kernel_rfl
 i46:=by kernel_rfl
 i51:=by kernel_rfl
 i53:=by kernel_rfl
 i75:=by kernel_rfl
 i76:=by kernel_rfl
 i80:=by kernel_rfl
 i85:=by kernel_rfl
 i127:=by kernel_rfl
 i143:=by kernel_rfl
 i145:=by kernel_rfl
 i167:=by kernel_rfl
 i168:=by kernel_rfl
 i171:=by kernel_rfl
 i173:=by kernel_rfl
 i175:=by kernel_rfl
 i210:=by kernel_rfl
 i212:=by kernel_rfl
 i232:=by kernel_rfl
 i233:=by kernel_rfl
 m15:=by kernel_rfl
 m16:=by kernel_rfl
 m17:=by kernel_rfl
 m18:=by kernel_rfl
 m19:=by kernel_rfl
 c0:=by kernel_rfl
 c2:=by kernel_rfl
 c3:=by kernel_rfl
 c4:=by kernel_rfl
 c5:=by kernel_rfl
 c9:=by kernel_rfl
 c20:=by kernel_rfl
 c21:=by kernel_rfl
 c37:=by kernel_rfl
 c46:=by kernel_rfl
 c51:=by kernel_rfl
 c53:=by kernel_rfl
 c75:=by kernel_rfl
 c76:=by kernel_rfl
 c80:=by kernel_rfl
 c85:=by kernel_rfl
 c127:=by kernel_rfl
 c143:=by kernel_rfl
 c145:=by kernel_rfl
 c167:=by kernel_rfl
 c168:=by kernel_rfl
 c171:=by kernel_rfl
 c173:=by kernel_rfl
 c175:=by kernel_rfl
 c210:=by kernel_rfl
 c212:=by kernel_rfl
 c213:=by kernel_rfl
 c232:=by kernel_rfl
 c233:=by kernel_rfl}
open Go.RowKit in
theorem Tryz.strconv_Atoi_ok (s:ByteArray)(hmax:s.size<=9223372036854775806)(v:Int)(h:Lib.atoiAll s.data.toList= .ok v)(w:World):
  Calls Tryz.prog 251 #[.string s] w fun e w'=>e= .returned (.tuple #[.int .i64 v, .nilIface])/\(w'=w \/ ∃t,w'=Lib.bytesWorld w 5 t):=Any.strconv_Atoi_ok Tryz.laysC172 s hmax v h w
open Go.RowKit in
theorem Tryz.strconv_Atoi_syntax (s:ByteArray)(hlim:s.size<=281474976710656)(h:Lib.atoiAll s.data.toList= .«syntax»)(ev:Value)(w:World)(hv:w.cell? ⟨10,0,none⟩=some ev)(hev:ev= .nilIface \/ ∃te pe,ev= .iface te pe):
  Calls Tryz.prog 251 #[.string s] w fun e w'=> ∃N,e= .returned (.tuple #[.int .i64 (0), .iface 380 (.pointer (some ⟨N,0,none⟩))])/\w.heap.size<=N/\w'.heap[N]? =some (.cells #[.string ⟨#[65,116,111,105]⟩, .string s,ev] 399 (0,0))/\Below w.heap.size w w':=Any.strconv_Atoi_syntax Tryz.laysC172 s hlim h ev w hv hev
open Go.RowKit in
theorem Tryz.strconv_Atoi_range (s:ByteArray)(hlim:s.size<=281474976710656)(h:Lib.atoiAll s.data.toList= .range)(ev:Value)(w:World)(hv:w.cell? ⟨11,0,none⟩=some ev)(hev:ev= .nilIface \/ ∃te pe,ev= .iface te pe):
  Calls Tryz.prog 251 #[.string s] w fun e w'=> ∃N,e= .returned (.tuple #[.int .i64 (Lib.atoiSat s.data.toList), .iface 380 (.pointer (some ⟨N,0,none⟩))])/\w.heap.size<=N/\w'.heap[N]? =some (.cells #[.string ⟨#[65,116,111,105]⟩, .string s,ev] 399 (0,0))/\Below w.heap.size w w':=Any.strconv_Atoi_range Tryz.laysC172 s hlim h ev w hv hev
def Tryz.lays143_ren :Go.Shelf.Ren:=⟨fun|143=>104|219=>146|217=>192|225=>193|224=>194|267=>195|266=>241|314=>242|n=>n,fun|9=>9|3=>3|4=>4|5=>5|46=>249|146=>314|51=>243|n=>n,fun|1=>2|n=>n⟩
theorem Tryz.lays143 :Go.Proofs.Lays.n143 Tryz.prog Tryz.lays143_ren:= {
 mixed:=by kernel_rfl
 f143:=Tryz.func104.trans (congrArg some (by kernel_rfl))
 f217:=Tryz.func192.trans (congrArg some (by kernel_rfl))
 f219:=Tryz.func146.trans (congrArg some (by kernel_rfl))
 f224:=Tryz.func194.trans (congrArg some (by kernel_rfl))
 f225:=Tryz.func193.trans (congrArg some (by kernel_rfl))
 f266:=Tryz.func241.trans (congrArg some (by kernel_rfl))
 f267:=Tryz.func195.trans (congrArg some (by kernel_rfl))
 f314:=Tryz.func242.trans (congrArg some (by kernel_rfl))
 t3:=Tryz.underlying3
 a3:=Tryz.isAgg3
 z3:=Tryz.sizeOf3
 v3:=Tryz.zeroValue3
 t4:=Tryz.underlying4
 a4:=Tryz.isAgg4
 z4:=Tryz.sizeOf4
 v4:=Tryz.zeroValue4
 t5:=Tryz.underlying5
 a5:=Tryz.isAgg5
 z5:=Tryz.sizeOf5
 v5:=Tryz.zeroValue5
 t9:=Tryz.underlying9
 a9:=Tryz.isAgg9
 z9:=Tryz.sizeOf9
 v9:=Tryz.zeroValue9
 t46:=Tryz.underlying249
 a46:=Tryz.isAgg249
 z46:=Tryz.sizeOf249
 v46:=Tryz.zeroValue249
 t51:=Tryz.underlying243
 a51:=Tryz.isAgg243
 z51:=Tryz.sizeOf243
 v51:=Tryz.zeroValue243
 t146:=Tryz.underlying314
 a146:=Tryz.isAgg314
 z146:=Tryz.sizeOf314
 v146:=Tryz.zeroValue314
 g1:=by kernel_rfl}
open Go.RowKit Go.Lib in
theorem Tryz.strings_Index (s sub:ByteArray)(m:Int)(w:World)(hs:s.size<4294967281)(hm:w.cell? ⟨2,0,none⟩=some (.int .i64 m)):
  Calls Tryz.prog 104 #[.string s, .string sub] w fun e w'=>e= .returned (.int .i64 (Lib.index s.data.toList sub.data.toList))/\w'=w:=Any.strings_Index Tryz.lays143 s sub m w hs hm
def Tryz.lays144_ren :Go.Shelf.Ren:=⟨fun|144=>50|143=>104|219=>146|217=>192|225=>193|224=>194|267=>195|266=>241|314=>242|n=>n,fun|9=>9|4=>4|3=>3|5=>5|46=>249|146=>314|51=>243|n=>n,fun|1=>2|n=>n⟩
theorem Tryz.lays144 :Go.Proofs.Lays.n144 Tryz.prog Tryz.lays144_ren:= {
 mixed:=by kernel_rfl
 f143:=Tryz.func104.trans (congrArg some (by kernel_rfl))
 f144:=Tryz.func50.trans (congrArg some (by kernel_rfl))
 f217:=Tryz.func192.trans (congrArg some (by kernel_rfl))
 f219:=Tryz.func146.trans (congrArg some (by kernel_rfl))
 f224:=Tryz.func194.trans (congrArg some (by kernel_rfl))
 f225:=Tryz.func193.trans (congrArg some (by kernel_rfl))
 f266:=Tryz.func241.trans (congrArg some (by kernel_rfl))
 f267:=Tryz.func195.trans (congrArg some (by kernel_rfl))
 f314:=Tryz.func242.trans (congrArg some (by kernel_rfl))
 t3:=Tryz.underlying3
 a3:=Tryz.isAgg3
 z3:=Tryz.sizeOf3
 v3:=Tryz.zeroValue3
 t4:=Tryz.underlying4
 a4:=Tryz.isAgg4
 z4:=Tryz.sizeOf4
 v4:=Tryz.zeroValue4
 t5:=Tryz.underlying5
 a5:=Tryz.isAgg5
 z5:=Tryz.sizeOf5
 v5:=Tryz.zeroValue5
 t9:=Tryz.underlying9
 a9:=Tryz.isAgg9
 z9:=Tryz.sizeOf9
 v9:=Tryz.zeroValue9
 t46:=Tryz.underlying249
 a46:=Tryz.isAgg249
 z46:=Tryz.sizeOf249
 v46:=Tryz.zeroValue249
 t51:=Tryz.underlying243
 a51:=Tryz.isAgg243
 z51:=Tryz.sizeOf243
 v51:=Tryz.zeroValue243
 t146:=Tryz.underlying314
 a146:=Tryz.isAgg314
 z146:=Tryz.sizeOf314
 v146:=Tryz.zeroValue314
 g1:=by kernel_rfl}
open Go.RowKit Go.Lib in
theorem Tryz.strings_Contains (s sub:ByteArray)(m:Int)(w:World)(hs:s.size<4294967281)(hm:w.cell? ⟨2,0,none⟩=some (.int .i64 m)):
  Calls Tryz.prog 50 #[.string s, .string sub] w fun e w'=>e= .returned (.bool (Lib.contains s.data.toList sub.data.toList))/\w'=w:=Any.strings_Contains Tryz.lays144 s sub m w hs hm
def Tryz.lays145_ren :Go.Shelf.Ren:=⟨fun|145=>49|220=>103|219=>146|217=>192|225=>193|224=>194|267=>195|266=>241|314=>242|n=>n,fun|9=>9|4=>4|59=>90|3=>3|5=>5|46=>249|146=>314|51=>243|n=>n,fun|1=>2|n=>n⟩
theorem Tryz.lays145 :Go.Proofs.Lays.n145 Tryz.prog Tryz.lays145_ren:= {
 mixed:=by kernel_rfl
 f145:=Tryz.func49.trans (congrArg some (by kernel_rfl))
 f217:=Tryz.func192.trans (congrArg some (by kernel_rfl))
 f219:=Tryz.func146.trans (congrArg some (by kernel_rfl))
 f220:=Tryz.func103.trans (congrArg some (by kernel_rfl))
 f224:=Tryz.func194.trans (congrArg some (by kernel_rfl))
 f225:=Tryz.func193.trans (congrArg some (by kernel_rfl))
 f266:=Tryz.func241.trans (congrArg some (by kernel_rfl))
 f267:=Tryz.func195.trans (congrArg some (by kernel_rfl))
 f314:=Tryz.func242.trans (congrArg some (by kernel_rfl))
 t3:=Tryz.underlying3
 a3:=Tryz.isAgg3
 z3:=Tryz.sizeOf3
 v3:=Tryz.zeroValue3
 t4:=Tryz.underlying4
 a4:=Tryz.isAgg4
 z4:=Tryz.sizeOf4
 v4:=Tryz.zeroValue4
 t5:=Tryz.underlying5
 a5:=Tryz.isAgg5
 z5:=Tryz.sizeOf5
 v5:=Tryz.zeroValue5
 t9:=Tryz.underlying9
 a9:=Tryz.isAgg9
 z9:=Tryz.sizeOf9
 v9:=Tryz.zeroValue9
 t46:=Tryz.underlying249
 a46:=Tryz.isAgg249
 z46:=Tryz.sizeOf249
 v46:=Tryz.zeroValue249
 t51:=Tryz.underlying243
 a51:=Tryz.isAgg243
 z51:=Tryz.sizeOf243
 v51:=Tryz.zeroValue243
 t59:=Tryz.underlying90
 a59:=Tryz.isAgg90
 z59:=Tryz.sizeOf90
 v59:=Tryz.zeroValue90
 t146:=Tryz.underlying314
 a146:=Tryz.isAgg314
 z146:=Tryz.sizeOf314
 v146:=Tryz.zeroValue314
 g1:=by kernel_rfl}
open Go.RowKit Go.Lib in
theorem Tryz.strings_Cut (s sep:ByteArray)(m:Int)(w:World)(hs:s.size<4294967281)(hm:w.cell? ⟨2,0,none⟩=some (.int .i64 m)):
  Calls Tryz.prog 49 #[.string s, .string sep] w fun e w'=>e= .returned (.tuple #[.string ⟨(Lib.cut s.data.toList sep.data.toList).1.toArray⟩, .string ⟨(Lib.cut s.data.toList sep.data.toList).2.1.toArray⟩, .bool (Lib.cut s.data.toList sep.data.toList).2.2])/\ ∃n,w'=w.drewN n:=Any.strings_Cut Tryz.lays145 s sep m w hs hm
def Tryz.lays149_ren :Go.Shelf.Ren:=⟨fun|149=>105|222=>147|n=>n,fun|9=>9|5=>5|3=>3|4=>4|n=>n,fun|n=>n⟩
theorem Tryz.lays149 :Go.Proofs.Lays.n149 Tryz.prog Tryz.lays149_ren:= {
 mixed:=by kernel_rfl
 f149:=Tryz.func105.trans (congrArg some (by kernel_rfl))
 f222:=Tryz.func147.trans (congrArg some (by kernel_rfl))
 t3:=Tryz.underlying3
 a3:=Tryz.isAgg3
 z3:=Tryz.sizeOf3
 v3:=Tryz.zeroValue3
 t4:=Tryz.underlying4
 a4:=Tryz.isAgg4
 z4:=Tryz.sizeOf4
 v4:=Tryz.zeroValue4
 t5:=Tryz.underlying5
 a5:=Tryz.isAgg5
 z5:=Tryz.sizeOf5
 v5:=Tryz.zeroValue5
 t9:=Tryz.underlying9
 a9:=Tryz.isAgg9
 z9:=Tryz.sizeOf9
 v9:=Tryz.zeroValue9}
open Go.RowKit Go.Lib in
theorem Tryz.strings_LastIndexByte (s:ByteArray)(c:Int)(hs:s.size<4611686018427387904)(w:World):
  Calls Tryz.prog 105 #[.string s, .int .u8 c] w fun e w'=>e= .returned (.int .i64 (Lib.lastIndexByte s c))/\w'=w:=Any.strings_LastIndexByte Tryz.lays149 s c hs w
def Tryz.lays99_ren :Go.Shelf.Ren:=⟨fun|99=>109|206=>151|n=>n,fun|9=>9|4=>4|3=>3|n=>n,fun|n=>n⟩
theorem Tryz.lays99 :Go.Proofs.Lays.n99 Tryz.prog Tryz.lays99_ren:= {
 mixed:=by kernel_rfl
 f99:=Tryz.func109.trans (congrArg some (by kernel_rfl))
 f206:=Tryz.func151.trans (congrArg some (by kernel_rfl))
 t3:=Tryz.underlying3
 a3:=Tryz.isAgg3
 z3:=Tryz.sizeOf3
 v3:=Tryz.zeroValue3
 t4:=Tryz.underlying4
 a4:=Tryz.isAgg4
 z4:=Tryz.sizeOf4
 v4:=Tryz.zeroValue4
 t9:=Tryz.underlying9
 a9:=Tryz.isAgg9
 z9:=Tryz.sizeOf9
 v9:=Tryz.zeroValue9}
open Go.RowKit Go.Lib in
theorem Tryz.strings_HasPrefix (s p:ByteArray)(w:World):
  Calls Tryz.prog 109 #[.string s, .string p] w fun e w'=>e= .returned (.bool (Lib.hasPrefix s.data.toList p.data.toList))/\w'=w:=Any.strings_HasPrefix Tryz.lays99 s p w
def Tryz.lays146_ren :Go.Shelf.Ren:=⟨fun|146=>110|221=>152|268=>200|138=>201|143=>104|195=>247|197=>248|218=>249|219=>146|260=>285|217=>192|225=>193|224=>194|267=>195|266=>241|314=>242|n=>n,fun|9=>9|31=>52|3=>3|4=>4|0=>0|105=>319|21=>21|5=>5|46=>249|119=>372|139=>375|138=>374|146=>314|51=>243|n=>n,fun|1=>2|3=>6|4=>7|n=>n⟩
theorem Tryz.lays146 :Go.Proofs.Lays.n146 Tryz.prog Tryz.lays146_ren:= {
 mixed:=by kernel_rfl
 f138:=Tryz.func201.trans (congrArg some (by kernel_rfl))
 f143:=Tryz.func104.trans (congrArg some (by kernel_rfl))
 f146:=Tryz.func110.trans (congrArg some (by kernel_rfl))
 f195:=Tryz.func247.trans (congrArg some (by kernel_rfl))
 f197:=Tryz.func248.trans (congrArg some (by kernel_rfl))
 f217:=Tryz.func192.trans (congrArg some (by kernel_rfl))
 f218:=Tryz.func249.trans (congrArg some (by kernel_rfl))
 f219:=Tryz.func146.trans (congrArg some (by kernel_rfl))
 f221:=Tryz.func152.trans (congrArg some (by kernel_rfl))
 f224:=Tryz.func194.trans (congrArg some (by kernel_rfl))
 f225:=Tryz.func193.trans (congrArg some (by kernel_rfl))
 f260:=Tryz.func285.trans (congrArg some (by kernel_rfl))
 f266:=Tryz.func241.trans (congrArg some (by kernel_rfl))
 f267:=Tryz.func195.trans (congrArg some (by kernel_rfl))
 f268:=Tryz.func200.trans (congrArg some (by kernel_rfl))
 f314:=Tryz.func242.trans (congrArg some (by kernel_rfl))
 t0:=Tryz.underlying0
 a0:=Tryz.isAgg0
 z0:=Tryz.sizeOf0
 v0:=Tryz.zeroValue0
 t3:=Tryz.underlying3
 a3:=Tryz.isAgg3
 z3:=Tryz.sizeOf3
 v3:=Tryz.zeroValue3
 t4:=Tryz.underlying4
 a4:=Tryz.isAgg4
 z4:=Tryz.sizeOf4
 v4:=Tryz.zeroValue4
 t5:=Tryz.underlying5
 a5:=Tryz.isAgg5
 z5:=Tryz.sizeOf5
 v5:=Tryz.zeroValue5
 t9:=Tryz.underlying9
 a9:=Tryz.isAgg9
 z9:=Tryz.sizeOf9
 v9:=Tryz.zeroValue9
 t21:=Tryz.underlying21
 a21:=Tryz.isAgg21
 z21:=Tryz.sizeOf21
 v21:=Tryz.zeroValue21
 t31:=Tryz.underlying52
 a31:=Tryz.isAgg52
 z31:=Tryz.sizeOf52
 v31:=Tryz.zeroValue52
 t46:=Tryz.underlying249
 a46:=Tryz.isAgg249
 z46:=Tryz.sizeOf249
 v46:=Tryz.zeroValue249
 t51:=Tryz.underlying243
 a51:=Tryz.isAgg243
 z51:=Tryz.sizeOf243
 v51:=Tryz.zeroValue243
 t105:=Tryz.underlying319
 a105:=Tryz.isAgg319
 z105:=Tryz.sizeOf319
 v105:=Tryz.zeroValue319
 t119:=Tryz.underlying372
 a119:=Tryz.isAgg372
 z119:=Tryz.sizeOf372
 t138:=Tryz.underlying374
 a138:=Tryz.isAgg374
 z138:=Tryz.sizeOf374
 v138:=Tryz.zeroValue374
 t139:=Tryz.underlying375
 a139:=Tryz.isAgg375
 z139:=Tryz.sizeOf375
 v139:=Tryz.zeroValue375
 t146:=Tryz.underlying314
 a146:=Tryz.isAgg314
 z146:=Tryz.sizeOf314
 v146:=Tryz.zeroValue314
 g1:=by kernel_rfl
 g3:=by kernel_rfl
 g4:=by kernel_rfl}
open Go.RowKit Go.Lib in
theorem Tryz.strings_Split (s sep:ByteArray)(m:Int)(w:World)(hs:s.size<4294967281)(hm:w.cell? ⟨2,0,none⟩=some (.int .i64 m))(h1:1<=sep.size):
  Calls Tryz.prog 110 #[.string s, .string sep] w fun e w'=>
   e= .returned (.slice (some ⟨w.heap.size,0,none⟩) (Lib.countB s sep+1) (Lib.countB s sep+1))/\w'=w.alloc (.cells ((Lib.splitB sep 0 (Lib.countB s sep) s).map Value.string).toArray 9):=Any.strings_Split Tryz.lays146 (by kernel_rfl) s sep m w hs hm h1
def Tryz.laysM146_ren :Go.Shelf.Ren:=⟨fun|146=>110|221=>152|268=>200|138=>201|143=>104|195=>247|197=>248|218=>249|219=>146|260=>285|217=>192|225=>193|224=>194|267=>195|266=>241|314=>242|n=>n,fun|9=>9|31=>52|3=>3|4=>4|0=>0|105=>319|21=>21|5=>5|46=>249|119=>372|139=>375|138=>374|146=>314|51=>243|n=>n,fun|1=>2|3=>6|4=>7|n=>n⟩
theorem Tryz.laysM146 :Go.Proofs.LaysM.n146 Tryz.prog Tryz.laysM146_ren:= {
 mixed:=by kernel_rfl
 f138:=Tryz.func201.trans (congrArg some (by kernel_rfl))
 f143:=Tryz.func104.trans (congrArg some (by kernel_rfl))
 f146:=Tryz.func110.trans (congrArg some (by kernel_rfl))
 f195:=Tryz.func247.trans (congrArg some (by kernel_rfl))
 f197:=Tryz.func248.trans (congrArg some (by kernel_rfl))
 f217:=Tryz.func192.trans (congrArg some (by kernel_rfl))
 f218:=Tryz.func249.trans (congrArg some (by kernel_rfl))
 f219:=Tryz.func146.trans (congrArg some (by kernel_rfl))
 f221:=Tryz.func152.trans (congrArg some (by kernel_rfl))
 f224:=Tryz.func194.trans (congrArg some (by kernel_rfl))
 f225:=Tryz.func193.trans (congrArg some (by kernel_rfl))
 f260:=Tryz.func285.trans (congrArg some (by kernel_rfl))
 f266:=Tryz.func241.trans (congrArg some (by kernel_rfl))
 f267:=Tryz.func195.trans (congrArg some (by kernel_rfl))
 f268:=Tryz.func200.trans (congrArg some (by kernel_rfl))
 f314:=Tryz.func242.trans (congrArg some (by kernel_rfl))
 t0:=Tryz.underlying0
 a0:=Tryz.isAgg0
 z0:=Tryz.sizeOf0
 v0:=Tryz.zeroValue0
 t3:=Tryz.underlying3
 a3:=Tryz.isAgg3
 z3:=Tryz.sizeOf3
 v3:=Tryz.zeroValue3
 t4:=Tryz.underlying4
 a4:=Tryz.isAgg4
 z4:=Tryz.sizeOf4
 v4:=Tryz.zeroValue4
 t5:=Tryz.underlying5
 a5:=Tryz.isAgg5
 z5:=Tryz.sizeOf5
 v5:=Tryz.zeroValue5
 t9:=Tryz.underlying9
 a9:=Tryz.isAgg9
 z9:=Tryz.sizeOf9
 v9:=Tryz.zeroValue9
 t21:=Tryz.underlying21
 a21:=Tryz.isAgg21
 z21:=Tryz.sizeOf21
 v21:=Tryz.zeroValue21
 t31:=Tryz.underlying52
 a31:=Tryz.isAgg52
 z31:=Tryz.sizeOf52
 v31:=Tryz.zeroValue52
 t46:=Tryz.underlying249
 a46:=Tryz.isAgg249
 z46:=Tryz.sizeOf249
 v46:=Tryz.zeroValue249
 t51:=Tryz.underlying243
 a51:=Tryz.isAgg243
 z51:=Tryz.sizeOf243
 v51:=Tryz.zeroValue243
 t105:=Tryz.underlying319
 a105:=Tryz.isAgg319
 z105:=Tryz.sizeOf319
 v105:=Tryz.zeroValue319
 t119:=Tryz.underlying372
 a119:=Tryz.isAgg372
 z119:=Tryz.sizeOf372
 t138:=Tryz.underlying374
 a138:=Tryz.isAgg374
 z138:=Tryz.sizeOf374
 v138:=Tryz.zeroValue374
 t139:=Tryz.underlying375
 a139:=Tryz.isAgg375
 z139:=Tryz.sizeOf375
 v139:=Tryz.zeroValue375
 t146:=Tryz.underlying314
 a146:=Tryz.isAgg314
 z146:=Tryz.sizeOf314
 v146:=Tryz.zeroValue314
 g1:=by kernel_rfl
 g3:=by kernel_rfl
 g4:=by kernel_rfl
 i0:=by kernel_rfl
 i3:=by kernel_rfl
 i4:=by kernel_rfl
 i5:=by kernel_rfl
 i9:=by kernel_rfl
 i21:=by kernel_rfl
 i31:=by kernel_rfl
 i46:=by kernel_rfl
 i51:=by kernel_rfl
 i105:=by kernel_rfl
 i138:=by kernel_rfl
 i139:=by kernel_rfl
 i146:=by kernel_rfl
 m1:=by kernel_rfl
 s1_3:=fun w h=>Go.Proofs.cell_of_shapedOpen_int (zero:= #[.int .i64 0]) (t:=3) h (of_decide_eq_true (by kernel_rfl)) (by kernel_rfl) rfl (by kernel_rfl) (by kernel_rfl) Tryz.underlying3
 m3:=by kernel_rfl
 m4:=by kernel_rfl}
def Tryz.lays152_ren :Go.Shelf.Ren:=⟨fun|152=>322|137=>299|119=>357|224=>194|225=>193|217=>192|266=>241|n=>n,fun|9=>9|21=>21|3=>3|4=>4|5=>5|0=>0|46=>249|n=>n,fun|n=>n⟩
theorem Tryz.lays152 :Go.Proofs.Lays.n152 Tryz.prog Tryz.lays152_ren:= {
 mixed:=by kernel_rfl
 f119:=Tryz.func357.trans (congrArg some (by kernel_rfl))
 f137:=Tryz.func299.trans (congrArg some (by kernel_rfl))
 f152:=Tryz.func322.trans (congrArg some (by kernel_rfl))
 f217:=Tryz.func192.trans (congrArg some (by kernel_rfl))
 f224:=Tryz.func194.trans (congrArg some (by kernel_rfl))
 f225:=Tryz.func193.trans (congrArg some (by kernel_rfl))
 f266:=Tryz.func241.trans (congrArg some (by kernel_rfl))
 t0:=Tryz.underlying0
 a0:=Tryz.isAgg0
 z0:=Tryz.sizeOf0
 v0:=Tryz.zeroValue0
 t3:=Tryz.underlying3
 a3:=Tryz.isAgg3
 z3:=Tryz.sizeOf3
 v3:=Tryz.zeroValue3
 t4:=Tryz.underlying4
 a4:=Tryz.isAgg4
 z4:=Tryz.sizeOf4
 v4:=Tryz.zeroValue4
 t5:=Tryz.underlying5
 a5:=Tryz.isAgg5
 z5:=Tryz.sizeOf5
 v5:=Tryz.zeroValue5
 t9:=Tryz.underlying9
 a9:=Tryz.isAgg9
 z9:=Tryz.sizeOf9
 v9:=Tryz.zeroValue9
 t21:=Tryz.underlying21
 a21:=Tryz.isAgg21
 z21:=Tryz.sizeOf21
 v21:=Tryz.zeroValue21
 t46:=Tryz.underlying249
 a46:=Tryz.isAgg249
 z46:=Tryz.sizeOf249
 v46:=Tryz.zeroValue249}
open Go.RowKit Go.Lib in
theorem Tryz.strings_IndexRune_ascii (s:ByteArray)(r:Int)(w:World)(h0:0<=r)(h1:r<128):
  Calls Tryz.prog 322 #[.string s, .int .i32 r] w fun e w'=>e= .returned (.int .i64 (Lib.indexByte s.data.toList r.toNat.toUInt8))/\w'=w:=Any.strings_IndexRune_ascii Tryz.lays152 s r w h0 h1
def Tryz.lays226_ren :Go.Shelf.Ren:=⟨fun|226=>323|n=>n,fun|3=>3|4=>4|n=>n,fun|n=>n⟩
theorem Tryz.lays226 :Go.Proofs.Lays.n226 Tryz.prog Tryz.lays226_ren:= {
 mixed:=by kernel_rfl
 f226:=Tryz.func323.trans (congrArg some (by kernel_rfl))
 t3:=Tryz.underlying3
 a3:=Tryz.isAgg3
 z3:=Tryz.sizeOf3
 v3:=Tryz.zeroValue3
 t4:=Tryz.underlying4
 a4:=Tryz.isAgg4
 z4:=Tryz.sizeOf4
 v4:=Tryz.zeroValue4}
open Go.RowKit Go.Lib in
theorem Tryz.strings_shouldUseASCIISet (n:Int)(w:World):
  Calls Tryz.prog 323 #[.int .i64 n] w fun e w'=>e= .returned (.bool (decide (8<n)))/\w'=w:=Any.strings_shouldUseASCIISet Tryz.lays226 n w
def Tryz.lays153_ren :Go.Shelf.Ren:=⟨fun|153=>286|152=>322|226=>323|227=>296|228=>324|137=>299|119=>357|224=>194|225=>193|217=>192|266=>241|n=>n,fun|9=>9|3=>3|4=>4|5=>5|21=>21|117=>347|116=>346|0=>0|46=>249|124=>350|n=>n,fun|n=>n⟩
theorem Tryz.lays153 :Go.Proofs.Lays.n153 Tryz.prog Tryz.lays153_ren:= {
 mixed:=by kernel_rfl
 f119:=Tryz.func357.trans (congrArg some (by kernel_rfl))
 f137:=Tryz.func299.trans (congrArg some (by kernel_rfl))
 f152:=Tryz.func322.trans (congrArg some (by kernel_rfl))
 f153:=Tryz.func286.trans (congrArg some (by kernel_rfl))
 f217:=Tryz.func192.trans (congrArg some (by kernel_rfl))
 f224:=Tryz.func194.trans (congrArg some (by kernel_rfl))
 f225:=Tryz.func193.trans (congrArg some (by kernel_rfl))
 f226:=Tryz.func323.trans (congrArg some (by kernel_rfl))
 f227:=Tryz.func296.trans (congrArg some (by kernel_rfl))
 f228:=Tryz.func324.trans (congrArg some (by kernel_rfl))
 f266:=Tryz.func241.trans (congrArg some (by kernel_rfl))
 t0:=Tryz.underlying0
 a0:=Tryz.isAgg0
 z0:=Tryz.sizeOf0
 v0:=Tryz.zeroValue0
 t3:=Tryz.underlying3
 a3:=Tryz.isAgg3
 z3:=Tryz.sizeOf3
 v3:=Tryz.zeroValue3
 t4:=Tryz.underlying4
 a4:=Tryz.isAgg4
 z4:=Tryz.sizeOf4
 v4:=Tryz.zeroValue4
 t5:=Tryz.underlying5
 a5:=Tryz.isAgg5
 z5:=Tryz.sizeOf5
 v5:=Tryz.zeroValue5
 t9:=Tryz.underlying9
 a9:=Tryz.isAgg9
 z9:=Tryz.sizeOf9
 v9:=Tryz.zeroValue9
 t21:=Tryz.underlying21
 a21:=Tryz.isAgg21
 z21:=Tryz.sizeOf21
 v21:=Tryz.zeroValue21
 t46:=Tryz.underlying249
 a46:=Tryz.isAgg249
 z46:=Tryz.sizeOf249
 v46:=Tryz.zeroValue249
 t116:=Tryz.underlying346
 a116:=Tryz.isAgg346
 z116:=Tryz.sizeOf346
 t117:=Tryz.underlying347
 a117:=Tryz.isAgg347
 z117:=Tryz.sizeOf347
 v117:=Tryz.zeroValue347
 t124:=Tryz.underlying350
 a124:=Tryz.isAgg350
 z124:=Tryz.sizeOf350
 v124:=Tryz.zeroValue350}
open Go.RowKit Go.Lib in
theorem Tryz.strings_IndexAny_long (hv116:∀w,(zeroValue 346).run Tryz.prog w= .ok (.agg (Array.replicate 256 (.bool false))) w)(s chars:ByteArray)(w:World)(h2:2<=chars.size)(h8:8<s.size)(hs:s.size<4294967281)(hcs:chars.size<4294967281)(hascii:∀(j:Nat) b,chars.data.toList[j]? =some b->b.toNat<128):
  Calls Tryz.prog 286 #[.string s, .string chars] w fun e w'=>e= .returned (.int .i64 (Lib.indexAny s.data.toList chars.data.toList))/\w'=((w.alloc (.cells (Lib.setCells chars.data.toList) 346)).alloc (.cells (Lib.setCells chars.data.toList) 346)):=Any.strings_IndexAny_long Tryz.lays153 hv116 (by kernel_rfl) s chars w h2 h8 hs hcs hascii
def Tryz.lays150_ren :Go.Shelf.Ren:=⟨fun|150=>250|153=>286|152=>322|226=>323|227=>296|228=>324|137=>299|119=>357|224=>194|225=>193|217=>192|266=>241|n=>n,fun|9=>9|4=>4|3=>3|5=>5|21=>21|117=>347|116=>346|0=>0|46=>249|124=>350|n=>n,fun|n=>n⟩
theorem Tryz.lays150 :Go.Proofs.Lays.n150 Tryz.prog Tryz.lays150_ren:= {
 mixed:=by kernel_rfl
 f119:=Tryz.func357.trans (congrArg some (by kernel_rfl))
 f137:=Tryz.func299.trans (congrArg some (by kernel_rfl))
 f150:=Tryz.func250.trans (congrArg some (by kernel_rfl))
 f152:=Tryz.func322.trans (congrArg some (by kernel_rfl))
 f153:=Tryz.func286.trans (congrArg some (by kernel_rfl))
 f217:=Tryz.func192.trans (congrArg some (by kernel_rfl))
 f224:=Tryz.func194.trans (congrArg some (by kernel_rfl))
 f225:=Tryz.func193.trans (congrArg some (by kernel_rfl))
 f226:=Tryz.func323.trans (congrArg some (by kernel_rfl))
 f227:=Tryz.func296.trans (congrArg some (by kernel_rfl))
 f228:=Tryz.func324.trans (congrArg some (by kernel_rfl))
 f266:=Tryz.func241.trans (congrArg some (by kernel_rfl))
 t0:=Tryz.underlying0
 a0:=Tryz.isAgg0
 z0:=Tryz.sizeOf0
 v0:=Tryz.zeroValue0
 t3:=Tryz.underlying3
 a3:=Tryz.isAgg3
 z3:=Tryz.sizeOf3
 v3:=Tryz.zeroValue3
 t4:=Tryz.underlying4
 a4:=Tryz.isAgg4
 z4:=Tryz.sizeOf4
 v4:=Tryz.zeroValue4
 t5:=Tryz.underlying5
 a5:=Tryz.isAgg5
 z5:=Tryz.sizeOf5
 v5:=Tryz.zeroValue5
 t9:=Tryz.underlying9
 a9:=Tryz.isAgg9
 z9:=Tryz.sizeOf9
 v9:=Tryz.zeroValue9
 t21:=Tryz.underlying21
 a21:=Tryz.isAgg21
 z21:=Tryz.sizeOf21
 v21:=Tryz.zeroValue21
 t46:=Tryz.underlying249
 a46:=Tryz.isAgg249
 z46:=Tryz.sizeOf249
 v46:=Tryz.zeroValue249
 t116:=Tryz.underlying346
 a116:=Tryz.isAgg346
 z116:=Tryz.sizeOf346
 t117:=Tryz.underlying347
 a117:=Tryz.isAgg347
 z117:=Tryz.sizeOf347
 v117:=Tryz.zeroValue347
 t124:=Tryz.underlying350
 a124:=Tryz.isAgg350
 z124:=Tryz.sizeOf350
 v124:=Tryz.zeroValue350}
open Go.RowKit Go.Lib in
theorem Tryz.strings_ContainsAny (hv116:∀w,(zeroValue 346).run Tryz.prog w= .ok (.agg (Array.replicate 256 (.bool false))) w)(s chars:ByteArray)(w:World)(hs:s.size<4294967281)(hcs:chars.size<4294967281)(has:∀(j:Nat) b,s.data.toList[j]? =some b->b.toNat<128)(hac:∀(j:Nat) b,chars.data.toList[j]? =some b->b.toNat<128):
  Calls Tryz.prog 250 #[.string s, .string chars] w fun e w'=>e= .returned (.bool (Lib.containsAny s.data.toList chars.data.toList))/\Below w.heap.size w w':=Any.strings_ContainsAny Tryz.lays150 hv116 (by kernel_rfl) s chars w hs hcs has hac
def Tryz.lays229_ren :Go.Shelf.Ren:=⟨fun|229=>154|n=>n,fun|9=>9|40=>227|31=>52|152=>277|3=>3|0=>0|4=>4|21=>21|154=>279|n=>n,fun|n=>n⟩
theorem Tryz.lays229 :Go.Proofs.Lays.n229 Tryz.prog Tryz.lays229_ren:= {
 mixed:=by kernel_rfl
 f229:=Tryz.func154.trans (congrArg some (by kernel_rfl))
 t0:=Tryz.underlying0
 a0:=Tryz.isAgg0
 z0:=Tryz.sizeOf0
 v0:=Tryz.zeroValue0
 t3:=Tryz.underlying3
 a3:=Tryz.isAgg3
 z3:=Tryz.sizeOf3
 v3:=Tryz.zeroValue3
 t4:=Tryz.underlying4
 a4:=Tryz.isAgg4
 z4:=Tryz.sizeOf4
 v4:=Tryz.zeroValue4
 t9:=Tryz.underlying9
 a9:=Tryz.isAgg9
 z9:=Tryz.sizeOf9
 v9:=Tryz.zeroValue9
 t21:=Tryz.underlying21
 a21:=Tryz.isAgg21
 z21:=Tryz.sizeOf21
 v21:=Tryz.zeroValue21
 t31:=Tryz.underlying52
 a31:=Tryz.isAgg52
 z31:=Tryz.sizeOf52
 v31:=Tryz.zeroValue52
 t40:=Tryz.underlying227
 a40:=Tryz.isAgg227
 z40:=Tryz.sizeOf227
 v40:=Tryz.zeroValue227
 t152:=Tryz.underlying277
 a152:=Tryz.isAgg277
 z152:=Tryz.sizeOf277
 v152:=Tryz.zeroValue277
 t154:=Tryz.underlying279
 a154:=Tryz.isAgg279
 z154:=Tryz.sizeOf279
 v154:=Tryz.zeroValue279}
open Go.RowKit Go.Lib in
theorem Tryz.strings_FieldsFunc_runes (g:Nat)(lb:Array Value)(eg:∀args w,(callFunc g args).run Tryz.prog w= .ok (.enter g args) w)(p:Nat->Bool)(s:ByteArray)(w:World)(hs:s.size<=4294967296)(hp:PredAtRunes Tryz.prog g lb p w):
  Calls Tryz.prog 154 #[.string s, .func (.func g) #[] lb] w fun e w'=> ∃A,e= .returned (.slice (some ⟨A,0,none⟩) (Lib.goFieldsP p s).length (Lib.goFieldsP p s).length)/\w.heap.size<=A/\
   w'.ownsRow w.heap.size 9 1 (.slice (some ⟨A,0,none⟩) (Lib.goFieldsP p s).length (Lib.goFieldsP p s).length) (Lib.goFieldsP p s).length ((Lib.goFieldsP p s).map Value.string)/\Below w.heap.size w w':=Any.strings_FieldsFunc_runes Tryz.lays229 g lb eg p s w hs hp (by kernel_rfl) (by kernel_rfl)
end Go.Proofs
namespace Go.Proofs.YtegmegbanfkomaaGreatDoor
open Go.Abs Go.RowKit
theorem Zbq {P : Program} {f : FuncId} {fn : Func} (hf : P.funcs[f]? = some fn) (h : (fn.name == "runtime.NumGoroutine") = false) (hb : fn.body.isNone = false) : Zez P f := ⟨fn, hf, by simpa using h, hb⟩
theorem Zcm {W:World}{G φ}{s:Bytes}{x:Value}(h:Rep W G φ (.str s) x):∃t:ByteArray,x= .string t/\t.data.toList=s:=by
 cases h with
 |str l t h=>exact⟨t,rfl,h⟩
theorem Zps {W:World}{G φ}{u v:V}{xs:Array Value}(h:RepL W G φ [u,v] xs):∃x y,xs= #[x,y]/\Rep W G φ u x/\Rep W G φ v y:=by
 obtain⟨hl,h⟩:=h
 obtain⟨l⟩:=xs
 match l,hl with
 | [x,y],_=>exact⟨x,y,rfl,h 0 u x rfl rfl,h 1 v y rfl rfl⟩
theorem HasMax.at {w:World}(h:HasMax w){W:World}{G:Nat->Nat}(hW:OKW (cxD w) W G):∃m,W.cell? ⟨2,0,none⟩=some (.int .i64 m):=by
 obtain⟨m,hm⟩:=h
 refine⟨m, ?_⟩
 rw[hW.below.cell (p:=⟨2,0,none⟩) ?_]
 ·exact hm
 ·rcases Xa6 2 (cxD w).w0.heap.size with h0|h0
  ·exact h0
  ·exfalso
   have:w.heap[(2:Nat)]? =none:=Array.getElem?_eq_none h0
   simp only[World.cell?,this]at hm
   cases hm
theorem Zi3 {args:List V}{a b:Bytes}(h:nfL args=[V.str a,V.str b]):args=[.str a, .str b]:=by
 obtain⟨u,v,rfl,h1,h2⟩:=Zd0 h
 obtain⟨u',v',rfl,h3,h4⟩:=Zd0 h2
 obtain rfl:=Zhc h4
 rw[Zdz h1,Zdz h3]
theorem Zrh (l:List Bytes):nfL (l.map .str)=l.map .str:=by rw[Zcn,Xcg];rfl
def Zad (c:UInt8):Bytes->List Bytes
 | []=> [[]]
 |b::r=>if b=c then []::Zad c r else match Zad c r with
  | []=> [[b]]
  |x::xs=>(b::x)::xs
theorem Zko (c:UInt8):∀s:Bytes,Lib.splitK [c] 0 (s.count c) s=Zad c s
 | []=>rfl
 |b::r=>by
  have ih:=Zko c r
  simp only[Zad]
  by_cases h:b=c
  ·subst h
   rw[List.count_cons_self,if_pos rfl]
   simp only[Lib.splitK,Lib.index]
   simp[ih]
  ·rw[if_neg h,List.count_cons_of_ne h]
   cases hk:r.count c with
   |zero=>rw[hk]at ih;simp only[Lib.splitK]at ih⊢;rw[<-ih]
   |succ k=>
    rw[hk]at ih
    simp only[Lib.splitK,Lib.index]at ih⊢
    have hp:List.isPrefixOf [c] (b::r)=false:=by simp[List.isPrefixOf,Ne.symm h]
    simp only[hp,Xat,if_false]
    by_cases hi:Lib.index r [c]= -1
    ·simp only[hi,beq_self_eq_true,if_true]at ih⊢
     rw[<-ih]
    ·have hge:=Lib.index_ge r [c]
     have e1:(Lib.index r [c]== -1)=false:=by simpa using hi
     have e2:(Lib.index r [c]+1== -1)=false:=by simp;omega
     simp only[e1,e2,Xat,if_false]at ih⊢
     rw[<-ih]
     have e3:(Lib.index r [c]+1).toNat=(Lib.index r [c]).toNat+1:=by omega
     simp[e3]
def g.strings_Split (s c:Bytes):Option (List Bytes):=if s.length<4294967281/\c.length=1 then some (Zad (c.headD 0) s)else none
def K.strings_Split :FC:=fc 110 (fun _=>true) true (fun(a:Bytes×Bytes)=> [V.str a.1,V.str a.2]) (fun(y:List Bytes)=> .sl false 1 (y.map .str)) (fun a=>g.strings_Split a.1 a.2)
 (fun _=>rfl) (fun y=>Zfw (fun _=>rfl) y) (fun⟨a,b⟩ ⟨c,d⟩ h=>by simp at h;simp[h])
theorem H.strings_Split (w:World)(hw:EnvOK w):K.strings_Split.Holds (cxD w):=by
 rintro args y ⟨⟨s,c⟩,r,ha,hg,rfl⟩
 obtain rfl:=Zi3 ha
 simp only[g.strings_Split]at hg
 split at hg
 ·rename_i hc
  cases hg
  refine⟨.sl false 1 ((Zad (c.headD 0) s).map .str),true, ?_,by show V.sl false 1 (nfL _)=_;rw[Zrh],fun _=> .inl rfl⟩
  refine PC.texts (Zbq Tryz.func110 (by kernel_rfl) (by kernel_rfl)) fun W G φ xs hW hxs=> ?_
  obtain⟨x,y,rfl,hx,hy⟩:=Zps hxs
  obtain⟨t,rfl,rfl⟩:=Zcm hx
  obtain⟨u,rfl,hu⟩:=Zcm hy
  obtain⟨m,hm⟩:=hw.max.at hW
  have hu1:u.size=1:=by rw[Lib.size_eq,hu];exact hc.2
  have hsz:t.size<4294967281:=by rw[Lib.size_eq];exact hc.1
  refine(Tryz.strings_Split t u m W hsz hm (by omega)).mono fun e W' ⟨he,hW'⟩=> ?_
  have hlen:=Lib.splitB_all u (by omega) 0 _ t rfl
  refine⟨Lib.splitB u 0 (Lib.countB t u) t,_, ?_,by rw[he,hlen],hW'⟩
  have hu2:u.data.toList=[c.headD 0]:=by
   rw[hu]
   match c,hc.2 with
   | [b],_=>rfl
  rw[Lib.splitB_data,hu2]
  have:Lib.countB t u=t.data.toList.count (c.headD 0):=by
   unfold Lib.countB
   rw[hu2,Lib.count_one]
  rw[this,Zko]
 ·cases hg
def g.strings_Contains (s c:Bytes):Option Bool:=if s.length<4294967281/\c.length=1 then some (decide (c.headD 0∈s))else none
def K.strings_Contains :FC:=fc 50 (fun _=>true) false (fun(a:Bytes×Bytes)=> [V.str a.1,V.str a.2]) (fun(y:Bool)=> .bool y) (fun a=>g.strings_Contains a.1 a.2)
 (fun _=>rfl) (fun y=>rfl) (fun⟨a,b⟩ ⟨c,d⟩ h=>by simp at h;simp[h])
theorem Zmu (c:UInt8):∀s:Bytes,(Lib.index s [c]= -1)<->c∉s
 | []=>by simp[Lib.index]
 |b::r=>by
  have ih:=Zmu c r
  have hge:=Lib.index_ge r [c]
  simp only[Lib.index]
  by_cases h:b=c
  ·subst h;simp
  ·have hp:List.isPrefixOf [c] (b::r)=false:=by simp[List.isPrefixOf,Ne.symm h]
   simp only[hp,Xat,if_false]
   by_cases hi:Lib.index r [c]= -1
   ·simp[hi,ih.1 hi,Ne.symm h]
   ·have e1:(Lib.index r [c]== -1)=false:=by simpa using hi
    have hm:c∈r:=Classical.not_not.1 fun hn=>hi (ih.2 hn)
    simp[e1,hm];omega
theorem H.strings_Contains (w:World)(hw:EnvOK w):K.strings_Contains.Holds (cxD w):=by
 rintro args y ⟨⟨s,c⟩,r,ha,hg,rfl⟩
 obtain rfl:=Zi3 ha
 simp only[g.strings_Contains]at hg
 split at hg
 ·rename_i hc
  cases hg
  refine⟨.bool (decide (c.headD 0∈s)),false, ?_,rfl,fun h=>nomatch h⟩
  refine PC.pure (Zbq Tryz.func50 (by kernel_rfl) (by kernel_rfl)) fun W G φ xs hW hxs=> ?_
  obtain⟨x,y,rfl,hx,hy⟩:=Zps hxs
  obtain⟨t,rfl,rfl⟩:=Zcm hx
  obtain⟨u,rfl,hu⟩:=Zcm hy
  obtain⟨m,hm⟩:=hw.max.at hW
  have hsz:t.size<4294967281:=by rw[Lib.size_eq];exact hc.1
  refine(Tryz.strings_Contains t u m W hsz hm).mono fun e W' ⟨he,hW'⟩=> ?_
  subst hW'
  refine⟨_,he, .refl _ _,fun _ _=> ?_⟩
  have hu2:u.data.toList=[c.headD 0]:=by
   rw[hu]
   match c,hc.2 with
   | [b],_=>rfl
  rw[hu2]
  have e:decide (0<=Lib.index t.data.toList [c.headD 0])=decide (c.headD 0∈t.data.toList):=by
   have:=Zmu (c.headD 0) t.data.toList
   have hge:=Lib.index_ge t.data.toList [c.headD 0]
   rw[decide_eq_decide]
   constructor
   ·intro h;exact Classical.not_not.1 fun hn=>by have:=this.2 hn;omega
   ·intro h
    have:Lib.index t.data.toList [c.headD 0]≠ -1:=fun h'=>(this.1 h') h
    omega
  have e2:Lib.contains t.data.toList [c.headD 0]=decide (c.headD 0∈t.data.toList):=e
  rw[e2]
  exact .bool _
 ·cases hg
end Go.Proofs.YtegmegbanfkomaaGreatDoor
namespace Go.Proofs.YtegmegbanfkomaaGreatDoor
open Go.Abs
set_option maxRecDepth 10000
theorem Zaw (c:UInt8)(s:Bytes):Zad c s≠ []:=by
 cases s<;>grind[Zad]
def addH (cur:Bytes):List Bytes->List Bytes
 | []=> [cur]
 |x::xs=>(cur++x)::xs
theorem Zqt {l:List Bytes}(h:l≠ []):addH [] l=l:=by
 cases l with
 |nil=>grind
 |cons x xs=>rfl
theorem Znv (c:UInt8)(r cur:Bytes):addH cur (Zad c (c::r))=cur::Zad c r:=by simp[Zad,addH]
theorem Zn5 {c b:UInt8}(h:b≠c)(r cur:Bytes):addH cur (Zad c (b::r))=addH (cur++ [b]) (Zad c r):=by
 grind[Zad,addH]
theorem Zgi (c:UInt8)(b:Bytes):∀a:Bytes,Zad c (a++c::b)=Zad c a++Zad c b
 | []=>by simp[Zad]
 |x::a=>by
  have ih:=Zgi c b a
  simp only[Xb4,Zad]
  split
  ·rw[ih];rfl
  ·rw[ih]
   cases h:Zad c a with
   |nil=>exact absurd h (Zaw _ _)
   |cons y ys=>rfl
variable {e:Ev}
theorem v.hasPrefix0 (s p:Bytes):vl e 151 0 [.str s, .str p]=some (.bool (decide (s.take p.length=p))):=by
 rw[w2 s.zq9];unfold y.zq9
 by_cases h:p.length<=s.length
 ·simp_all[yy,Zh9]
 ·simp only[yy,if_neg (show ¬((p.length:Int)<=(s.length:Int))by omega)]
  exact Z7l fun h1=>by grind
theorem Z15 {s p:Bytes}(h:s.take p.length=p):p.length<=s.length:=by grind
theorem v.hasPrefix (s p:Bytes):vl e 109 0 [.str s, .str p]=some (.bool (decide (s.take p.length=p))):=by
 simp_all[w2 s.zq113,v.hasPrefix0,y.zq113]
theorem v.cutPrefix (s p:Bytes):vl e 65 0 [.str s, .str p]=some (.tup [.str (if s.take p.length=p then s.drop p.length else s), .bool (decide (s.take p.length=p))]):=by
 rw[w2 s.zq110];unfold y.zq110
 have h1:vl e 118 0 [.str s, .str p]=some (.tup [.str (if s.take p.length=p then s.drop p.length else s), .bool (decide (s.take p.length=p))]):=by
  rw[w2 s.zq7];unfold y.zq7
  by_cases h:s.take p.length=p<;>simp_all[yy,v.hasPrefix0,Zh6,Z15]
 simp_all[yy]
def inB (on:List Bytes)(t:Bytes):Bool:=decide (t∈on)
theorem Zsd (x t:Bytes)(on:List Bytes):inB (x::on) t=(decide (t=x)||inB on t):=by simp[inB]
theorem v.Contains (on:List Bytes)(t:Bytes)(hl:on.length<=1000000000):vl e 153 0 [strs on, .str t]=some (.bool (inB on t)):=by
 have key:∀(n i:Nat),i+n=on.length-> ∃r:Int,vl e 202 8 [strs on, .str t,I on.length,I i]=some (I r)/\(0<=r<->inB (on.drop i) t=true):=by
  intro n
  induction n with
  |zero=>
   intro i hi
   refine⟨-1, ?_, ?_⟩
   ·rw[w4 s.zq98_8];simp_all[yy,y.zq98_8]
   grind[inB]
  |succ n ih=>
   intro i hi
   have hlt:i<on.length:=by omega
   obtain⟨r,h1,h2⟩:=ih (i+1) (by omega)
   by_cases h:t=on[i]
   ·refine⟨i, ?_, ?_⟩
    ·rw[w4 s.zq98_8];simp_all[yy,Zdv,Zch,y.zq98_8]
    grind[List.drop_eq_getElem_cons,Zsd]
   ·refine⟨r, ?_, ?_⟩
    ·rw[w4 s.zq98_8];unfold y.zq98_8
     simp only[yy,if_pos (show(i:Int)<(on.length:Int)by omega),Zdv hlt,Zch,if_neg h,Zai hlt (by omega),h1]
    ·rw[Xah hlt,Zsd,decide_eq_false h,Xeq];exact h2
 obtain⟨r,h1,h2⟩:=key on.length 0 (by omega)
 rw[w2 s.zq94];unfold y.zq94
 have hI:vl e 202 0 [strs on, .str t]=some (I r):=by
  simp_all[w2 s.zq98,yy,y.zq98]
 simp_all[yy]
end Go.Proofs.YtegmegbanfkomaaGreatDoor
namespace Go.Proofs.YtegmegbanfkomaaGreatDoor
open Go.Abs Go.RowKit Go.Shelf Go.Sort
theorem Zv5 {W:World}{G φ}{nl:Bool}{l:List Bytes}{x:Value}(h:Rep W G φ (.sl nl 1 (l.map .str)) x):
  (x= .slice none 0 0/\l=[]) \/(∃a,x= .slice (some a) 0 0/\l=[]) \/ ∃(b off cap:Nat) (zs:List ByteArray),x= .slice (some ⟨b,off,none⟩) zs.length cap/\zs.map (·.data.toList)=l/\zs.length<=cap/\
   ∀j,j<zs.length->W.cell? ⟨b,off+j,none⟩=some (.string (zs.getD j ByteArray.empty)):=by
 generalize hv:l.map V.str=ys at h
 cases h with
 |slnil=>exact .inl ⟨rfl,Xd5.1 hv⟩
 |sl0 _ a=>exact .inr (.inl ⟨a,rfl,Xd5.1 hv⟩)
 |sl _ _ b off cap rd hcap hG hx hrd h=>
  subst hv
  right;right
  have hs:∀i s,l[i]? =some s-> ∃t:ByteArray,rd i= .string t/\t.data.toList=s:=by
   intro i s hi
   have:=h i (.str s) 0 (.str s) (by simp[hi]) rfl
   simp only[Xdn,Xea]at this
   obtain⟨t,h1,h2⟩:=Zcm this
   exact⟨t,h1,h2⟩
  refine⟨b,off,cap,(List.range l.length).map fun i=>match rd i with| .string t=>t|_=>ByteArray.empty,by simp, ?_,by simpa using hcap,fun j hj=> ?_⟩
  ·apply Xdv
   intro i
   rcases Xa6 i l.length with hi|hi
   ·obtain⟨t,h1,h2⟩:=hs i _ (Xad hi)
    simp[hi,h1,h2]
   ·simp[Nat.not_lt.2 hi,hi]
  ·have hj':j<l.length:=by simpa using hj
   obtain⟨t,h1,h2⟩:=hs j _ (Xad hj')
   rw[hrd j (by simpa using hj'),h1]
   simp[List.getD,hj',h1]
theorem Zt6 :∀{xs:List V} {l:List Bytes},nfL xs=l.map V.str->xs=l.map V.str
 | [],[],_=>rfl
 | [],_::_,h=>by simp[nfL]at h
 |_::_,[],h=>by simp[nfL]at h
 |x::xs,y::l,h=>by
  obtain⟨h1,h2⟩:=List.cons.inj (show x.nf::nfL xs=V.str y::l.map V.str from h)
  rw[Zdz h1,Zt6 h2];rfl
end Go.Proofs.YtegmegbanfkomaaGreatDoor
namespace Go.Proofs.YtegmegbanfkomaaGreatDoor
open Go.Abs Go.RowKit Go.Shelf Go.Sort
def fldB (q:UInt8->Bool):Bytes->Bytes->List Bytes
 | [],cur=>if cur=[]then []else [cur]
 |b::r,cur=>if q b then(if cur=[]then fldB q r []else cur::fldB q r [])else fldB q r (cur++ [b])
theorem Zqh {q:UInt8->Bool}{r:Bytes}:∀{xs cur:Bytes},(∀x∈xs,q x=false)->fldB q (xs++r) cur=fldB q r (cur++xs)
 | [],cur,_=>by simp
 |x::xs,cur,h=>by
  rw[Xb4,fldB,h x (by simp),if_neg (by simp),Zqh fun y hy=>h y (by simp[hy])];simp
theorem Zoy {n b0 b1 b2 b3:Nat}(hn:1<=n)(h0:128<=b0):128<=(Lib.decodeN n b0 b1 b2 b3).1/\1<=(Lib.decodeN n b0 b1 b2 b3).2/\(Lib.decodeN n b0 b1 b2 b3).2<=n/\(Lib.decodeN n b0 b1 b2 b3).2<=4/\
  (2<=(Lib.decodeN n b0 b1 b2 b3).2->128<=b1)/\(3<=(Lib.decodeN n b0 b1 b2 b3).2->128<=b2)/\(4<=(Lib.decodeN n b0 b1 b2 b3).2->128<=b3):=by
 unfold Lib.decodeN
 repeat' split
 all_goals (simp only;omega)
theorem Z3a {n b0 b1 b2 b3:Nat}(h0:b0<128):Lib.decodeN n b0 b1 b2 b3=(b0,1):=by unfold Lib.decodeN;rw[if_pos h0]
def Zwm (s:Bytes)(x:Nat×Nat):Bytes:=(s.take x.2).drop x.1
theorem Zc2 {p:Nat->Bool}{q:UInt8->Bool}(hq:∀b:UInt8,q b=(decide (b.toNat<128)&&p b.toNat))(hp:∀r,128<=r->p r=false)(s:ByteArray)(L:Bytes)(hL:s.data.toList=L)(hsz:s.size=L.length):
  ∀(f pos:Nat) (st:Option Nat) (acc:List (Nat×Nat)),pos<=s.size->s.size<=f+pos->(∀a,st=some a->a<pos)->
   (Lib.closeSpans s (Lib.spansFromP p s f pos st acc)).map (Zwm L)=acc.map (Zwm L)++fldB q (L.drop pos) (match st with|some a=>(L.take pos).drop a|none=> [])
 |0,pos,st,acc,h1,h2,h3=>by
  have e:pos=s.size:=by omega
  subst e
  rw[hsz,List.drop_length,Xei]
  simp only[Lib.spansFromP,Lib.closeSpans]
  cases st with
  |none=>simp[fldB]
  |some a=>
   have ha:=h3 a rfl
   rw[hsz]at ha
   have:L.drop a≠ []:=fun e=>by have:=congrArg List.length e;rw[Xc7,Xa2]at this;omega
   simp only[Xel,Xan,Xa9,Zwm,fldB,if_neg this,hsz,Xei]
 |f+1,pos,st,acc,h1,h2,h3=>by
  unfold Lib.spansFromP
  have e1:(L.take pos).drop pos=[]:=Xas (by simp;omega)
  by_cases hlt:pos<s.size
  ·rw[if_pos hlt]
   have hltl:pos<L.length:=by rw[<-hsz];exact hlt
   have hg:∀k (hk:pos+k<L.length),L.getD (pos+k) 0=L[pos+k]:=fun k hk=>by simp[List.getD,hk]
   have hd:=Lib.decode_N s pos
   rw[hL]at hd
   by_cases hb:L[pos].toNat<128
   ·have hdec:Utf8.decode s pos=(L[pos].toNat,1):=by
     have h0:L.getD pos 0=L[pos]:=hg 0 hltl
     rw[hd,h0];exact Z3a hb
    have hqb:q L[pos]=p L[pos].toNat:=by rw[hq,decide_eq_true hb,Bool.true_and]
    rw[hdec,Xah hltl,fldB,hqb]
    simp only
    cases hpb:p L[pos].toNat
    ·simp only[Xat,if_false]
     cases st with
     |none=>
      rw[Zc2 hq hp s L hL hsz f (pos+1) (some pos) acc (by omega) (by omega) (fun a h=>by cases h;omega)]
      simp only[Xbl]
      rw[List.take_add_one,Xad hltl,Xbw (by simp;omega),e1];rfl
     |some a=>
      have ha:=h3 a rfl
      rw[Zc2 hq hp s L hL hsz f (pos+1) (some a) acc (by omega) (by omega) (fun a' h=>by cases h;omega)]
      simp only
      rw[List.take_add_one,Xad hltl,Xbw (by simp;omega)];rfl
    ·simp only[if_true]
     cases st with
     |none=>rw[Zc2 hq hp s L hL hsz f (pos+1) none acc (by omega) (by omega) (fun a h=>by cases h)];simp
     |some a=>
      have ha:=h3 a rfl
      have hne:(L.take pos).drop a≠ []:=fun e=>by have:=congrArg List.length e;rw[Xc7,Xbd,Xa2]at this;omega
      rw[Zc2 hq hp s L hL hsz f (pos+1) none _ (by omega) (by omega) (fun a h=>by cases h),if_neg hne]
      simp[Zwm]
   ·have hb':128<=L[pos].toNat:=by omega
    obtain⟨k1,k2,k3,k4,k5,k6,k7⟩:=Zoy (n:=L.length-pos) (b0:=(L.getD pos 0).toNat) (b1:=(L.getD (pos+1) 0).toNat) (b2:=(L.getD (pos+2) 0).toNat) (b3:=(L.getD (pos+3) 0).toNat) (by omega) (by have h0:L.getD pos 0=L[pos]:=hg 0 hltl;rw[h0];exact hb')
    rw[<-hd]at k1 k2 k3 k4 k5 k6 k7
    generalize hw:(Utf8.decode s pos).2=w at k2 k3 k4 k5 k6 k7⊢
    generalize hr:(Utf8.decode s pos).1=r at k1⊢
    rw[hp r k1,if_neg (by simp)]
    have hall:∀x∈(L.drop pos).take w,q x=false:=by
     intro x hx
     obtain⟨j,hj,rfl⟩:=List.getElem_of_mem hx
     simp only[Xbd,Xc7]at hj
     simp only[List.getElem_take,List.getElem_drop]
     have h128:128<=L[pos+j].toNat:=by
      match j,hj with
      |0,_=>exact hb'
      |1,hj=>have:=k5 (by omega);rw[hg 1 (by omega)]at this;exact this
      |2,hj=>have:=k6 (by omega);rw[hg 2 (by omega)]at this;exact this
      |3,hj=>have:=k7 (by omega);rw[hg 3 (by omega)]at this;exact this
      |j+4,hj=>omega
     rw[hq,decide_eq_false (by omega)];rfl
    have hsp:L.drop pos=(L.drop pos).take w++L.drop (pos+w):=by
     rw[<-Xcn,Xa8]
    have htk:L.take (pos+w)=L.take pos++(L.drop pos).take w:=List.take_add
    cases st with
    |none=>
     simp only
     rw[Zc2 hq hp s L hL hsz f (pos+w) (some pos) acc (by omega) (by omega) (fun a h=>by cases h;omega)]
     rw[hsp,Zqh hall]
     simp only
     rw[htk,Xbw (by simp;omega),e1]
    |some a=>
     have ha:=h3 a rfl
     simp only
     rw[Zc2 hq hp s L hL hsz f (pos+w) (some a) acc (by omega) (by omega) (fun a' h=>by cases h;omega)]
     rw[hsp,Zqh hall]
     simp only
     rw[htk,Xbw (by simp;omega)]
  ·rw[if_neg hlt]
   have e:pos=s.size:=by omega
   have:=Zc2 hq hp s L hL hsz 0 pos st acc h1 (by omega) h3
   simp only[Lib.spansFromP]at this
   exact this
theorem Zqf {p:Nat->Bool}{q:UInt8->Bool}(hq:∀b:UInt8,q b=(decide (b.toNat<128)&&p b.toNat))(hp:∀r,128<=r->p r=false)(s:ByteArray):
  (Lib.goFieldsP p s).map (·.data.toList)=fldB q s.data.toList []:=by
 have:=Zc2 hq hp s _ rfl (Lib.size_eq s) s.size 0 none [] (Xbz _) (by omega) (fun a h=>by cases h)
 simp only[Xa9,Xbl,Xbq]at this
 rw[<-this]
 unfold Lib.goFieldsP Lib.spansOfP
 rw[Xcg]
 apply Xc5
 intro x _
 simp only[Function.comp,Zwm,Lib.extract_data,List.drop_take]
theorem Zun {cx:Cx}{f:FuncId}{args:List V}{l:List Bytes}(hc:Zez cx.P f)
  (h:∀W G φ xs,OKW cx W G->RepL W G φ args xs->Calls cx.P f xs W fun e W'=> ∃(ss:List ByteArray) (A:Nat),ss.map (·.data.toList)=l/\e= .returned (.slice (some ⟨A,0,none⟩) ss.length ss.length)/\W.heap.size<=A/\
   W'.ownsRow W.heap.size 9 1 (.slice (some ⟨A,0,none⟩) ss.length ss.length) ss.length (ss.map .string)/\Below W.heap.size W W'):
  PC cx f args (.sl false 1 (l.map .str),true):=by
 refine .of hc fun W G φ xs hW hxs=>(h W G φ xs hW hxs).mono fun e W'=> ?_
 rintro⟨ss,A,rfl,rfl,hA,hown,hB⟩
 obtain⟨g,cap,he,hb,hlt,hn,hm,hlen,hH⟩:=Lib.holds_of_ownsRow (enc:=Value.string) (zs:=ss) hown (by simp)
 cases he
 refine⟨fun b=>if b=A then ss.length else G b,_,rfl,hB,fun b hb=>if_neg (by omega),fun b hb=> ?_, ?_,fun _ ow q how sz ys b off len cap sp hv hx=> ?_⟩
 ·dsimp only;rw[if_neg (by omega)];exact hW.Gz b (Xba hB.size hb)
 ·have:=Rep.sl (W:=W') (G:=fun b=>if b=A then ss.length else G b) (φ:=φ) 1 ((ss.map (·.data.toList)).map V.str) A 0 ss.length (fun k=> .string (ss.getD k default)) (by simp) (by simp) (fun x hx=> ?_) (fun k hk=> ?_) (fun i x j c hi hj=> ?_)
  ·simpa using this
  ·obtain⟨s,_,rfl⟩:=Xa7.1 hx;simp
  ·simp at hk
   rw[(hH k (by simpa using hk)).1]
   simp[List.getD,hk,getElem!_pos]
  ·simp only[Xcg,Xbe,Xaa]at hi
   obtain⟨s,hs,rfl⟩:=hi
   cases j with
   |zero=>simp at hj;subst hj;simp[List.getD,hs];exact .str _ _ rfl
   |succ j=>simp at hj
 ·cases hx;exact .inl rfl
theorem Z45 {v:V}{f:Nat}(h:v.nf= .fn f []):v= .fn f []:=by
 obtain⟨cs,rfl,hc⟩:=Z10 h
 rw[Zhc hc]
def g.strings_Join (l:List Bytes)(s:Bytes):Option Bytes:=
 if l.length<=1000000000/\(Lib.join l s).length<=140737488355328 then some (Lib.join l s)else none
def K.strings_Join :FC:=fc 99 (fun _=>true) false (fun(a:List Bytes×Bytes)=> [V.sl false 1 (a.1.map .str),V.str a.2]) (fun(y:Bytes)=> .str y) (fun a=>g.strings_Join a.1 a.2)
 (fun l=>Zeg (Zfw (fun _=>rfl) l.1) rfl) (fun _=>rfl) (fun⟨a,b⟩ ⟨c,d⟩ h=>by
  obtain⟨h1,h2⟩:=List.cons.inj h
  simp only[V.sl.injEq,true_and]at h1
  have h3:=V.str.inj (List.cons.inj h2).1
  have h4:a=c:=Z3r (fun x y h=>V.str.inj h) h1
  simp only at h3
  rw[h4,h3])
theorem H.strings_Join (w:World)(_hw:EnvOK w):K.strings_Join.Holds (cxD w):=by
 rintro args y ⟨⟨l,s⟩,r,ha,hg,rfl⟩
 obtain⟨u,v,rfl,h1,h2⟩:=Zd0 ha
 obtain⟨u',v',rfl,h3,h4⟩:=Zd0 h2
 obtain rfl:=Zhc h4
 obtain rfl:=Zdz h3
 simp only[g.strings_Join]at hg
 split at hg
 ·rename_i hc
  cases hg
  obtain⟨nl,rfl⟩:∃nl,u= .sl nl 1 (l.map .str):=by
   obtain⟨nl,xs,rfl,h3,_⟩:=Qbm h1
   exact⟨nl,by rw[Zt6 h3]⟩
  refine⟨.str _,false, ?_,rfl,fun h=>nomatch h⟩
  refine PC.pure (Zbq Tryz.func99 (by kernel_rfl) (by kernel_rfl)) fun W G φ xs hW hxs=> ?_
  obtain⟨x,y,rfl,hx,hy⟩:=Zps hxs
  obtain⟨t,rfl,rfl⟩:=Zcm hy
  have hnone:∀(a:Option Addr),l=[]->Calls Tryz.prog 99 #[.slice a 0 0, .string t] W fun e W'=> ∃y,e= .returned y/\Below W.heap.size W W'/\ ∀(W'':World) (G':Nat->Nat),Rep W'' G' φ (.str (Lib.join l t.data.toList)) y:=by
   rintro a rfl
   refine(Tryz.strings_Join_none a 0 t W).mono fun e W'=> ?_
   rintro⟨rfl,rfl⟩
   exact⟨_,rfl, .refl _ _,fun _ _=> .str _ _ rfl⟩
  rcases Zv5 hx with⟨rfl,e⟩|⟨a,rfl,e⟩|⟨b,off,cap,zs,rfl,hz,hcc,hcells⟩
  ·exact hnone none e
  ·exact hnone _ e
  ·have hlz:zs.length=l.length:=by rw[<-hz];simp
   rcases Xcu zs.length with h0|h0
   ·have e:l=[]:=Xa0 (by omega)
    have ez:zs=[]:=Xa0 h0
    subst e;subst ez
    refine(Tryz.strings_Join_none _ cap t W).mono fun e W'=> ?_
    rintro⟨rfl,rfl⟩
    exact⟨_,rfl, .refl _ _,fun _ _=> .str _ _ rfl⟩
   ·have hb:b<W.heap.size:=by
     have:=hcells 0 h0
     rcases Xa6 b W.heap.size with h|h
     ·exact h
     ·simp[World.cell?,Array.getElem?_eq_none h]at this
    refine(Tryz.strings_Join b off cap zs t W (fun j x hj=> ?_) hb (by omega) hcc (by rw[hz];exact hc.2)).mono fun e W'=> ?_
    ·rw[hcells j (Xak.1 hj).1];simp[List.getD,hj]
    ·rintro⟨rfl,hB⟩
     exact⟨_,rfl,hB,fun _ _=> .str _ _ (by rw[hz])⟩
 ·cases hg
end Go.Proofs.YtegmegbanfkomaaGreatDoor
namespace Go.Proofs.YtegmegbanfkomaaGreatDoor
open Go.Abs
set_option maxRecDepth 10000
variable {e:Ev}
abbrev Fi :=Bytes×Bytes
abbrev fv (f:Fi):V:= .agg [.str f.1, .str f.2]
def fl :List Fi->List V
 | []=> []
 |f::r=> .str f.1:: .str f.2::fl r
abbrev aggF (l:List Fi):V:= .agg (fl l)
abbrev Zac (l:List Fi):V:= .sl false 2 (l.map fv)
theorem Zuu :∀l:List Fi,(fl l).length=2*l.length
 | []=>rfl
 |f::r=>by simp only[fl,Xaq,Zuu r];omega
theorem Zz5 :∀l m:List Fi,fl (l++m)=fl l++fl m
 | [],m=>rfl
 |f::r,m=>by simp only[Xb4,fl,Zz5 r m]
theorem Zix :∀(l:List Fi) (i:Nat),(fl l).drop (i*2)=fl (l.drop i)
 |l,0=>by simp
 | [],i+1=>by simp[fl]
 |f::r,i+1=>by
  have:=Zix r i
  rw[show(i+1)*2=i*2+1+1 by omega]
  simpa only[fl,List.drop_succ_cons]using this
theorem Zui :∀(l:List Fi) (i:Nat),(fl l).take (i*2)=fl (l.take i)
 |l,0=>by simp[fl]
 | [],i+1=>by simp[fl]
 |f::r,i+1=>by
  have:=Zui r i
  rw[show(i+1)*2=i*2+1+1 by omega]
  simp only[fl,Xc6,this]
theorem Zd1 {l:List Fi}{i:Nat}(h:i<l.length):evp (.ldd (some 2) 0 2) [aggF l,I i]=some (fv l[i]):=by
 show Zak (some 2) (fl l) (0+(i:Int).toNat*2)=_
 have hd:(fl l).drop (i*2)= .str l[i].1:: .str l[i].2::fl (l.drop (i+1)):=by rw[Zix,Xah h];rfl
 simp only[Zak,Xc0,Xao]
 grind[Zuu]
theorem Z0n {l:List Fi}{i:Nat}(h:i<l.length):evp (.ldd none 0 2) [aggF l,I i]=some (.str l[i].1):=by
 show(fl l)[0+(i:Int).toNat*2]? =_
 have hd:(fl l).drop (i*2)= .str l[i].1:: .str l[i].2::fl (l.drop (i+1)):=by rw[Zix,Xah h];rfl
 have:=congrArg (fun z=>z[0]?) hd
 grind
theorem Z49 {l:List Fi}{i:Nat}(h:i<l.length):evp (.ldd none 1 2) [aggF l,I i]=some (.str l[i].2):=by
 show(fl l)[1+(i:Int).toNat*2]? =_
 have hd:(fl l).drop (i*2)= .str l[i].1:: .str l[i].2::fl (l.drop (i+1)):=by rw[Zix,Xah h];rfl
 have:=congrArg (fun z=>z[1]?) hd
 grind
theorem Zmx {l:List Fi}{i:Nat}{x:Fi}(h:i<l.length):evp (.std 2 0 2) [aggF l,I i,fv x]=some (aggF (l.set i x)):=by
 show vSet 2 (0+(i:Int).toNat*2) (aggF l) (fv x)=_
 unfold vSet
 rw[if_pos ⟨rfl,rfl,by grind[Zuu,V.cells]⟩]
 simp only[V.cells,Xao,Xc0,Zas,Xaq,Xa2]
 rw[Zui,show i*2+(0+1+1)=(i+1)*2 by omega,Zix,Xb9,if_pos h,aggF,Zz5];grind[fl]
theorem Zer {a b:Nat}(h:a+b<=1152921504606846976):IntKind.i64.wrap ((a:Int)+(b:Int))=((a+b:Nat):Int):=by
 grind[w64]
theorem Ze5 {a b:Nat}(hb:b<=a)(h:a<=1152921504606846976):IntKind.i64.wrap ((a:Int)-(b:Int))=((a-b:Nat):Int):=by
 rw[<-Int.ofNat_sub hb];grind[w64]
theorem Zi1 {a:Nat}(hb:1<=a)(h:a<=1152921504606846976):IntKind.i64.wrap ((a:Int)-1)=((a-1:Nat):Int):=Ze5 (b:=1) hb h
theorem Z56 {a b:Nat}(h:a*b<=1152921504606846976):IntKind.i64.wrap ((a:Int)*(b:Int))=((a*b:Nat):Int):=by
 grind[w64]
theorem Zp0 {a:Nat}(h:a<=1152921504606846976):evp (.i2i .u64) [I a]=some (.int .u64 a):=by
 show some (V.int .u64 (IntKind.u64.wrap a))=_
 grind[IntKind.wrap,IntKind.bits]
theorem Zi9 {a:Nat}:evp (.bin .shr .no) [.int .u64 (a:Int), .int .u64 1]=some (.int .u64 ((a/2:Nat):Int)):=by
 show(if(1:Int)<0 then none else some (V.int .u64 (Int.fdiv (a:Int) 2)))=_
 grind
theorem Zqo {a:Nat}(h:a<=1152921504606846976):evp (.i2i .i64) [.int .u64 (a:Int)]=some (I a):=by
 show some (V.int .i64 (IntKind.i64.wrap a))=_
 grind[w64]
theorem Zqs {α:Type}{p:List α->Prop}(h0:p [])(h1:∀l x,p l->p (l++ [x]))(l:List α):p l:=by
 rw[<-List.reverse_reverse l]
 generalize l.reverse=m
 induction m<;>grind
structure Ord (e:Ev)(G:Fi->Prop)(cmp:Fi->Fi->Int):Prop where
 run:∀a b,G a->G b->Ze4 (vl e) (.fn 91 []) [fv a,fv b]=some (I (cmp a b))
 asy:∀a b,cmp a b<0-> ¬cmp b a<0
 tr:∀a b c,¬cmp b a<0-> ¬cmp c b<0-> ¬cmp c a<0
abbrev Le (cmp:Fi->Fi->Int)(a b:Fi):Prop:= ¬cmp b a<0
abbrev So (cmp:Fi->Fi->Int)(l:List Fi):Prop:=l.Pairwise (Le cmp)
abbrev cmpV :V:= .fn 91 []
section
variable {G:Fi->Prop}{cmp:Fi->Fi->Int}(ho:Ord e G cmp)
include ho
theorem Z3q {a b c:Fi}(h1:cmp a b<0)(h2:Le cmp b c):cmp a c<0:=by
 by_cases h:cmp a c<0
 ·exact h
 ·exact absurd h1 (ho.tr b c a h2 h)
theorem Zq9 {a b c:Fi}(h1:Le cmp a b)(h2:cmp b c<0):cmp a c<0:=by
 by_cases h:cmp a c<0
 ·exact h
 ·exact absurd h2 (ho.tr c a b h h1)
theorem v.ins17 (pre:List Fi)(b:Nat)(hb:b<=1000000000)(i n:Nat):∀(T1 T2 rest:List Fi) (x:Fi),(∀f∈pre++(T1++x::T2)++rest,G f)->So cmp (T1++T2)->(∀t∈T2,cmp x t<0)->(pre++(T1++x::T2)++rest).length=n->n<=1000000000->i<=1000000000->
  ∃S,S.Perm (T1++x::T2)/\So cmp S/\vl e 12945 17 [I n,I pre.length,I b,cmpV,I i,I (pre.length+T1.length:Nat),aggF (pre++(T1++x::T2)++rest)]=vl e 12945 5 [I n,I pre.length,I b,cmpV,I (i+1:Nat),aggF (pre++S++rest)]:=by
 intro T1
 induction T1 using Zqs with
 |h0=>
  intro T2 rest x hG hs hx hn hn2 hi
  refine⟨x::T2,by simp, ?_, ?_⟩
  ·rw[Xbl]at hs
   exact Xby.2 ⟨fun t ht=>ho.asy _ _ (hx t ht),hs⟩
  ·rw[w7 s.zq100_h1_17];unfold y.zq100_h1_17
   simp only[yy,if_neg (show ¬((pre.length:Int)<((pre.length+0:Nat):Int))by omega),Xa2,Zai (show i<i+1 by omega) (by omega)]
   rfl
 |h1 T1 u ih=>
  intro T2 rest x hG hs hx hn hn2 hi
  have hlen:=hn
  simp only[Xaf,Xaq,Xa2]at hlen
  have hj:pre.length+(T1.length+1)<(pre++((T1++ [u])++x::T2)++rest).length:=by rw[hn];omega
  have gx:(pre++((T1++ [u])++x::T2)++rest)[pre.length+(T1.length+1)]'hj=x:=by
   simp_all
  have gy:(pre++((T1++ [u])++x::T2)++rest)[pre.length+T1.length]'(by omega)=u:=by
   simp_all
  have hc:=ho.run x u (hG x (by simp)) (hG u (by simp))
  have e1:(pre.length+(T1.length+1):Nat)-1=pre.length+T1.length:=by omega
  have c1:evp .chkd [I n,I (pre.length+(T1.length+1):Nat)]=some (I (pre.length+(T1.length+1):Nat)):=Zaz (by omega)
  have c2:evp .chkd [I n,I (pre.length+T1.length:Nat)]=some (I (pre.length+T1.length:Nat)):=Zaz (by omega)
  have l1:evp (.ldd (some 2) 0 2) [aggF (pre++((T1++ [u])++x::T2)++rest),I (pre.length+(T1.length+1):Nat)]=some (fv x):=by rw[Zd1 hj,gx]
  have l2:evp (.ldd (some 2) 0 2) [aggF (pre++((T1++ [u])++x::T2)++rest),I (pre.length+T1.length:Nat)]=some (fv u):=by rw[Zd1 (by omega),gy]
  have p1:IntKind.i64.wrap (((pre.length+(T1.length+1):Nat):Int)-1)=((pre.length+T1.length:Nat):Int):=by rw[Zi1 (by omega) (by omega),e1]
  rw[w7 s.zq100_h1_17];unfold y.zq100_h1_17
  simp only[Xaf,Xaq,Xa2,Xao]at*
  by_cases hlt:cmp x u<0
  ·have s1:evp (.std 2 0 2) [aggF (pre++((T1++ [u])++x::T2)++rest),I (pre.length+(T1.length+1):Nat),fv u]=some (aggF (pre++((T1++ [u])++u::T2)++rest)):=by
    rw[Zmx hj];simp_all
   have s2:evp (.std 2 0 2) [aggF (pre++((T1++ [u])++u::T2)++rest),I (pre.length+T1.length:Nat),fv x]=some (aggF (pre++(T1++x::(u::T2))++rest)):=by
    rw[Zmx (by simp)];simp_all
   obtain⟨S,q1,q2,q3⟩:=ih (u::T2) rest x (fun f hf=>hG f (by grind)) (by simpa using hs) (fun t ht=>by
    grind) (by simp;omega) hn2 hi
   refine⟨S,q1.trans (by simp only[Xar,Xci];exact(List.Perm.swap u x T2).append_left T1),q2, ?_⟩
   simp only[yy,if_pos (show(pre.length:Int)<((pre.length+(T1.length+1):Nat):Int)by omega),c1,c2,l1,l2,p1,cv,hc,if_pos hlt,s1,s2]
   exact q3
  ·refine⟨(T1++ [u])++x::T2, .refl _, ?_, ?_⟩
   ·simp only[So,Xar,Xci]at hs⊢
    have h1:=Xbs.1 hs
    have h2:=Xby.1 h1.2.1
    refine Xbs.2 ⟨h1.1,Xby.2 ⟨fun t ht=> ?_,Xby.2 ⟨fun t ht=>ho.asy _ _ (hx t ht),h2.2⟩⟩,fun a ha t ht=> ?_⟩
    ·grind
    ·have hay:Le cmp a u:=h1.2.2 a ha u (by simp)
     rcases Xap.1 ht with rfl|ht
     ·exact hay
     ·rcases Xap.1 ht with rfl|ht
      ·exact ho.tr _ _ _ hay hlt
      grind
   ·simp only[yy,if_pos (show(pre.length:Int)<((pre.length+(T1.length+1):Nat):Int)by omega),c1,c2,l1,l2,p1,cv,hc,if_neg hlt,Zai (show i<i+1 by omega) (by omega)]
theorem v.ins5 (pre:List Fi)(b:Nat)(hb:b<=1000000000)(n:Nat)(hn2:n<=1000000000):∀(rest T post:List Fi),(∀f∈pre++(T++rest)++post,G f)->So cmp T->(pre++(T++rest)++post).length=n->pre.length+(T++rest).length=b->
  ∃S,S.Perm (T++rest)/\So cmp S/\vl e 12945 5 [I n,I pre.length,I b,cmpV,I (pre.length+T.length:Nat),aggF (pre++(T++rest)++post)]=some (aggF (pre++S++post)):=by
 intro rest
 induction rest with
 |nil=>
  intro T post hG hs hn hl
  refine⟨T,by simp,hs, ?_⟩<;>grind[w6 s.zq100_h1_5,yy,y.zq100_h1_5]
 |cons x rest ih=>
  intro T post hG hs hn hl
  simp only[Xaf,Xaq]at hl
  have hlen:=hn
  simp only[Xaf,Xaq]at hlen
  have e0:pre++(T++x::rest)++post=pre++(T++x:: [])++(rest++post):=by simp
  obtain⟨S,q1,q2,q3⟩:=v.ins17 ho pre b hb (pre.length+T.length) n T [] (rest++post) x (by grind) (by simpa using hs) (by simp) (by grind) hn2 (by omega)
  have hSl:S.length=T.length+1:=by rw[q1.length_eq];simp
  have e1:pre++S++(rest++post)=pre++(S++rest)++post:=by simp
  have hp:(S++rest).Perm (T++x::rest):=(q1.append_right rest).trans (by simp)
  obtain⟨S',r1,r2,r3⟩:=ih S post (fun f hf=>hG f (by
   grind)) q2 (by grind) (by grind)
  refine⟨S',r1.trans hp,r2, ?_⟩
  rw[w6 s.zq100_h1_5];unfold y.zq100_h1_5
  simp only[yy,if_pos (show((pre.length+T.length:Nat):Int)<(b:Int)by omega)]
  rw[e0,q3,e1,show pre.length+T.length+1=pre.length+S.length by omega]
  exact r3
theorem v.ins (pre T post:List Fi)(hG:∀f∈pre++T++post,G f)(hn2:(pre++T++post).length<=1000000000)(hT:T≠ []):
  ∃S,S.Perm T/\So cmp S/\vl e 12945 1 [I (pre++T++post).length,I pre.length,I (pre.length+T.length:Nat),cmpV,aggF (pre++T++post)]=some (aggF (pre++S++post)):=by
 cases T with
 |nil=>grind
 |cons x r=>
  have hl:(pre++x::r++post).length=pre.length+(r.length+1)+post.length:=by simp;omega
  obtain⟨S,q1,q2,q3⟩:=v.ins5 ho pre (pre.length+(x::r).length) (by simp;omega) _ hn2 r [x] post (by simpa using hG) (by simp[So]) (by simp) (by simp)
  refine⟨S,by simpa using q1,q2, ?_⟩
  rw[w5 s.zq100_h1];unfold y.zq100_h1
  simp only[yy,Zai (show pre.length<pre.length+1 by omega) (by omega)]
  simpa using q3
end
end Go.Proofs.YtegmegbanfkomaaGreatDoor
namespace Go.Proofs.YtegmegbanfkomaaGreatDoor
open Go.Abs
set_option maxRecDepth 10000
variable {e:Ev}
theorem v.swp5 (n a b c:Nat)(hn2:n<=1000000000)(hb:b<=1000000000)(hc:c<=1000000000)(ha:a<=1000000000):∀(X Y pre mid post:List Fi) (i:Nat),X.length=Y.length->i+X.length=c->a+i=pre.length->b+i=pre.length+X.length+mid.length->(pre++X++mid++Y++post).length=n->
  vl e 14497 5 [I n,I a,I b,I c,I i,aggF (pre++X++mid++Y++post)]=some (aggF (pre++Y++mid++X++post)):=by
 intro X
 induction X with
 |nil=>
  intro Y pre mid post i hxy hi hai hbi hn
  have:Y=[]:=Xa0 hxy.symm
  subst this
  simp only[Xa2]at*
  rw[w6 s.zq103_h1_5];simp_all[yy,y.zq103_h1_5]
 |cons x X ih=>
  intro Y pre mid post i hxy hi hai hbi hn
  match Y,hxy with
  |u::Y,hxy=>
  simp only[Xaq,Nat.add_right_cancel_iff]at hxy
  simp only[Xaf,Xaq]at hn hi hbi
  have hA:a+i<(pre++x::X++mid++u::Y++post).length:=by simp;omega
  have hB:b+i<(pre++x::X++mid++u::Y++post).length:=by simp;omega
  have gx:(pre++x::X++mid++u::Y++post)[a+i]'hA=x:=by
   simp_all
  have gu:(pre++x::X++mid++u::Y++post)[b+i]'hB=u:=by
   rw[Xck (show pre++x::X++mid++u::Y++post=(pre++x::X++mid)++u::(Y++post)by simp)]
   rw[Xcf (by simp;omega)]
   simp only[Xaf,Xaq]
   simp_all
  have c1:evp .chkd [I n,I (b+i:Nat)]=some (I (b+i:Nat)):=Zaz (by omega)
  have c2:evp .chkd [I n,I (a+i:Nat)]=some (I (a+i:Nat)):=Zaz (by omega)
  have l1:evp (.ldd (some 2) 0 2) [aggF (pre++x::X++mid++u::Y++post),I (b+i:Nat)]=some (fv u):=by rw[Zd1 hB,gu]
  have l2:evp (.ldd (some 2) 0 2) [aggF (pre++x::X++mid++u::Y++post),I (a+i:Nat)]=some (fv x):=by rw[Zd1 hA,gx]
  have s1:evp (.std 2 0 2) [aggF (pre++x::X++mid++u::Y++post),I (a+i:Nat),fv u]=some (aggF (pre++u::X++mid++u::Y++post)):=by
   simp_all[Zmx]
  have s2:evp (.std 2 0 2) [aggF (pre++u::X++mid++u::Y++post),I (b+i:Nat),fv x]=some (aggF ((pre++ [u])++X++(mid++ [x])++Y++post)):=by
   rw[Zmx (by simp;omega)];congr 3
   rw[show pre++u::X++mid++u::Y++post=(pre++u::X++mid)++u::(Y++post)by simp,Xdf _ _ (by simp;omega)]
   simp only[Xaf,Xaq]
   simp_all
  have:=ih Y (pre++ [u]) (mid++ [x]) post (i+1) hxy (by omega) (by simp;omega) (by simp;omega) (by simp;omega)
  rw[w6 s.zq103_h1_5];unfold y.zq103_h1_5
  simp only[yy,if_pos (show(i:Int)<(c:Int)by omega),Zer (show a+i<=_ by omega),Zer (show b+i<=_ by omega),c1,c2,l1,l2,s1,s2,Zai (show i<i+1 by omega) (by omega)]
  simp_all
theorem v.swp (X Y pre mid post:List Fi)(q:V)(hxy:X.length=Y.length)(n:Nat)(hn:n=(pre++X++mid++Y++post).length)(hn2:n<=1000000000)(a b c:Nat)(ha:a=pre.length)(hb:b=pre.length+X.length+mid.length)(hc:c=X.length):
  vl e 14497 1 [I n,I a,I b,I c,q,aggF (pre++X++mid++Y++post)]=some (aggF (pre++Y++mid++X++post)):=by
 have hl:=hn
 simp only[Xaf]at hl
 rw[w6 s.zq103_h1];unfold y.zq103_h1
 exact v.swp5 n a b c hn2 (by omega) (by omega) (by omega) X Y pre mid post 0 hxy (by omega) (by omega) (by omega) hn.symm
theorem Zgr {α:Type}(l:List α)(k:Nat):l=l.take k++l.drop k:=(Xa8 k l).symm
theorem v.rotF8 (n m:Nat)(q:V)(hn2:n<=1000000000):∀(k:Nat) (U W pre suf:List Fi),U.length+W.length<=k->0<U.length->0<W.length->pre.length+U.length=m->(pre++U++W++suf).length=n->
  vl e 13761 8 [I n,I m,q,I U.length,I W.length,aggF (pre++U++W++suf)]=some (aggF (pre++W++U++suf)):=by
 intro k
 induction k with
 |zero=>omega
 |succ k ih=>
  intro U W pre suf hk hu hw hm hn
  have hl:=hn
  simp only[Xaf]at hl
  rw[w6 s.zq101_h1_8];unfold y.zq101_h1_8
  rcases Xbk U.length W.length with h|h|h
  ·--the part behind is longer
   obtain⟨W1,W2,rfl,hW2⟩:∃W1 W2,W=W1++W2/\W2.length=U.length:=⟨W.take (W.length-U.length),W.drop (W.length-U.length),Zgr _ _,by simp;omega⟩
   simp only[Xaf]at*
   have hs:=v.swp (e:=e) U W2 pre W1 suf q (by omega) n (by simp;omega) hn2 (m-U.length) (m+(W1.length+W2.length)-U.length) U.length (by omega) (by omega) rfl
   have:=ih W2 W1 pre (U++suf) (by omega) (by omega) (by omega) (by omega) (by simp;omega)
   simp only[yy,if_neg (show ¬((U.length:Int)=((W1.length+W2.length:Nat):Int))by omega),if_neg (show ¬(((W1.length+W2.length:Nat):Int)<(U.length:Int))by omega),Ze5 (show U.length<=m by omega) (by omega),Zer (show m+(W1.length+W2.length)<=_ by omega),Ze5 (show U.length<=m+(W1.length+W2.length)by omega) (by omega),Ze5 (show U.length<=W1.length+W2.length by omega) (by omega)]
   simp_all
  ·have hs:=v.swp (e:=e) U W pre [] suf q h n (by grind) hn2 (m-U.length) m U.length (by omega) (by simp;omega) rfl
   simp only[Xax]at hs
   simp only[yy,if_pos (show(U.length:Int)=(W.length:Int)by omega),Ze5 (show U.length<=m by omega) (by omega)]
   rw[hs];rfl
  ·obtain⟨U1,U2,rfl,hU1⟩:∃U1 U2,U=U1++U2/\U1.length=W.length:=⟨U.take W.length,U.drop W.length,Zgr _ _,by simp;omega⟩
   simp only[Xaf]at*
   have hs:=v.swp (e:=e) U1 W pre U2 suf q (by omega) n (by simp;omega) hn2 (m-(U1.length+U2.length)) m W.length (by omega) (by omega) (by omega)
   have:=ih U2 U1 (pre++W) suf (by omega) (by omega) (by omega) (by simp;omega) (by simp;omega)
   simp only[yy,if_neg (show ¬(((U1.length+U2.length:Nat):Int)=(W.length:Int))by omega),if_pos (show((W.length:Nat):Int)<((U1.length+U2.length:Nat):Int)by omega),Ze5 (show U1.length+U2.length<=m by omega) (by omega),Ze5 (show W.length<=U1.length+U2.length by omega) (by omega)]
   simp_all
theorem v.rotF (n a m b:Nat)(q:V)(hn2:n<=1000000000)(U W pre suf:List Fi)(hu:U≠ [])(hw:W≠ [])(ha:a=pre.length)(hm:m=pre.length+U.length)(hb:b=m+W.length)(hn:n=(pre++U++W++suf).length):
  vl e 13761 1 [I n,I a,I m,I b,q,aggF (pre++U++W++suf)]=some (aggF (pre++W++U++suf)):=by
 have hl:=hn
 simp only[Xaf]at hl
 rw[w6 s.zq101_h1];unfold y.zq101_h1
 simp only[yy,Ze5 (show a<=m by omega) (by omega),Ze5 (show m<=b by omega) (by omega)]
 rw[show m-a=U.length by omega,show b-m=W.length by omega]
 exact v.rotF8 n m q hn2 _ U W pre suf (Xae _) (Xal.2 hu) (Xal.2 hw) hm.symm hn.symm
end Go.Proofs.YtegmegbanfkomaaGreatDoor
namespace Go.Proofs.YtegmegbanfkomaaGreatDoor
open Go.Abs
set_option maxRecDepth 10000
variable {e:Ev}
theorem at_F {l pre post:List Fi}{x:Fi}{i:Nat}(h:l=pre++x::post)(hi:i=pre.length):evp (.ldd (some 2) 0 2) [aggF l,I i]=some (fv x):=by
 subst hi
 rw[Zd1 (by rw[h];simp)]
 grind
theorem Zy9 {l pre post:List Fi}{x u:Fi}{i:Nat}(h:l=pre++x::post)(hi:i=pre.length):evp (.std 2 0 2) [aggF l,I i,fv u]=some (aggF (pre++u::post)):=by
 simp_all[Zmx]
theorem v.sym31 (n:Nat)(hn2:n<=1000000000):∀(y1 A rest:List Fi) (x:Fi) (i k:Nat),k=A.length->i=k+y1.length+1->(A++x::y1++rest).length=n->
  vl e 12961 31 [I n,I i,I k,aggF (A++x::y1++rest)]=some (aggF (A++y1++x::rest)):=by
 intro y1
 induction y1 with
 |nil=>
  intro A rest x i k hk hi hn
  simp only[Xaf,Xaq,Xa2]at hn hi
  rw[w4 s.zq104_h1_31];unfold y.zq104_h1_31
  simp only[yy,Zi1 (show 1<=i by omega) (by omega),if_neg (show ¬((k:Int)<((i-1:Nat):Int))by omega)]
  simp
 |cons u y1 ih=>
  intro A rest x i k hk hi hn
  simp only[Xaf,Xaq]at hn hi
  have c1:evp .chkd [I n,I (k+1:Nat)]=some (I (k+1:Nat)):=Zaz (by omega)
  have c2:evp .chkd [I n,I k]=some (I k):=Zaz (by omega)
  have l1:evp (.ldd (some 2) 0 2) [aggF (A++x::u::y1++rest),I (k+1:Nat)]=some (fv u):=at_F (pre:=A++ [x]) (post:=y1++rest) (by simp) (by simp[hk])
  have l2:evp (.ldd (some 2) 0 2) [aggF (A++x::u::y1++rest),I k]=some (fv x):=at_F (pre:=A) (post:=u::y1++rest) (by simp) hk
  have s1:evp (.std 2 0 2) [aggF (A++x::u::y1++rest),I k,fv u]=some (aggF (A++u::(u::y1++rest))):=Zy9 (x:=x) (by simp) hk
  have s2:evp (.std 2 0 2) [aggF (A++u::(u::y1++rest)),I (k+1:Nat),fv x]=some (aggF ((A++ [u])++x::(y1++rest))):=Zy9 (x:=u) (by simp) (by simp[hk])
  have:=ih (A++ [u]) rest x i (k+1) (by simp[hk]) (by omega) (by simp;omega)
  rw[w4 s.zq104_h1_31];unfold y.zq104_h1_31
  simp only[yy,Zi1 (show 1<=i by omega) (by omega),if_pos (show(k:Int)<((i-1:Nat):Int)by omega),Zai (show k<k+1 by omega) (by omega),c1,c2,l1,l2,s1,s2]
  grind
theorem v.sym73 (n:Nat)(hn2:n<=1000000000):∀(x2 A rest:List Fi) (u:Fi) (i k:Nat),i=A.length->k=i+x2.length->(A++x2++u::rest).length=n->
  vl e 12961 73 [I n,I i,I k,aggF (A++x2++u::rest)]=some (aggF (A++u::x2++rest)):=by
 intro x2
 induction x2 using Zqs with
 |h0=>
  intro A rest u i k hi hk hn
  simp only[Xaf,Xaq,Xa2]at hn hk
  rw[w4 s.zq104_h1_73];simp_all[yy,y.zq104_h1_73]
 |h1 x2 x ih=>
  intro A rest u i k hi hk hn
  simp only[Xaf,Xaq,Xa2]at hn hk
  have c1:evp .chkd [I n,I (k-1:Nat)]=some (I (k-1:Nat)):=Zaz (by omega)
  have c2:evp .chkd [I n,I k]=some (I k):=Zaz (by omega)
  have l1:evp (.ldd (some 2) 0 2) [aggF (A++(x2++ [x])++u::rest),I (k-1:Nat)]=some (fv x):=at_F (pre:=A++x2) (post:=u::rest) (by simp) (by simp;omega)
  have l2:evp (.ldd (some 2) 0 2) [aggF (A++(x2++ [x])++u::rest),I k]=some (fv u):=at_F (pre:=A++x2++ [x]) (post:=rest) (by simp) (by simp;omega)
  have s1:evp (.std 2 0 2) [aggF (A++(x2++ [x])++u::rest),I k,fv x]=some (aggF ((A++x2++ [x])++x::rest)):=Zy9 (x:=u) (by simp) (by simp;omega)
  have s2:evp (.std 2 0 2) [aggF ((A++x2++ [x])++x::rest),I (k-1:Nat),fv u]=some (aggF ((A++x2)++u::(x::rest))):=Zy9 (x:=x) (by simp) (by simp;omega)
  have:=ih A (x::rest) u i (k-1) hi (by omega) (by simp;omega)
  rw[w4 s.zq104_h1_73];unfold y.zq104_h1_73
  simp only[yy,Zi1 (show 1<=k by omega) (by omega),if_pos (show(i:Int)<(k:Int)by omega),c1,c2,l1,l2,s1,s2]
  simp_all
theorem Zjr {l:List Fi}{P:Fi->Prop}{p:Nat}(h:∀k (h:k<l.length),k<p->P l[k]):∀t∈l.take p,P t:=by
 grind[List.mem_iff_getElem]
theorem Zfy {l:List Fi}{P:Fi->Prop}{p:Nat}(h:∀k (h:k<l.length),p<=k->P l[k]):∀t∈l.drop p,P t:=by
 grind[List.mem_iff_getElem]
section
variable {G:Fi->Prop}{cmp:Fi->Fi->Int}(ho:Ord e G cmp)
include ho
theorem Zyw (x:Fi):Le cmp x x:=fun h=>ho.asy x x h h
theorem Zfi {l:List Fi}(hs:So cmp l){i j:Nat}(hij:i<=j)(hj:j<l.length):Le cmp (l[i]'(by omega)) l[j]:=by
 rcases Xbf hij with h|h
 ·grind[List.pairwise_iff_getElem]
 ·subst h;exact Zyw ho _
theorem v.sym12 (n:Nat)(hn2:n<=1000000000)(pre ys post:List Fi)(x:Fi)(hG:∀f∈pre++x::ys++post,G f)(hs:So cmp ys)(hn:(pre++x::ys++post).length=n):∀(d p q:Nat),q-p<=d->p<=q->q<=ys.length->(∀k (h:k<ys.length),k<p->cmp ys[k] x<0)->(∀k (h:k<ys.length),q<=k-> ¬cmp ys[k] x<0)->
  ∃p',p'<=ys.length/\(∀k (h:k<ys.length),k<p'->cmp ys[k] x<0)/\(∀k (h:k<ys.length),p'<=k-> ¬cmp ys[k] x<0)/\
  vl e 12961 12 [I n,I pre.length,cmpV,I (pre.length+1+p:Nat),I (pre.length+1+q:Nat),aggF (pre++x::ys++post)]=vl e 12961 31 [I n,I (pre.length+1+p':Nat),I pre.length,aggF (pre++x::ys++post)]:=by
 have hl:=hn
 simp only[Xaf,Xaq]at hl
 intro d
 induction d with
 |zero=>
  intro p q hd hpq hq h1 h2
  have:p=q:=by omega
  subst this
  refine⟨p,hq,h1,h2, ?_⟩<;>grind[w6 s.zq104_h1_12,yy,y.zq104_h1_12]
 |succ d ih=>
  intro p q hd hpq hq h1 h2
  rcases Xbf hpq with hlt|rfl
  rotate_left
  ·simp_all
  obtain⟨t,ht,ht1,ht2⟩:∃t,(pre.length+1+p+(pre.length+1+q))/2=pre.length+1+t/\p<=t/\t<q:=⟨(pre.length+1+p+(pre.length+1+q))/2-(pre.length+1),by omega,by omega,by omega⟩
  have htl:t<ys.length:=by omega
  have c1:evp .chkd [I n,I (pre.length+1+t:Nat)]=some (I (pre.length+1+t:Nat)):=Zaz (by omega)
  have c2:evp .chkd [I n,I pre.length]=some (I pre.length):=Zaz (by omega)
  have l1:evp (.ldd (some 2) 0 2) [aggF (pre++x::ys++post),I (pre.length+1+t:Nat)]=some (fv ys[t]):=at_F (pre:=pre++x::ys.take t) (post:=ys.drop (t+1)++post) (by
   have:=Xah htl
   grind[List.take_append_drop]) (by simp;omega)
  have l2:evp (.ldd (some 2) 0 2) [aggF (pre++x::ys++post),I pre.length]=some (fv x):=at_F (pre:=pre) (post:=ys++post) (by simp) rfl
  have hc:=ho.run ys[t] x (hG _ (by simp)) (hG _ (by simp))
  by_cases hx:cmp ys[t] x<0
  ·obtain⟨p',r1,r2,r3,r4⟩:=ih (t+1) q (by omega) (by omega) hq (fun k hk hkt=>by
    exact Zq9 ho (Zfi ho hs (show k<=t by omega) htl) hx) h2
   refine⟨p',r1,r2,r3, ?_⟩
   rw[w6 s.zq104_h1_12];unfold y.zq104_h1_12
   simp only[yy,if_pos (show((pre.length+1+p:Nat):Int)<((pre.length+1+q:Nat):Int)by omega),Zer (show pre.length+1+p+(pre.length+1+q)<=_ by omega),Zp0 (show pre.length+1+p+(pre.length+1+q)<=_ by omega),Zi9,ht,Zqo (show pre.length+1+t<=_ by omega),c1,c2,l1,l2,cv,hc,if_pos hx,Zai (show pre.length+1+t<n by omega) (by omega)]
   exact r4
  ·obtain⟨p',r1,r2,r3,r4⟩:=ih p t (by omega) (by omega) (by omega) h1 (fun k hk hkt h=>hx (Zq9 ho (Zfi ho hs hkt hk) h))
   refine⟨p',r1,r2,r3, ?_⟩
   rw[w6 s.zq104_h1_12];unfold y.zq104_h1_12
   simp only[yy,if_pos (show((pre.length+1+p:Nat):Int)<((pre.length+1+q:Nat):Int)by omega),Zer (show pre.length+1+p+(pre.length+1+q)<=_ by omega),Zp0 (show pre.length+1+p+(pre.length+1+q)<=_ by omega),Zi9,ht,Zqo (show pre.length+1+t<=_ by omega),c1,c2,l1,l2,cv,hc,if_neg hx]
   exact r4
theorem v.sym54 (n:Nat)(hn2:n<=1000000000)(pre xs post:List Fi)(u:Fi)(hG:∀f∈pre++xs++u::post,G f)(hs:So cmp xs)(hn:(pre++xs++u::post).length=n)(m:Nat)(hm:m=pre.length+xs.length):∀(d p q:Nat),q-p<=d->p<=q->q<=xs.length->(∀k (h:k<xs.length),k<p-> ¬cmp u xs[k]<0)->(∀k (h:k<xs.length),q<=k->cmp u xs[k]<0)->
  ∃p',p'<=xs.length/\(∀k (h:k<xs.length),k<p'-> ¬cmp u xs[k]<0)/\(∀k (h:k<xs.length),p'<=k->cmp u xs[k]<0)/\
  vl e 12961 54 [I n,I m,cmpV,I (pre.length+p:Nat),I (pre.length+q:Nat),aggF (pre++xs++u::post)]=vl e 12961 73 [I n,I (pre.length+p':Nat),I m,aggF (pre++xs++u::post)]:=by
 have hl:=hn
 simp only[Xaf,Xaq]at hl
 intro d
 induction d with
 |zero=>
  intro p q hd hpq hq h1 h2
  have:p=q:=by omega
  subst this
  refine⟨p,hq,h1,h2, ?_⟩<;>grind[w6 s.zq104_h1_54,yy,y.zq104_h1_54]
 |succ d ih=>
  intro p q hd hpq hq h1 h2
  rcases Xbf hpq with hlt|rfl
  rotate_left
  ·simp_all
  obtain⟨t,ht,ht1,ht2⟩:∃t,(pre.length+p+(pre.length+q))/2=pre.length+t/\p<=t/\t<q:=⟨(pre.length+p+(pre.length+q))/2-pre.length,by omega,by omega,by omega⟩
  have htl:t<xs.length:=by omega
  have c1:evp .chkd [I n,I (pre.length+t:Nat)]=some (I (pre.length+t:Nat)):=Zaz (by omega)
  have c2:evp .chkd [I n,I m]=some (I m):=Zaz (by omega)
  have l1:evp (.ldd (some 2) 0 2) [aggF (pre++xs++u::post),I (pre.length+t:Nat)]=some (fv xs[t]):=at_F (pre:=pre++xs.take t) (post:=xs.drop (t+1)++u::post) (by
   have:=Xah htl
   grind[List.take_append_drop]) (by simp;omega)
  have l2:evp (.ldd (some 2) 0 2) [aggF (pre++xs++u::post),I m]=some (fv u):=at_F (pre:=pre++xs) (post:=post) rfl (by simp[hm])
  have hc:=ho.run u xs[t] (hG _ (by simp)) (hG _ (by simp))
  by_cases hx:cmp u xs[t]<0
  ·obtain⟨p',r1,r2,r3,r4⟩:=ih p t (by omega) (by omega) (by omega) h1 (fun k hk hkt=>Z3q ho hx (Zfi ho hs hkt hk))
   refine⟨p',r1,r2,r3, ?_⟩
   rw[w6 s.zq104_h1_54];unfold y.zq104_h1_54
   simp only[yy,if_pos (show((pre.length+p:Nat):Int)<((pre.length+q:Nat):Int)by omega),Zer (show pre.length+p+(pre.length+q)<=_ by omega),Zp0 (show pre.length+p+(pre.length+q)<=_ by omega),Zi9,ht,Zqo (show pre.length+t<=_ by omega),c1,c2,l1,l2,cv,hc,if_pos hx]
   exact r4
  ·obtain⟨p',r1,r2,r3,r4⟩:=ih (t+1) q (by omega) (by omega) hq (fun k hk hkt h=>hx (Z3q ho h (Zfi ho hs (show k<=t by omega) htl))) h2
   refine⟨p',r1,r2,r3, ?_⟩
   rw[w6 s.zq104_h1_54];unfold y.zq104_h1_54
   simp only[yy,if_pos (show((pre.length+p:Nat):Int)<((pre.length+q:Nat):Int)by omega),Zer (show pre.length+p+(pre.length+q)<=_ by omega),Zp0 (show pre.length+p+(pre.length+q)<=_ by omega),Zi9,ht,Zqo (show pre.length+t<=_ by omega),c1,c2,l1,l2,cv,hc,if_neg hx,Zai (show pre.length+t<n by omega) (by omega)]
   exact r4
end
end Go.Proofs.YtegmegbanfkomaaGreatDoor
namespace Go.Proofs.YtegmegbanfkomaaGreatDoor
open Go.Abs
set_option maxRecDepth 10000
variable {e:Ev}
section
variable {G:Fi->Prop}{cmp:Fi->Fi->Int}(ho:Ord e G cmp)
include ho
theorem v.sym106 (n:Nat)(hn2:n<=1000000000)(L:List Fi)(hL:L.length=n)(hG:∀f∈L,G f)(a m b mm nn lo hi:Nat)(hnn:nn<=2000000000)(hhi:hi<=n)(hp:∀c,lo<=c->c<hi->c+1<=nn/\nn-1-c<n)
  (hmono:∀c c' (_:lo<=c) (_:c<=c') (_:c'<hi),¬cmp (L.getD (nn-1-c') ([],[])) (L.getD c' ([],[]))<0-> ¬cmp (L.getD (nn-1-c) ([],[])) (L.getD c ([],[]))<0):∀(d s r:Nat),r-s<=d->lo<=s->s<=r->r<=hi->(∀c,lo<=c->c<s-> ¬cmp (L.getD (nn-1-c) ([],[])) (L.getD c ([],[]))<0)->(∀c,r<=c->c<hi->cmp (L.getD (nn-1-c) ([],[])) (L.getD c ([],[]))<0)->
  ∃s',lo<=s'/\s'<=hi/\(∀c,lo<=c->c<s'-> ¬cmp (L.getD (nn-1-c) ([],[])) (L.getD c ([],[]))<0)/\(∀c,s'<=c->c<hi->cmp (L.getD (nn-1-c) ([],[])) (L.getD c ([],[]))<0)/\
   vl e 12961 106 [I n,I a,I m,I b,cmpV,I mm,I nn,I s,I r,I (nn-1:Nat),aggF L]=vl e 12961 106 [I n,I a,I m,I b,cmpV,I mm,I nn,I s',I s',I (nn-1:Nat),aggF L]:=by
 intro d
 induction d with
 |zero=>
  intro s r hd hls hsr hrh h1 h2
  have:s=r:=by omega
  subst this
  grind
 |succ d ih=>
  intro s r hd hls hsr hrh h1 h2
  rcases Xbf hsr with hlt|rfl
  rotate_left
  ·grind
  obtain⟨t,ht,ht1,ht2⟩:∃t,(s+r)/2=t/\s<=t/\t<r:=⟨_,rfl,by omega,by omega⟩
  obtain⟨hp1,hp2⟩:=hp t (by omega) (by omega)
  have c1:evp .chkd [I n,I (nn-1-t:Nat)]=some (I (nn-1-t:Nat)):=Zaz (by omega)
  have c2:evp .chkd [I n,I t]=some (I t):=Zaz (by omega)
  have g1:nn-1-t<L.length:=by omega
  have g2:t<L.length:=by omega
  have e1:L.getD (nn-1-t) ([],[])=L[nn-1-t]:=by simp[List.getD,g1]
  have e2:L.getD t ([],[])=L[t]:=by simp[List.getD,g2]
  have l1:=Zd1 g1
  have l2:=Zd1 g2
  have hc:=ho.run L[nn-1-t] L[t] (hG _ (Xam g1)) (hG _ (Xam g2))
  by_cases hx:cmp L[nn-1-t] L[t]<0
  ·obtain⟨s',r1,r2,r3,r4,r5⟩:=ih s t (by omega) hls (by omega) (by omega) h1 (fun c hc1 hc2=>by
    grind)
   refine⟨s',r1,r2,r3,r4, ?_⟩
   rw[w11 s.zq104_h1_106];unfold y.zq104_h1_106
   simp only[yy,if_pos (show(s:Int)<(r:Int)by omega),Zer (show s+r<=_ by omega),Zp0 (show s+r<=_ by omega),Zi9,ht,Zqo (show t<=_ by omega),Ze5 (show t<=nn-1 by omega) (by omega),c1,c2,l1,l2,cv,hc,if_pos hx]
   exact r5
  ·obtain⟨s',r1,r2,r3,r4,r5⟩:=ih (t+1) r (by omega) (by omega) (by omega) hrh (fun c hc1 hc2=>by
    grind) h2
   refine⟨s',r1,r2,r3,r4, ?_⟩
   rw[w11 s.zq104_h1_106];unfold y.zq104_h1_106
   simp only[yy,if_pos (show(s:Int)<(r:Int)by omega),Zer (show s+r<=_ by omega),Zp0 (show s+r<=_ by omega),Zi9,ht,Zqo (show t<=_ by omega),Ze5 (show t<=nn-1 by omega) (by omega),c1,c2,l1,l2,cv,hc,if_neg hx,Zai (show t<n by omega) (by omega)]
   exact r5
omit ho in
theorem v.sym129 (n k:Nat)(hn2:n<=1000000000)
  (hrec:∀(pre xs ys suf:List Fi),xs≠ []->ys≠ []->xs.length+ys.length<=k->So cmp xs->So cmp ys->(∀f∈pre++xs++ys++suf,G f)->(pre++xs++ys++suf).length=n->
   ∃zs:List Fi,zs.Perm (xs++ys)/\So cmp zs/\vl e 12961 1 [I n,I pre.length,I (pre.length+xs.length:Nat),I (pre.length+xs.length+ys.length:Nat),cmpV,aggF (pre++xs++ys++suf)]=some (aggF (pre++zs++suf)))
  (pre x1 y1 x2 y2 suf:List Fi) (h1:So cmp x1) (h2:So cmp y1) (h3:So cmp x2) (h4:So cmp y2) (hk1:x1.length+y1.length<=k) (hk2:x2.length+y2.length<=k) (hG:∀f∈pre++(x1++y1)++(x2++y2)++suf,G f) (hn:(pre++(x1++y1)++(x2++y2)++suf).length=n)
  (a b mm s en:Nat) (ha:a=pre.length) (hs:s=a+x1.length) (hm:mm=a+x1.length+y1.length) (he:en=mm+x2.length) (hb:b=mm+x2.length+y2.length):
  ∃z1 z2,z1.Perm (x1++y1)/\z2.Perm (x2++y2)/\So cmp z1/\So cmp z2/\vl e 12961 129 [I n,I a,I b,cmpV,I mm,I s,I en,aggF (pre++(x1++y1)++(x2++y2)++suf)]=some (aggF (pre++(z1++z2)++suf)):=by
 have hl:=hn
 simp only[Xaf]at hl
 --the half behind,with any half ahead
 have back:∀z1:List Fi,z1.Perm (x1++y1)-> ∃z2,z2.Perm (x2++y2)/\So cmp z2/\(if mm<en/\en<b then vl e 12961 1 [I n,I mm,I en,I b,cmpV,aggF (pre++z1++(x2++y2)++suf)]else some (aggF (pre++z1++(x2++y2)++suf)))=some (aggF (pre++(z1++z2)++suf)):=by
  intro z1 hz1
  have hzl:z1.length=x1.length+y1.length:=by rw[hz1.length_eq,Xaf]
  by_cases hc:mm<en/\en<b
  ·obtain⟨z2,r1,r2,r3⟩:=hrec (pre++z1) x2 y2 suf (Xal.1 (by omega)) (Xal.1 (by omega)) hk2 h3 h4 (fun f hf=>hG f (by
    have:(pre++z1++x2++y2++suf).Perm (pre++(x1++y1)++(x2++y2)++suf):=by
     have:=((hz1.append_left pre).append_right (x2++y2)).append_right suf
     simpa using this
    exact this.mem_iff.1 hf)) (by simp;omega)
   refine⟨z2,r1,r2, ?_⟩
   rw[if_pos hc]
   rw[show(pre++z1).length=mm by simp;omega,show mm+x2.length+y2.length=b by omega,show mm+x2.length=en by omega]at r3
   rw[show pre++z1++(x2++y2)++suf=pre++z1++x2++y2++suf by simp,r3]
   simp
  ·rw[if_neg hc]
   refine⟨x2++y2, .refl _, ?_,by simp⟩
   by_cases h0:x2=[]
   ·subst h0;simpa using h4
   ·have hx2:=Xal.2 h0
    have:y2=[]:=Xa0 (by omega)
    subst this;simpa using h3
 rw[w8 s.zq104_h1_129];unfold y.zq104_h1_129
 by_cases hc1:a<s/\s<mm
 ·obtain⟨z1,r1,r2,r3⟩:=hrec pre x1 y1 (x2++y2++suf) (Xal.1 (by omega)) (Xal.1 (by omega)) hk1 h1 h2 (fun f hf=>hG f (by simpa using hf)) (by simp;omega)
  rw[show pre++x1++y1++(x2++y2++suf)=pre++(x1++y1)++(x2++y2)++suf by simp,show pre++z1++(x2++y2++suf)=pre++z1++(x2++y2)++suf by simp, <-ha, <-hs,show s+y1.length=mm by omega]at r3
  obtain⟨z2,q1,q2,q3⟩:=back z1 r1
  refine⟨z1,z2,r1,q1,r2,q2, ?_⟩
  rw[<-q3]
  simp only[yy,if_pos (show(a:Int)<(s:Int)by omega),if_pos (show(s:Int)<(mm:Int)by omega),r3]
  by_cases hc2:mm<en
  ·by_cases hc3:en<b
   ·simp only[yy,if_pos (show(mm:Int)<(en:Int)by omega),if_pos (show(en:Int)<(b:Int)by omega),if_pos (show mm<en/\en<b from⟨hc2,hc3⟩)]
    cases vl e 12961 1 [I n,I mm,I en,I b,cmpV,aggF (pre++z1++(x2++y2)++suf)]<;>rfl
   ·simp only[yy,if_pos (show(mm:Int)<(en:Int)by omega),if_neg (show ¬(en:Int)<(b:Int)by omega),if_neg (show ¬(mm<en/\en<b)by omega)]
  ·simp only[yy,if_neg (show ¬(mm:Int)<(en:Int)by omega),if_neg (show ¬(mm<en/\en<b)by omega)]
 ·have hz:So cmp (x1++y1):=by
   by_cases h0:x1=[]
   ·subst h0;simpa using h2
   ·have hx:=Xal.2 h0
    have:y1=[]:=Xa0 (by omega)
    subst this;simpa using h1
  obtain⟨z2,q1,q2,q3⟩:=back (x1++y1) (.refl _)
  refine⟨x1++y1,z2, .refl _,q1,hz,q2, ?_⟩
  rw[<-q3]
  by_cases hca:a<s
  ·have hcb: ¬s<mm:=by omega
   by_cases hc2:mm<en
   ·by_cases hc3:en<b
    ·simp only[yy,if_pos (show(a:Int)<(s:Int)by omega),if_neg (show ¬(s:Int)<(mm:Int)by omega),if_pos (show(mm:Int)<(en:Int)by omega),if_pos (show(en:Int)<(b:Int)by omega),if_pos (show mm<en/\en<b from⟨hc2,hc3⟩)]
     cases vl e 12961 1 [I n,I mm,I en,I b,cmpV,aggF (pre++(x1++y1)++(x2++y2)++suf)]<;>rfl
    ·simp only[yy,if_pos (show(a:Int)<(s:Int)by omega),if_neg (show ¬(s:Int)<(mm:Int)by omega),if_pos (show(mm:Int)<(en:Int)by omega),if_neg (show ¬(en:Int)<(b:Int)by omega),if_neg (show ¬(mm<en/\en<b)by omega)]
   ·simp only[yy,if_pos (show(a:Int)<(s:Int)by omega),if_neg (show ¬(s:Int)<(mm:Int)by omega),if_neg (show ¬(mm:Int)<(en:Int)by omega),if_neg (show ¬(mm<en/\en<b)by omega)]
  ·by_cases hc2:mm<en
   ·by_cases hc3:en<b
    ·simp only[yy,if_neg (show ¬(a:Int)<(s:Int)by omega),if_pos (show(mm:Int)<(en:Int)by omega),if_pos (show(en:Int)<(b:Int)by omega),if_pos (show mm<en/\en<b from⟨hc2,hc3⟩)]
     cases vl e 12961 1 [I n,I mm,I en,I b,cmpV,aggF (pre++(x1++y1)++(x2++y2)++suf)]<;>rfl
    ·simp only[yy,if_neg (show ¬(a:Int)<(s:Int)by omega),if_pos (show(mm:Int)<(en:Int)by omega),if_neg (show ¬(en:Int)<(b:Int)by omega),if_neg (show ¬(mm<en/\en<b)by omega)]
   ·simp only[yy,if_neg (show ¬(a:Int)<(s:Int)by omega),if_neg (show ¬(mm:Int)<(en:Int)by omega),if_neg (show ¬(mm<en/\en<b)by omega)]
end
end Go.Proofs.YtegmegbanfkomaaGreatDoor
namespace Go.Proofs.YtegmegbanfkomaaGreatDoor
open Go.Abs
set_option maxRecDepth 10000
variable {e:Ev}
theorem v.symE (n a m b:Nat)(ha:a+1<m)(hb:m+1<b)(hbn:b<=1000000000)(row:V):vl e 12961 1 [I n,I a,I m,I b,cmpV,row]=
  vl e 12961 106 [I n,I a,I m,I b,cmpV,I ((a+b)/2:Nat),I ((a+b)/2+m:Nat),I (if(a+b)/2<m then(a+b)/2+m-b else a:Nat),I (if(a+b)/2<m then(a+b)/2 else m:Nat),I ((a+b)/2+m-1:Nat),row]:=by
 obtain⟨mm,hmm⟩:∃mm,mm=(a+b)/2:=⟨_,rfl⟩
 have e1:IntKind.i64.wrap ((m:Int)-(a:Int))=((m-a:Nat):Int):=Ze5 (by omega) (by omega)
 have e2:IntKind.i64.wrap ((b:Int)-(m:Int))=((b-m:Nat):Int):=Ze5 (by omega) (by omega)
 have e3:IntKind.i64.wrap ((a:Int)+(b:Int))=((a+b:Nat):Int):=Zer (by omega)
 have e4:IntKind.i64.wrap ((mm:Int)+(m:Int))=((mm+m:Nat):Int):=Zer (by omega)
 have e5:IntKind.i64.wrap (((mm+m:Nat):Int)-1)=((mm+m-1:Nat):Int):=Zi1 (by omega) (by omega)
 have n1: ¬((m-a:Nat):Int)=1:=by omega
 have n2: ¬((b-m:Nat):Int)=1:=by omega
 have u1:evp (.i2i .u64) [I (a+b:Nat)]=some (.int .u64 (a+b:Nat)):=Zp0 (by omega)
 have u2:evp (.i2i .i64) [.int .u64 (mm:Int)]=some (I mm):=Zqo (by omega)
 have hh:evp (.bin .shr .no) [.int .u64 ((a+b:Nat):Int), .int .u64 1]=some (.int .u64 (mm:Int)):=by rw[Zi9,hmm]
 rw[<-hmm,w6 s.zq104_h1];unfold y.zq104_h1
 by_cases hc:mm<m
 ·have e6:IntKind.i64.wrap (((mm+m:Nat):Int)-(b:Int))=((mm+m-b:Nat):Int):=Ze5 (by omega) (by omega)
  simp only[yy,e1,e2,e3,e4,n1,n2,u1,hh,u2,if_false,if_pos (show(mm:Int)<(m:Int)by omega),e6]
  simp_all[w10 s.zq104_h1_102,yy,y.zq104_h1_102]
 ·simp only[yy,e1,e2,e3,e4,n1,n2,u1,hh,u2,if_false,if_neg (show ¬(mm:Int)<(m:Int)by omega)]
  rw[w10 s.zq104_h1_102];unfold y.zq104_h1_102
  simp only[yy,e5]
  grind
section
variable {G:Fi->Prop}{cmp:Fi->Fi->Int}(ho:Ord e G cmp)
include ho
theorem v.symA (n:Nat)(hn2:n<=1000000000)(pre xs ys suf:List Fi)(hx:xs≠ [])(hy:ys≠ [])(hsx:So cmp xs)(hsy:So cmp ys)(hG:∀f∈pre++xs++ys++suf,G f)(hn:(pre++xs++ys++suf).length=n)(h1:xs.length=1):∃zs:List Fi,zs.Perm (xs++ys)/\So cmp zs/\vl e 12961 1 [I n,I pre.length,I (pre.length+xs.length:Nat),I (pre.length+xs.length+ys.length:Nat),cmpV,aggF (pre++xs++ys++suf)]=some (aggF (pre++zs++suf)):=by
 have hxp:=Xal.2 hx
 have hyp:=Xal.2 hy
 have hl:=hn
 simp only[Xaf]at hl
 obtain⟨a,ha⟩:∃a,a=pre.length:=⟨_,rfl⟩
 obtain⟨m,hm⟩:∃m,m=pre.length+xs.length:=⟨_,rfl⟩
 obtain⟨b,hb⟩:∃b,b=pre.length+xs.length+ys.length:=⟨_,rfl⟩
 rw[<-hb, <-hm, <-ha]
 rw[w6 s.zq104_h1];unfold y.zq104_h1
 match xs,h1 with
 | [x],_=>
 simp only[Xaq,Xa2]at*
 obtain⟨p,r1,r2,r3,r4⟩:=v.sym12 ho n hn2 pre ys suf x (by simpa using hG) hsy (by simpa using hn) ys.length 0 ys.length (by omega) (by omega) (Xae _) (fun k _ h=>absurd h (by omega)) (fun k h1 h2=>absurd h1 (by omega))
 have r5:=v.sym31 (e:=e) n hn2 (ys.take p) pre (ys.drop p++suf) x (pre.length+1+p) pre.length rfl (by simp;omega) (by grind)
 have q1:=Zjr (P:=fun t=>cmp t x<0) r2
 have q2:=Zfy (P:=fun t=> ¬cmp t x<0) r3
 refine⟨ys.take p++x::ys.drop p, ?_, ?_, ?_⟩
 ·exact List.perm_middle.trans (by simp)
 ·refine Xbs.2 ⟨hsy.sublist (Xed _ _),Xby.2 ⟨fun t ht=>q2 t ht,hsy.sublist (Xdx _ _)⟩,fun u hu t ht=> ?_⟩
  rcases Xap.1 ht with rfl|ht
  ·exact ho.asy _ _ (q1 u hu)
  ·exact ho.asy _ _ (Z3q ho (q1 u hu) (q2 t ht))
 ·simp only[yy,Ze5 (show a<=m by omega) (by omega),if_pos (show((m-a:Nat):Int)=1 by omega)]
  rw[show pre++ [x]++ys++suf=pre++x::ys++suf by simp,show m=pre.length+1+0 by omega,show b=pre.length+1+ys.length by omega,ha,r4,
   show pre++x::ys++suf=pre++x::ys.take p++(ys.drop p++suf)by grind[List.take_append_drop],r5]
  simp
theorem v.symB (n:Nat)(hn2:n<=1000000000)(pre xs ys suf:List Fi)(hx:xs≠ [])(hy:ys≠ [])(hsx:So cmp xs)(hsy:So cmp ys)(hG:∀f∈pre++xs++ys++suf,G f)(hn:(pre++xs++ys++suf).length=n)(h1: ¬xs.length=1)(h2:ys.length=1):∃zs:List Fi,zs.Perm (xs++ys)/\So cmp zs/\vl e 12961 1 [I n,I pre.length,I (pre.length+xs.length:Nat),I (pre.length+xs.length+ys.length:Nat),cmpV,aggF (pre++xs++ys++suf)]=some (aggF (pre++zs++suf)):=by
 have hxp:=Xal.2 hx
 have hyp:=Xal.2 hy
 have hl:=hn
 simp only[Xaf]at hl
 obtain⟨a,ha⟩:∃a,a=pre.length:=⟨_,rfl⟩
 obtain⟨m,hm⟩:∃m,m=pre.length+xs.length:=⟨_,rfl⟩
 obtain⟨b,hb⟩:∃b,b=pre.length+xs.length+ys.length:=⟨_,rfl⟩
 rw[<-hb, <-hm, <-ha]
 rw[w6 s.zq104_h1];unfold y.zq104_h1
 match ys,h2 with
 | [u],_=>
 simp only[Xaq,Xa2]at*
 obtain⟨p,r1,r2,r3,r4⟩:=v.sym54 ho n hn2 pre xs suf u (by simpa using hG) hsx (by simpa using hn) m hm xs.length 0 xs.length (by omega) (by omega) (Xae _) (fun k _ h=>absurd h (by omega)) (fun k h1 h2=>absurd h1 (by omega))
 have r5:=v.sym73 (e:=e) n hn2 (xs.drop p) (pre++xs.take p) suf u (pre.length+p) m (by simp;omega) (by simp;omega) (by grind)
 have q1:=Zjr (P:=fun t=> ¬cmp u t<0) r2
 have q2:=Zfy (P:=fun t=>cmp u t<0) r3
 refine⟨xs.take p++u::xs.drop p, ?_, ?_, ?_⟩
 ·refine List.perm_middle.trans ?_<;>grind[List.take_append_drop]
 ·refine Xbs.2 ⟨hsx.sublist (Xed _ _),Xby.2 ⟨fun t ht=>ho.asy _ _ (q2 t ht),hsx.sublist (Xdx _ _)⟩,fun s hs t ht=> ?_⟩
  rcases Xap.1 ht with rfl|ht
  ·exact q1 s hs
  ·exact ho.tr _ _ _ (q1 s hs) (ho.asy _ _ (q2 t ht))
 ·simp only[yy,Ze5 (show a<=m by omega) (by omega),if_neg (show ¬((m-a:Nat):Int)=1 by omega),Ze5 (show m<=b by omega) (by omega),if_pos (show((b-m:Nat):Int)=1 by omega)]
  simp_all
theorem v.symC (n:Nat)(hn2:n<=1000000000)(pre xs ys suf:List Fi)(hx:xs≠ [])(hy:ys≠ [])(hsx:So cmp xs)(hsy:So cmp ys)(hG:∀f∈pre++xs++ys++suf,G f)(hn:(pre++xs++ys++suf).length=n)
  (k:Nat) (ih:∀(pre xs ys suf:List Fi),xs≠ []->ys≠ []->xs.length+ys.length<=k->So cmp xs->So cmp ys->(∀f∈pre++xs++ys++suf,G f)->(pre++xs++ys++suf).length=n->
  ∃zs:List Fi,zs.Perm (xs++ys)/\So cmp zs/\vl e 12961 1 [I n,I pre.length,I (pre.length+xs.length:Nat),I (pre.length+xs.length+ys.length:Nat),cmpV,aggF (pre++xs++ys++suf)]=some (aggF (pre++zs++suf))) (hk:xs.length+ys.length<=k+1) (h1: ¬xs.length=1) (h2: ¬ys.length=1):∃zs:List Fi,zs.Perm (xs++ys)/\So cmp zs/\vl e 12961 1 [I n,I pre.length,I (pre.length+xs.length:Nat),I (pre.length+xs.length+ys.length:Nat),cmpV,aggF (pre++xs++ys++suf)]=some (aggF (pre++zs++suf)):=by
 have hxp:=Xal.2 hx
 have hyp:=Xal.2 hy
 have hl:=hn
 simp only[Xaf]at hl
 obtain⟨a,ha⟩:∃a,a=pre.length:=⟨_,rfl⟩
 obtain⟨m,hm⟩:∃m,m=pre.length+xs.length:=⟨_,rfl⟩
 obtain⟨b,hb⟩:∃b,b=pre.length+xs.length+ys.length:=⟨_,rfl⟩
 rw[<-hb, <-hm, <-ha]
 --the general case
 obtain⟨mm,hmm⟩:∃mm,mm=(a+b)/2:=⟨_,rfl⟩
 obtain⟨nn,hnn⟩:∃nn,nn=mm+m:=⟨_,rfl⟩
 obtain⟨L,hL⟩:∃L,L=pre++xs++ys++suf:=⟨_,rfl⟩
 obtain⟨lo,hlo⟩:∃lo,lo=if mm<m then nn-b else a:=⟨_,rfl⟩
 obtain⟨hi,hhi⟩:∃hi,hi=if mm<m then mm else m:=⟨_,rfl⟩
 have hb1:lo<=hi/\a<=lo/\hi<=m/\hi<=mm/\nn<=lo+b/\m<=nn-hi/\hi<=nn:=by
  by_cases hc:mm<m
  ·rw[if_pos hc]at hlo hhi;omega
  ·rw[if_neg hc]at hlo hhi;omega
 have dx:∀c (h:c-a<xs.length),a<=c->L.getD c ([],[])=xs[c-a]:=by
  intro c h hac
  have:c<L.length:=by rw[hL,hn];omega
  rw[Xd6,Xad this,Xbu,Xck hL]
  rw[Xb7 (by simp;omega),Xb7 (by simp;omega),Xcf (by omega)]
  simp only[ha]
 have dy:∀c (h:c-m<ys.length),m<=c->L.getD c ([],[])=ys[c-m]:=by
  intro c h hac
  have:c<L.length:=by rw[hL,hn];omega
  rw[Xd6,Xad this,Xbu,Xck hL]
  rw[Xb7 (by simp;omega),Xcf (by simp;omega)]
  simp only[Xaf,hm]
 obtain⟨s,s1,s2,s3,s4,s5⟩:=v.sym106 ho n hn2 L (by rw[hL,hn]) (by rw[hL];exact hG) a m b mm nn lo hi (by omega) (by omega) (fun c _ _=>by omega) (fun c c' k1 k2 k3 hle=>by
  have f1:=dx c (by omega) (by omega)
  have f2:=dx c' (by omega) (by omega)
  have f3:=dy (nn-1-c) (by omega) (by omega)
  have f4:=dy (nn-1-c') (by omega) (by omega)
  rw[f4,f2]at hle
  rw[f1,f3]
  have g1:Le cmp (xs[c-a]'(by omega)) (xs[c'-a]'(by omega)):=Zfi ho hsx (by omega) (by omega)
  have g2:Le cmp (ys[nn-1-c'-m]'(by omega)) (ys[nn-1-c-m]'(by omega)):=Zfi ho hsy (by omega) (by omega)
  exact ho.tr _ _ _ (ho.tr _ _ _ g1 hle) g2) (hi-lo) lo hi (Xae _) (Xae _) hb1.1 (Xae _) (fun c k1 k2=>absurd k1 (by omega)) (fun c k1 k2=>absurd k1 (by omega))
 obtain⟨en,hen⟩:∃en,en=nn-s:=⟨_,rfl⟩
 obtain⟨x1,x2,hx12,hx1⟩:∃x1 x2,xs=x1++x2/\x1.length=s-a:=⟨xs.take (s-a),xs.drop (s-a),Zgr _ _,by simp;omega⟩
 obtain⟨y1,y2,hy12,hy1⟩:∃y1 y2,ys=y1++y2/\y1.length=en-m:=⟨ys.take (en-m),ys.drop (en-m),Zgr _ _,by simp;omega⟩
 have hxl:xs.length=x1.length+x2.length:=by rw[hx12,Xaf]
 have hyl:ys.length=y1.length+y2.length:=by rw[hy12,Xaf]
 have sx:=Xbs.1 (hx12▸hsx)
 have sy:=Xbs.1 (hy12▸hsy)
 have c12:∀u∈x1, ∀t∈y2,Le cmp u t:=by
  intro u hu t ht
  obtain⟨i,hi',rfl⟩:=Xbt.1 hu
  obtain⟨j,hj,rfl⟩:=Xbt.1 ht
  have hlt:lo<s:=by
   refine Nat.lt_of_le_of_ne s1 fun h=> ?_
   by_cases hc:mm<m
   ·rw[if_pos hc]at hlo;omega
   ·rw[if_neg hc]at hlo;omega
  have hP:=s3 (s-1) (by omega) (by omega)
  rw[dx (s-1) (by omega) (by omega),dy (nn-1-(s-1)) (by omega) (by omega)]at hP
  have g1:Le cmp (xs[i]'(by omega)) (xs[s-1-a]'(by omega)):=Zfi ho hsx (by omega) (by omega)
  have g2:Le cmp (ys[nn-1-(s-1)-m]'(by omega)) (ys[y1.length+j]'(by omega)):=Zfi ho hsy (by omega) (by omega)
  have g3:=ho.tr _ _ _ (ho.tr _ _ _ g1 hP) g2
  have f1:xs[i]'(by omega)=x1[i]:=by rw[Xck hx12,Xb7 hi']
  have f2:ys[y1.length+j]'(by omega)=y2[j]:=by rw[Xck hy12,Xcf (by omega)];simp
  rw[f1,f2]at g3
  exact g3
 have c21:∀t∈y1, ∀u∈x2,Le cmp t u:=by
  intro t ht u hu
  obtain⟨i,hi',rfl⟩:=Xbt.1 hu
  obtain⟨j,hj,rfl⟩:=Xbt.1 ht
  have hlt:s<hi:=by
   refine Nat.lt_of_le_of_ne s2 fun h=> ?_
   by_cases hc:mm<m
   ·rw[if_pos hc]at hhi;omega
   ·rw[if_neg hc]at hhi;omega
  have hP:=s4 s (Xae _) hlt
  rw[dx s (by omega) (by omega),dy (nn-1-s) (by omega) (by omega)]at hP
  have g1:Le cmp (xs[s-a]'(by omega)) (xs[x1.length+i]'(by omega)):=Zfi ho hsx (by omega) (by omega)
  have g2:Le cmp (ys[j]'(by omega)) (ys[nn-1-s-m]'(by omega)):=Zfi ho hsy (by omega) (by omega)
  have g3:=ho.tr _ _ _ (ho.tr _ _ _ g2 (ho.asy _ _ hP)) g1
  have f1:xs[x1.length+i]'(by omega)=x2[i]:=by rw[Xck hx12,Xcf (by omega)];simp
  have f2:ys[j]'(by omega)=y1[j]:=by rw[Xck hy12,Xb7 hj]
  rw[f1,f2]at g3
  exact g3
 have hrow:L=pre++x1++x2++y1++(y2++suf):=by rw[hL,hx12,hy12];simp
 have hperm:(x1++y1++(x2++y2)).Perm (xs++ys):=by
  rw[hx12,hy12]
  have:(y1++x2).Perm (x2++y1):=List.perm_append_comm
  have:=(this.append_left x1).append_right y2
  simpa using this
 obtain⟨z1,z2,p1,p2,p3,p4,p5⟩:=v.sym129 (e:=e) (G:=G) (cmp:=cmp) n k hn2 ih pre x1 y1 x2 y2 suf sx.1 sy.1 sx.2.1 sy.2.1 (by omega) (by omega) (fun f hf=>hG f (by
  have:=((hperm.append_left pre).append_right suf).mem_iff (a:=f)
  simp only[Xar]at this hf⊢
  exact this.1 hf)) (by rw[<-hn,hx12,hy12];simp;omega) a b mm s en ha (by omega) (by omega) (by omega) (by omega)
 have hrot:(if s<m/\m<en then vl e 13761 1 [I n,I s,I m,I en,cmpV,aggF L]else some (aggF L))=some (aggF (pre++(x1++y1)++(x2++y2)++suf)):=by
  by_cases hc:s<m/\m<en
  ·rw[if_pos hc]
   have:=v.rotF (e:=e) n s m en cmpV hn2 x2 y1 (pre++x1) (y2++suf) (Xal.1 (by omega)) (Xal.1 (by omega)) (by simp;omega) (by simp;omega) (by omega) (by rw[<-hn,hx12,hy12];simp)
   rw[hrow,this];simp
  ·rw[if_neg hc,hrow]
   have:x2=[] \/y1=[]:=by
    by_cases h0:x2=[]
    ·exact .inl h0
    ·have:=Xal.2 h0
     exact .inr (Xa0 (by omega))
   rcases this with rfl|rfl<;>simp
 have fin:vl e 12961 106 [I n,I a,I m,I b,cmpV,I mm,I nn,I lo,I hi,I (nn-1:Nat),aggF L]=some (aggF (pre++(z1++z2)++suf)):=by
  rw[s5,w11 s.zq104_h1_106];unfold y.zq104_h1_106
  simp only[yy,if_neg (show ¬(s:Int)<(s:Int)by omega),Ze5 (show s<=nn by omega) (by omega), <-hen]
  by_cases hc1:s<m
  ·by_cases hc2:m<en
   ·rw[if_pos ⟨hc1,hc2⟩]at hrot
    simp only[yy,if_pos (show(s:Int)<(m:Int)by omega),if_pos (show(m:Int)<(en:Int)by omega),hrot]
    exact p5
   ·rw[if_neg (by omega)]at hrot
    have hrot:=V.agg.inj (Option.some.inj hrot)
    simp only[yy,if_pos (show(s:Int)<(m:Int)by omega),if_neg (show ¬(m:Int)<(en:Int)by omega)]
    rw[aggF,hrot];exact p5
  ·rw[if_neg (by omega)]at hrot
   have hrot:=V.agg.inj (Option.some.inj hrot)
   simp only[yy,if_neg (show ¬(s:Int)<(m:Int)by omega)]
   rw[aggF,hrot];exact p5
 refine⟨z1++z2,(p1.append p2).trans hperm, ?_, ?_⟩
 ·refine Xbs.2 ⟨p3,p4,fun u hu t ht=> ?_⟩
  rcases Xaz.1 (p1.mem_iff.1 hu)with hu|hu<;>rcases Xaz.1 (p2.mem_iff.1 ht)with ht|ht
  ·exact sx.2.2 u hu t ht
  ·exact c12 u hu t ht
  ·exact c21 u hu t ht
  ·exact sy.2.2 u hu t ht
 ·rw[<-hL,v.symE n a m b (by omega) (by omega) (by omega) (aggF L), <-hmm, <-hnn, <-hlo, <-hhi]
  exact fin
theorem v.sym (n:Nat)(hn2:n<=1000000000):∀(k:Nat) (pre xs ys suf:List Fi),xs≠ []->ys≠ []->xs.length+ys.length<=k->So cmp xs->So cmp ys->(∀f∈pre++xs++ys++suf,G f)->(pre++xs++ys++suf).length=n->
  ∃zs:List Fi,zs.Perm (xs++ys)/\So cmp zs/\vl e 12961 1 [I n,I pre.length,I (pre.length+xs.length:Nat),I (pre.length+xs.length+ys.length:Nat),cmpV,aggF (pre++xs++ys++suf)]=some (aggF (pre++zs++suf)):=by
 intro k
 induction k with
 |zero=>simp_all
 |succ k ih=>
  intro pre xs ys suf hx hy hk hsx hsy hG hn
  by_cases h1:xs.length=1
  ·exact v.symA ho n hn2 pre xs ys suf hx hy hsx hsy hG hn h1
  by_cases h2:ys.length=1
  ·exact v.symB ho n hn2 pre xs ys suf hx hy hsx hsy hG hn h1 h2
  exact v.symC ho n hn2 pre xs ys suf hx hy hsx hsy hG hn k ih hk h1 h2
end
end Go.Proofs.YtegmegbanfkomaaGreatDoor
namespace Go.Proofs.YtegmegbanfkomaaGreatDoor
open Go.Abs
set_option maxRecDepth 10000
variable {e:Ev}
inductive Bk (cmp:Fi->Fi->Int)(bs:Nat):List Fi->Prop
 |last {l:List Fi} (h:l.length<=bs) (hs:So cmp l):Bk cmp bs l
 |cons {x r:List Fi} (h:x.length=bs) (hs:So cmp x) (hr:Bk cmp bs r):Bk cmp bs (x++r)
theorem v.ins0 (n a:Nat)(ha:a<=1000000000)(l:List Fi):vl e 12945 1 [I n,I a,I a,cmpV,aggF l]=some (aggF l):=by
 rw[w5 s.zq100_h1];unfold y.zq100_h1
 simp only[yy,Zai (show a<a+1 by omega) (by omega)]
 rw[w6 s.zq100_h1_5];unfold y.zq100_h1_5
 simp only[yy,if_neg (show ¬((a+1:Nat):Int)<(a:Int)by omega)]
section
variable {G:Fi->Prop}{cmp:Fi->Fi->Int}(ho:Ord e G cmp)
include ho
theorem v.stab8 (n:Nat)(hn2:n<=1000000000):∀(k:Nat) (D R:List Fi),R.length<=k->(∀f∈D++R,G f)->(D++R).length=n->
  ∃R':List Fi,R'.Perm R/\Bk cmp 20 R'/\vl e 12177 8 [I n,I n,cmpV,I 20,I D.length,I (D.length+20:Nat),aggF (D++R)]=vl e 12177 24 [I n,I n,cmpV,I 20,aggF (D++R')]:=by
 intro k
 induction k with
 |zero=>
  intro D R hk hG hn
  have:R=[]:=Xa0 (by omega)
  subst this
  simp only[Xax]at*
  refine⟨[], .refl _, .last (by simp) (by simp[So]), ?_⟩
  rw[w7 s.zq102_h1_8];unfold y.zq102_h1_8
  have:=v.ins0 (e:=e) n D.length (by omega) D
  rw[hn]at this
  simp only[yy,hn,if_neg (show ¬((n+20:Nat):Int)<=(n:Int)by omega),this,Xax]
 |succ k ih=>
  intro D R hk hG hn
  have hl:=hn
  simp only[Xaf]at hl
  rw[w7 s.zq102_h1_8];unfold y.zq102_h1_8
  by_cases hc:D.length+20<=n
  ·obtain⟨x,r,hR,hx⟩:∃x r,R=x++r/\x.length=20:=⟨R.take 20,R.drop 20,Zgr _ _,by simp;omega⟩
   subst hR
   simp only[Xaf]at*
   obtain⟨S,q1,q2,q3⟩:=v.ins ho D x r (by simpa using hG) (by simp;omega) (Xal.1 (by omega))
   have hS:S.length=20:=by rw[q1.length_eq,hx]
   obtain⟨R',r1,r2,r3⟩:=ih (D++S) r (by omega) (fun f hf=>hG f (by
    grind)) (by simp;omega)
   refine⟨S++R',q1.append r1, .cons hS q2 r2, ?_⟩
   rw[show(D++x++r).length=n by simp;omega,hx]at q3
   rw[show(D++S).length=D.length+20 by simp;omega]at r3
   simp only[yy,if_pos (show((D.length+20:Nat):Int)<=(n:Int)by omega)]
   rw[show D++(x++r)=D++x++r by simp,q3]
   have e20:IntKind.i64.wrap (((D.length+20:Nat):Int)+20)=((D.length+20+20:Nat):Int):=Zer (b:=20) (by omega)
   grind
  ·by_cases h0:R=[]
   ·subst h0
    simp only[Xax,Xa2]at*
    refine⟨[], .refl _, .last (by simp) (by simp[So]), ?_⟩
    have:=v.ins0 (e:=e) n D.length (by omega) D
    rw[hn]at this
    simp only[yy,hn,if_neg (show ¬((n+20:Nat):Int)<=(n:Int)by omega),this,Xax]
   ·obtain⟨S,q1,q2,q3⟩:=v.ins ho D R [] (by simpa using hG) (by simp;omega) h0
    refine⟨S,q1, .last (by rw[q1.length_eq];omega) q2, ?_⟩
    simp only[Xax]at q3
    rw[hn,show D.length+R.length=n by omega]at q3
    simp only[yy,if_neg (show ¬((D.length+20:Nat):Int)<=(n:Int)by omega),q3]
theorem v.stab36 (n:Nat)(hn2:n<=1000000000)(bs:Nat)(hbs:0<bs)(hb2:bs<=n):∀(k:Nat) (D R:List Fi),R.length<=k->Bk cmp bs R->(∀f∈D++R,G f)->(D++R).length=n->
  ∃R':List Fi,R'.Perm R/\Bk cmp (2*bs) R'/\vl e 12177 36 [I n,I n,cmpV,I bs,I D.length,I (D.length+2*bs:Nat),aggF (D++R)]=vl e 12177 24 [I n,I n,cmpV,I (2*bs:Nat),aggF (D++R')]:=by
 have m2:IntKind.i64.wrap (2*(bs:Int))=((2*bs:Nat):Int):=Z56 (a:=2) (by omega)
 have m3:IntKind.i64.wrap ((bs:Int)*2)=((2*bs:Nat):Int):=by grind
 have w2:evp (.bin .mul .no) [.int .i64 2,I bs]=some (I (2*bs:Nat)):=by rw[Zkh,m2]
 have w3:evp (.bin .mul .no) [I bs, .int .i64 2]=some (I (2*bs:Nat)):=by rw[Zkh,m3]
 intro k
 induction k with
 |zero=>
  intro D R hk hB hG hn
  have:R=[]:=Xa0 (by omega)
  subst this
  simp only[Xax]at*
  refine⟨[], .refl _, .last (by simp) (by simp[So]), ?_⟩
  rw[w7 s.zq102_h1_36];unfold y.zq102_h1_36
  simp only[yy,if_neg (show ¬((D.length+2*bs:Nat):Int)<=(n:Int)by omega),Zer (show D.length+bs<=_ by omega),if_neg (show ¬((D.length+bs:Nat):Int)<(n:Int)by omega),w3,Xax]
 |succ k ih=>
  intro D R hk hB hG hn
  have hl:=hn
  simp only[Xaf]at hl
  rw[w7 s.zq102_h1_36];unfold y.zq102_h1_36
  by_cases hc:D.length+2*bs<=n
  ·obtain⟨x,z,r,hR,hx,hz,sx,sz,hBr⟩:∃x z r,R=x++z++r/\x.length=bs/\z.length=bs/\So cmp x/\So cmp z/\Bk cmp bs r:=by
    cases hB with
    |last h hs=>omega
    | @cons x r h hs hr=>
     cases hr with
     |last h2 hs2=>exact⟨x,r,[],by simp,h,by grind,hs,hs2, .last (by simp) (by simp[So])⟩
     | @cons z r' h2 hs2 hr2=>grind
   subst hR
   simp only[Xaf]at*
   obtain⟨S,q1,q2,q3⟩:=v.sym ho n hn2 (x.length+z.length) D x z r (Xal.1 (by omega)) (Xal.1 (by omega)) (Xae _) sx sz (by simpa using hG) (by simp;omega)
   have hS:S.length=2*bs:=by rw[q1.length_eq,Xaf];omega
   obtain⟨R',r1,r2,r3⟩:=ih (D++S) r (by omega) hBr (fun f hf=>hG f (by
    grind)) (by simp;omega)
   refine⟨S++R',q1.append r1, .cons hS q2 r2, ?_⟩
   rw[show D.length+x.length+z.length=D.length+2*bs by omega,hx]at q3
   rw[show(D++S).length=D.length+2*bs by simp;omega]at r3
   simp only[yy,if_pos (show((D.length+2*bs:Nat):Int)<=(n:Int)by omega),Zer (show D.length+bs<=_ by omega),w2,Zer (show D.length+2*bs+2*bs<=_ by omega)]
   grind
  ·by_cases hm:D.length+bs<n
   ·obtain⟨x,z,hR,hx,hz,sx,sz⟩:∃x z,R=x++z/\x.length=bs/\0<z.length/\So cmp x/\So cmp z:=by
     cases hB with
     |last h hs=>omega
     | @cons x r h hs hr=>
      cases hr<;>grind
    subst hR
    simp only[Xaf]at*
    obtain⟨S,q1,q2,q3⟩:=v.sym ho n hn2 (x.length+z.length) D x z [] (Xal.1 (by omega)) (Xal.1 (by omega)) (Xae _) sx sz (by simpa using hG) (by simp;omega)
    refine⟨S,q1, .last (by rw[q1.length_eq,Xaf];omega) q2, ?_⟩
    rw[show D.length+x.length+z.length=n by omega,hx]at q3
    simp only[Xax]at q3
    simp only[yy,if_neg (show ¬((D.length+2*bs:Nat):Int)<=(n:Int)by omega),Zer (show D.length+bs<=_ by omega),if_pos (show((D.length+bs:Nat):Int)<(n:Int)by omega),w3]
    grind
   ·refine⟨R, .refl _, .last (by omega) ?_, ?_⟩
    ·cases hB with
     |last h hs=>exact hs
     | @cons x r h hs hr=>
      simp only[Xaf]at hl
      have:r=[]:=Xa0 (by omega)
      grind
    ·simp only[yy,if_neg (show ¬((D.length+2*bs:Nat):Int)<=(n:Int)by omega),Zer (show D.length+bs<=_ by omega),if_neg (show ¬((D.length+bs:Nat):Int)<(n:Int)by omega),w3]
theorem v.stab24 (n:Nat)(hn2:n<=1000000000):∀(k bs:Nat) (l:List Fi),0<bs->n-bs<=k->Bk cmp bs l->(∀f∈l,G f)->l.length=n->
  ∃S:List Fi,S.Perm l/\So cmp S/\vl e 12177 24 [I n,I n,cmpV,I bs,aggF l]=some (aggF S):=by
 intro k
 have fin:∀(bs:Nat) (l:List Fi),n<=bs->0<bs->Bk cmp bs l->l.length=n-> ∃S:List Fi,S.Perm l/\So cmp S/\vl e 12177 24 [I n,I n,cmpV,I bs,aggF l]=some (aggF S):=by
  intro bs l hbs hb0 hB hn
  refine⟨l, .refl _, ?_, ?_⟩
  ·cases hB with
   |last h hs=>exact hs
   | @cons x r h hs hr=>
    simp only[Xaf]at hn
    have:r=[]:=Xa0 (by omega)
    grind
  ·rw[w5 s.zq102_h1_24];unfold y.zq102_h1_24
   simp only[yy,if_neg (show ¬(bs:Int)<(n:Int)by omega)]
 induction k with
 |zero=>grind
 |succ k ih=>
  intro bs l hb0 hk hB hG hn
  by_cases hc:bs<n
  ·obtain⟨R',r1,r2,r3⟩:=v.stab36 ho n hn2 bs hb0 (by omega) l.length [] l (Xae _) hB (by simpa using hG) (by simpa using hn)
   obtain⟨S,q1,q2,q3⟩:=ih (2*bs) R' (by omega) (by omega) r2 (fun f hf=>hG f (r1.mem_iff.1 hf)) (by rw[r1.length_eq,hn])
   refine⟨S,q1.trans r1,q2, ?_⟩
   have m2:IntKind.i64.wrap (2*(bs:Int))=((2*bs:Nat):Int):=Z56 (a:=2) (by omega)
   simp_all[w5 s.zq102_h1_24,yy,Zkh,y.zq102_h1_24]
  grind
theorem v.sort (l:List Fi)(hG:∀f∈l,G f)(hn2:l.length<=1000000000):
  ∃S:List Fi,S.Perm l/\So cmp S/\vl e 11440 1 [I l.length,cmpV,aggF l]=some (aggF S):=by
 obtain⟨R',r1,r2,r3⟩:=v.stab8 ho l.length hn2 l.length [] l (Xae _) (by simpa using hG) (by simp)
 obtain⟨S,q1,q2,q3⟩:=v.stab24 ho l.length hn2 l.length 20 R' (by omega) (by omega) r2 (fun f hf=>hG f (r1.mem_iff.1 hf)) r1.length_eq
 refine⟨S,q1.trans r1,q2, ?_⟩<;>simp_all[w3 s.zq99_h0,w4 s.zq102_h1,y.zq99_h0,y.zq102_h1]
end
end Go.Proofs.YtegmegbanfkomaaGreatDoor
