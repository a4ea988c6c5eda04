/-
  NARROWER THAN 'FOR EVERY INPUT', by the rows' own cells (each row's printed sentence says how): CondOn: laid · CondHolds: laid · CondIn: laid · CondLevels: laid · CondOthers: laid · CondNames: laid.
  DERIVED. THE GIVEN ROWS OF THIS SEAT. 6 by the template 'for every input the law returns true; each argument reads behind the call as it read before'; 0 by the template 'total and deterministic' (their statements: YtanocopjancaiaaGreatDoorTotals.lean).
  GIVEN WITH THE SEED: the statements are not yours to turn. If you find one false, say at which input.
  Laid BY PROGRAM, IN A SANDBOX (cutbox-rows.mjs): the forced cells as the released guide's own fill.sh prints them over the translation 7acc2b995fe3cf8e… (all of the seat's roots in one cut). By AI agents, Wed Nov 11 2026. No macro, syntax, notation, axiom, sorry.
-/
import Derived.Test.YtanocopjancaiaaGreatDoorChecked
import GoSem.PinnedTables
import GoSem.Claim
import GoSem.ClaimJoined
import GoSem.ClaimMapViews
import Derived.JoinedTies
import Derived.KernelRfl
namespace Go.Proofs.YtanocopjancaiaaGreatDoor
/- THE CELL 'sum', in the pinned program and in every row, IS THE sha256 OF THE DUMP (.gsa) THAT YtanocopjancaiaaGreatDoorProg.lean LOADS. Nothing in Lean hashes anything: it is a label: what it is worth is what the hold of that sum in a sandbox is worth. -/
noncomputable def Tryz.pinned : Pinned := { name := "ytanocopjancaiaagreatdoor", sum := "7acc2b995fe3cf8e1a34c65f8a41a6d050a0a99230923fd69b8d55d6fa21c10e", checked := Tryz.checked }
namespace Rows
def none {H : Type} : Left H := { results := [], args := [] }

/- WHAT THE LISTED PACKAGE-LEVEL VARIABLES READ AS WHEN THE CALL BEGINS. Each datum BY PROGRAM (the guide's laid-datum.mjs) off the statement by which the dump's own 'gosem.cut.vars' lays the variable. In a bare row this is a premise. The card (YtanocopjancaiaaGreatDoorCards.lean) ties it to the program's text. -/
def laid_math_bits_deBruijn32tab {H : Type} : DataW H := .agg [.lit (.int .u8 0), .lit (.int .u8 1), .lit (.int .u8 28), .lit (.int .u8 2), .lit (.int .u8 29), .lit (.int .u8 14), .lit (.int .u8 24), .lit (.int .u8 3), .lit (.int .u8 30), .lit (.int .u8 22), .lit (.int .u8 20), .lit (.int .u8 15), .lit (.int .u8 25), .lit (.int .u8 17), .lit (.int .u8 4), .lit (.int .u8 8), .lit (.int .u8 31), .lit (.int .u8 27), .lit (.int .u8 13), .lit (.int .u8 23), .lit (.int .u8 21), .lit (.int .u8 19), .lit (.int .u8 16), .lit (.int .u8 7), .lit (.int .u8 26), .lit (.int .u8 12), .lit (.int .u8 18), .lit (.int .u8 6), .lit (.int .u8 11), .lit (.int .u8 5), .lit (.int .u8 10), .lit (.int .u8 9)]
def laid_math_bits_deBruijn64tab {H : Type} : DataW H := .agg [.lit (.int .u8 0), .lit (.int .u8 1), .lit (.int .u8 56), .lit (.int .u8 2), .lit (.int .u8 57), .lit (.int .u8 49), .lit (.int .u8 28), .lit (.int .u8 3), .lit (.int .u8 61), .lit (.int .u8 58), .lit (.int .u8 42), .lit (.int .u8 50), .lit (.int .u8 38), .lit (.int .u8 29), .lit (.int .u8 17), .lit (.int .u8 4), .lit (.int .u8 62), .lit (.int .u8 47), .lit (.int .u8 59), .lit (.int .u8 36), .lit (.int .u8 45), .lit (.int .u8 43), .lit (.int .u8 51), .lit (.int .u8 22), .lit (.int .u8 53), .lit (.int .u8 39), .lit (.int .u8 33), .lit (.int .u8 30), .lit (.int .u8 24), .lit (.int .u8 18), .lit (.int .u8 12), .lit (.int .u8 5), .lit (.int .u8 63), .lit (.int .u8 55), .lit (.int .u8 48), .lit (.int .u8 27), .lit (.int .u8 60), .lit (.int .u8 41), .lit (.int .u8 37), .lit (.int .u8 16), .lit (.int .u8 46), .lit (.int .u8 35), .lit (.int .u8 44), .lit (.int .u8 21), .lit (.int .u8 52), .lit (.int .u8 32), .lit (.int .u8 23), .lit (.int .u8 11), .lit (.int .u8 54), .lit (.int .u8 26), .lit (.int .u8 40), .lit (.int .u8 15), .lit (.int .u8 34), .lit (.int .u8 20), .lit (.int .u8 31), .lit (.int .u8 10), .lit (.int .u8 25), .lit (.int .u8 14), .lit (.int .u8 19), .lit (.int .u8 9), .lit (.int .u8 13), .lit (.int .u8 8), .lit (.int .u8 7), .lit (.int .u8 6)]
def laid_internal_strconv_uint64pow10 {H : Type} : DataW H := .agg [.lit (.int .u64 1), .lit (.int .u64 10), .lit (.int .u64 100), .lit (.int .u64 1000), .lit (.int .u64 10000), .lit (.int .u64 100000), .lit (.int .u64 1000000), .lit (.int .u64 10000000), .lit (.int .u64 100000000), .lit (.int .u64 1000000000), .lit (.int .u64 10000000000), .lit (.int .u64 100000000000), .lit (.int .u64 1000000000000), .lit (.int .u64 10000000000000), .lit (.int .u64 100000000000000), .lit (.int .u64 1000000000000000), .lit (.int .u64 10000000000000000), .lit (.int .u64 100000000000000000), .lit (.int .u64 1000000000000000000), .lit (.int .u64 10000000000000000000)]
def laid_unicode_utf8_acceptRanges {H : Type} : DataW H := .agg [.agg [.lit (.int .u8 128), .lit (.int .u8 191)], .agg [.lit (.int .u8 160), .lit (.int .u8 191)], .agg [.lit (.int .u8 128), .lit (.int .u8 159)], .agg [.lit (.int .u8 144), .lit (.int .u8 191)], .agg [.lit (.int .u8 128), .lit (.int .u8 143)], .agg [.lit (.int .u8 0), .lit (.int .u8 0)], .agg [.lit (.int .u8 0), .lit (.int .u8 0)], .agg [.lit (.int .u8 0), .lit (.int .u8 0)], .agg [.lit (.int .u8 0), .lit (.int .u8 0)], .agg [.lit (.int .u8 0), .lit (.int .u8 0)], .agg [.lit (.int .u8 0), .lit (.int .u8 0)], .agg [.lit (.int .u8 0), .lit (.int .u8 0)], .agg [.lit (.int .u8 0), .lit (.int .u8 0)], .agg [.lit (.int .u8 0), .lit (.int .u8 0)], .agg [.lit (.int .u8 0), .lit (.int .u8 0)], .agg [.lit (.int .u8 0), .lit (.int .u8 0)]]
def laid_strconv_ErrRange {H : Type} : DataW H := .iface "*errors.errorString" (.ptr (.agg [.lit (.string [118, 97, 108, 117, 101, 32, 111, 117, 116, 32, 111, 102, 32, 114, 97, 110, 103, 101])]))
def laid_strconv_ErrSyntax {H : Type} : DataW H := .iface "*errors.errorString" (.ptr (.agg [.lit (.string [105, 110, 118, 97, 108, 105, 100, 32, 115, 121, 110, 116, 97, 120])]))
def laid_seiche_suffix_systems {H : Type} : DataW H := .slice [.lit (.string [97, 105, 120]), .lit (.string [97, 110, 100, 114, 111, 105, 100]), .lit (.string [100, 97, 114, 119, 105, 110]), .lit (.string [100, 114, 97, 103, 111, 110, 102, 108, 121]), .lit (.string [102, 114, 101, 101, 98, 115, 100]), .lit (.string [105, 108, 108, 117, 109, 111, 115]), .lit (.string [105, 111, 115]), .lit (.string [106, 115]), .lit (.string [108, 105, 110, 117, 120]), .lit (.string [110, 101, 116, 98, 115, 100]), .lit (.string [111, 112, 101, 110, 98, 115, 100]), .lit (.string [112, 108, 97, 110, 57]), .lit (.string [115, 111, 108, 97, 114, 105, 115]), .lit (.string [119, 97, 115, 105, 112, 49]), .lit (.string [119, 105, 110, 100, 111, 119, 115])] []
def laid_seiche_suffix_processors {H : Type} : DataW H := .slice [.lit (.string [51, 56, 54]), .lit (.string [97, 109, 100, 54, 52]), .lit (.string [97, 114, 109]), .lit (.string [97, 114, 109, 54, 52]), .lit (.string [108, 111, 111, 110, 103, 54, 52]), .lit (.string [109, 105, 112, 115]), .lit (.string [109, 105, 112, 115, 54, 52]), .lit (.string [109, 105, 112, 115, 54, 52, 108, 101]), .lit (.string [109, 105, 112, 115, 108, 101]), .lit (.string [112, 112, 99, 54, 52]), .lit (.string [112, 112, 99, 54, 52, 108, 101]), .lit (.string [114, 105, 115, 99, 118, 54, 52]), .lit (.string [115, 51, 57, 48, 120]), .lit (.string [119, 97, 115, 109])] []
def laid_seiche_suffix_alike {H : Type} : DataW H := .slice [.lit (.string [97, 105, 120]), .lit (.string [97, 110, 100, 114, 111, 105, 100]), .lit (.string [100, 97, 114, 119, 105, 110]), .lit (.string [100, 114, 97, 103, 111, 110, 102, 108, 121]), .lit (.string [102, 114, 101, 101, 98, 115, 100]), .lit (.string [105, 108, 108, 117, 109, 111, 115]), .lit (.string [105, 111, 115]), .lit (.string [108, 105, 110, 117, 120]), .lit (.string [110, 101, 116, 98, 115, 100]), .lit (.string [111, 112, 101, 110, 98, 115, 100]), .lit (.string [115, 111, 108, 97, 114, 105, 115])] []
/-- One of Go's own tables, pinned by name: the form's constant. -/
def laid_unicode_utf8_first : DataW Unit := Go.Pinned.utf8First

/-- 'seichelaw16.CondOn': WHATEVER THE INPUT: true; the input reads as it did. -/
def condOnSpec : ChangeSpec := { name := "condOn", fn := fun _ => fun
  | [d1, d2] => { results := [.lit (.bool true)], args := [d1, d2] }
  | _ => none }
def condOnRow : OpenClaim := { program := "ytanocopjancaiaagreatdoor", sum := "7acc2b995fe3cf8e1a34c65f8a41a6d050a0a99230923fd69b8d55d6fa21c10e", func := "seiche/seichelaw16.CondOn", spec := "condOn", inPlace := ["internal/bytealg.CountString", "internal/bytealg.IndexByteString", "internal/bytealg.IndexString", "internal/abi.NoEscape", "internal/bytealg.MakeNoZero"], unfollowed := true, recurses := true, named := ["unicode/utf8.first", "unicode/utf8.acceptRanges", "internal/bytealg.MaxLen", "seiche/suffix.systems", "seiche/suffix.processors", "strconv.ErrSyntax", "strconv.ErrRange", "internal/strconv.uint64pow10", "math/bits.deBruijn32tab", "math/bits.deBruijn64tab", "seiche/suffix.alike"], apart := false, laid := [("math/bits.deBruijn32tab", laid_math_bits_deBruijn32tab), ("math/bits.deBruijn64tab", laid_math_bits_deBruijn64tab), ("internal/strconv.uint64pow10", laid_internal_strconv_uint64pow10), ("unicode/utf8.acceptRanges", laid_unicode_utf8_acceptRanges), ("strconv.ErrRange", laid_strconv_ErrRange), ("strconv.ErrSyntax", laid_strconv_ErrSyntax), ("seiche/suffix.systems", laid_seiche_suffix_systems), ("seiche/suffix.processors", laid_seiche_suffix_processors), ("seiche/suffix.alike", laid_seiche_suffix_alike), ("unicode/utf8.first", laid_unicode_utf8_first)] }
def CondOnSaid : Prop := condOnRow.holds Tryz.pinned (OpenSpec.ofChange condOnSpec)

/-- ITS FALSE NEIGHBOUR: 'it returns false'. Refute it at one input. -/
def condOnWrong : ChangeSpec := { name := "condOn", fn := fun _ => fun
  | [d1, d2] => { results := [.lit (.bool false)], args := [d1, d2] }
  | _ => none }
def CondOnWrongFalsely : Prop := condOnRow.holds Tryz.pinned (OpenSpec.ofChange condOnWrong)

/-- 'seichelaw16.CondHolds': WHATEVER THE INPUT: true; the input reads as it did. -/
def condHoldsSpec : ChangeSpec := { name := "condHolds", fn := fun _ => fun
  | [d1, d2] => { results := [.lit (.bool true)], args := [d1, d2] }
  | _ => none }
def condHoldsRow : OpenClaim := { program := "ytanocopjancaiaagreatdoor", sum := "7acc2b995fe3cf8e1a34c65f8a41a6d050a0a99230923fd69b8d55d6fa21c10e", func := "seiche/seichelaw16.CondHolds", spec := "condHolds", inPlace := ["internal/bytealg.CountString", "internal/bytealg.IndexByteString", "internal/bytealg.IndexString", "internal/abi.NoEscape", "internal/bytealg.MakeNoZero"], unfollowed := true, recurses := true, named := ["unicode/utf8.first", "unicode/utf8.acceptRanges", "internal/bytealg.MaxLen", "seiche/suffix.systems", "seiche/suffix.processors", "strconv.ErrSyntax", "strconv.ErrRange", "internal/strconv.uint64pow10", "math/bits.deBruijn32tab", "math/bits.deBruijn64tab", "seiche/suffix.alike"], apart := false, laid := [("math/bits.deBruijn32tab", laid_math_bits_deBruijn32tab), ("math/bits.deBruijn64tab", laid_math_bits_deBruijn64tab), ("internal/strconv.uint64pow10", laid_internal_strconv_uint64pow10), ("unicode/utf8.acceptRanges", laid_unicode_utf8_acceptRanges), ("strconv.ErrRange", laid_strconv_ErrRange), ("strconv.ErrSyntax", laid_strconv_ErrSyntax), ("seiche/suffix.systems", laid_seiche_suffix_systems), ("seiche/suffix.processors", laid_seiche_suffix_processors), ("seiche/suffix.alike", laid_seiche_suffix_alike), ("unicode/utf8.first", laid_unicode_utf8_first)] }
def CondHoldsSaid : Prop := condHoldsRow.holds Tryz.pinned (OpenSpec.ofChange condHoldsSpec)

/-- ITS FALSE NEIGHBOUR: 'it returns false'. Refute it at one input. -/
def condHoldsWrong : ChangeSpec := { name := "condHolds", fn := fun _ => fun
  | [d1, d2] => { results := [.lit (.bool false)], args := [d1, d2] }
  | _ => none }
def CondHoldsWrongFalsely : Prop := condHoldsRow.holds Tryz.pinned (OpenSpec.ofChange condHoldsWrong)

/-- 'seichelaw16.CondIn': WHATEVER THE INPUT: true; the input reads as it did. -/
def condInSpec : ChangeSpec := { name := "condIn", fn := fun _ => fun
  | [d1, d2, d3] => { results := [.lit (.bool true)], args := [d1, d2, d3] }
  | _ => none }
def condInRow : OpenClaim := { program := "ytanocopjancaiaagreatdoor", sum := "7acc2b995fe3cf8e1a34c65f8a41a6d050a0a99230923fd69b8d55d6fa21c10e", func := "seiche/seichelaw16.CondIn", spec := "condIn", inPlace := ["internal/bytealg.CountString", "internal/bytealg.IndexByteString", "internal/bytealg.IndexString", "internal/abi.NoEscape", "internal/bytealg.MakeNoZero"], unfollowed := true, recurses := true, named := ["unicode/utf8.first", "unicode/utf8.acceptRanges", "internal/bytealg.MaxLen", "seiche/suffix.systems", "seiche/suffix.processors", "strconv.ErrSyntax", "strconv.ErrRange", "internal/strconv.uint64pow10", "math/bits.deBruijn32tab", "math/bits.deBruijn64tab", "seiche/suffix.alike"], apart := false, laid := [("math/bits.deBruijn32tab", laid_math_bits_deBruijn32tab), ("math/bits.deBruijn64tab", laid_math_bits_deBruijn64tab), ("internal/strconv.uint64pow10", laid_internal_strconv_uint64pow10), ("unicode/utf8.acceptRanges", laid_unicode_utf8_acceptRanges), ("strconv.ErrRange", laid_strconv_ErrRange), ("strconv.ErrSyntax", laid_strconv_ErrSyntax), ("seiche/suffix.systems", laid_seiche_suffix_systems), ("seiche/suffix.processors", laid_seiche_suffix_processors), ("seiche/suffix.alike", laid_seiche_suffix_alike), ("unicode/utf8.first", laid_unicode_utf8_first)] }
def CondInSaid : Prop := condInRow.holds Tryz.pinned (OpenSpec.ofChange condInSpec)

/-- ITS FALSE NEIGHBOUR: 'it returns false'. Refute it at one input. -/
def condInWrong : ChangeSpec := { name := "condIn", fn := fun _ => fun
  | [d1, d2, d3] => { results := [.lit (.bool false)], args := [d1, d2, d3] }
  | _ => none }
def CondInWrongFalsely : Prop := condInRow.holds Tryz.pinned (OpenSpec.ofChange condInWrong)

/-- 'seichelaw16.CondLevels': WHATEVER THE INPUT: true; the input reads as it did. -/
def condLevelsSpec : ChangeSpec := { name := "condLevels", fn := fun _ => fun
  | [d1, d2, d3, d4] => { results := [.lit (.bool true)], args := [d1, d2, d3, d4] }
  | _ => none }
def condLevelsRow : OpenClaim := { program := "ytanocopjancaiaagreatdoor", sum := "7acc2b995fe3cf8e1a34c65f8a41a6d050a0a99230923fd69b8d55d6fa21c10e", func := "seiche/seichelaw16.CondLevels", spec := "condLevels", inPlace := ["internal/bytealg.CountString", "internal/bytealg.IndexByteString", "internal/bytealg.IndexString", "internal/abi.NoEscape", "internal/bytealg.MakeNoZero"], unfollowed := true, recurses := true, named := ["unicode/utf8.first", "unicode/utf8.acceptRanges", "internal/bytealg.MaxLen", "seiche/suffix.systems", "seiche/suffix.processors", "strconv.ErrSyntax", "strconv.ErrRange", "internal/strconv.uint64pow10", "math/bits.deBruijn32tab", "math/bits.deBruijn64tab", "seiche/suffix.alike"], apart := false, laid := [("math/bits.deBruijn32tab", laid_math_bits_deBruijn32tab), ("math/bits.deBruijn64tab", laid_math_bits_deBruijn64tab), ("internal/strconv.uint64pow10", laid_internal_strconv_uint64pow10), ("unicode/utf8.acceptRanges", laid_unicode_utf8_acceptRanges), ("strconv.ErrRange", laid_strconv_ErrRange), ("strconv.ErrSyntax", laid_strconv_ErrSyntax), ("seiche/suffix.systems", laid_seiche_suffix_systems), ("seiche/suffix.processors", laid_seiche_suffix_processors), ("seiche/suffix.alike", laid_seiche_suffix_alike), ("unicode/utf8.first", laid_unicode_utf8_first)] }
def CondLevelsSaid : Prop := condLevelsRow.holds Tryz.pinned (OpenSpec.ofChange condLevelsSpec)

/-- ITS FALSE NEIGHBOUR: 'it returns false'. Refute it at one input. -/
def condLevelsWrong : ChangeSpec := { name := "condLevels", fn := fun _ => fun
  | [d1, d2, d3, d4] => { results := [.lit (.bool false)], args := [d1, d2, d3, d4] }
  | _ => none }
def CondLevelsWrongFalsely : Prop := condLevelsRow.holds Tryz.pinned (OpenSpec.ofChange condLevelsWrong)

/-- 'seichelaw16.CondOthers': WHATEVER THE INPUT: true; the input reads as it did. -/
def condOthersSpec : ChangeSpec := { name := "condOthers", fn := fun _ => fun
  | [d1, d2, d3] => { results := [.lit (.bool true)], args := [d1, d2, d3] }
  | _ => none }
def condOthersRow : OpenClaim := { program := "ytanocopjancaiaagreatdoor", sum := "7acc2b995fe3cf8e1a34c65f8a41a6d050a0a99230923fd69b8d55d6fa21c10e", func := "seiche/seichelaw16.CondOthers", spec := "condOthers", inPlace := ["internal/bytealg.CountString", "internal/bytealg.IndexByteString", "internal/bytealg.IndexString", "internal/abi.NoEscape", "internal/bytealg.MakeNoZero"], unfollowed := true, recurses := true, named := ["unicode/utf8.first", "unicode/utf8.acceptRanges", "internal/bytealg.MaxLen", "seiche/suffix.systems", "seiche/suffix.processors", "strconv.ErrSyntax", "strconv.ErrRange", "internal/strconv.uint64pow10", "math/bits.deBruijn32tab", "math/bits.deBruijn64tab", "seiche/suffix.alike"], apart := false, laid := [("math/bits.deBruijn32tab", laid_math_bits_deBruijn32tab), ("math/bits.deBruijn64tab", laid_math_bits_deBruijn64tab), ("internal/strconv.uint64pow10", laid_internal_strconv_uint64pow10), ("unicode/utf8.acceptRanges", laid_unicode_utf8_acceptRanges), ("strconv.ErrRange", laid_strconv_ErrRange), ("strconv.ErrSyntax", laid_strconv_ErrSyntax), ("seiche/suffix.systems", laid_seiche_suffix_systems), ("seiche/suffix.processors", laid_seiche_suffix_processors), ("seiche/suffix.alike", laid_seiche_suffix_alike), ("unicode/utf8.first", laid_unicode_utf8_first)] }
def CondOthersSaid : Prop := condOthersRow.holds Tryz.pinned (OpenSpec.ofChange condOthersSpec)

/-- ITS FALSE NEIGHBOUR: 'it returns false'. Refute it at one input. -/
def condOthersWrong : ChangeSpec := { name := "condOthers", fn := fun _ => fun
  | [d1, d2, d3] => { results := [.lit (.bool false)], args := [d1, d2, d3] }
  | _ => none }
def CondOthersWrongFalsely : Prop := condOthersRow.holds Tryz.pinned (OpenSpec.ofChange condOthersWrong)

/-- 'seichelaw16.CondNames': WHATEVER THE INPUT: true; the input reads as it did. -/
def condNamesSpec : ChangeSpec := { name := "condNames", fn := fun _ => fun
  | [d1, d2, d3, d4] => { results := [.lit (.bool true)], args := [d1, d2, d3, d4] }
  | _ => none }
def condNamesRow : OpenClaim := { program := "ytanocopjancaiaagreatdoor", sum := "7acc2b995fe3cf8e1a34c65f8a41a6d050a0a99230923fd69b8d55d6fa21c10e", func := "seiche/seichelaw16.CondNames", spec := "condNames", inPlace := ["internal/bytealg.CountString", "internal/bytealg.IndexByteString", "internal/bytealg.IndexString", "internal/abi.NoEscape", "internal/bytealg.MakeNoZero"], unfollowed := true, recurses := true, named := ["unicode/utf8.first", "unicode/utf8.acceptRanges", "internal/bytealg.MaxLen", "seiche/suffix.systems", "seiche/suffix.processors", "strconv.ErrSyntax", "strconv.ErrRange", "internal/strconv.uint64pow10", "math/bits.deBruijn32tab", "math/bits.deBruijn64tab", "seiche/suffix.alike"], apart := false, laid := [("math/bits.deBruijn32tab", laid_math_bits_deBruijn32tab), ("math/bits.deBruijn64tab", laid_math_bits_deBruijn64tab), ("internal/strconv.uint64pow10", laid_internal_strconv_uint64pow10), ("unicode/utf8.acceptRanges", laid_unicode_utf8_acceptRanges), ("strconv.ErrRange", laid_strconv_ErrRange), ("strconv.ErrSyntax", laid_strconv_ErrSyntax), ("seiche/suffix.systems", laid_seiche_suffix_systems), ("seiche/suffix.processors", laid_seiche_suffix_processors), ("seiche/suffix.alike", laid_seiche_suffix_alike), ("unicode/utf8.first", laid_unicode_utf8_first)] }
def CondNamesSaid : Prop := condNamesRow.holds Tryz.pinned (OpenSpec.ofChange condNamesSpec)

/-- ITS FALSE NEIGHBOUR: 'it returns false'. Refute it at one input. -/
def condNamesWrong : ChangeSpec := { name := "condNames", fn := fun _ => fun
  | [d1, d2, d3, d4] => { results := [.lit (.bool false)], args := [d1, d2, d3, d4] }
  | _ => none }
def CondNamesWrongFalsely : Prop := condNamesRow.holds Tryz.pinned (OpenSpec.ofChange condNamesWrong)

/- THE SECOND FORM. 'bulk': how many values and letters a reading holds, each counted each time it is reached (what is shared counts as often as it is met; a slice's spare places count too). A statement '..UptoSaid' is the law's where the arguments, and the package variables that the reading takes, are together of bulk at most 1048576: NARROWER than '..Said'. Prove '..Said' where nothing that the law and all that it calls make is longer than what came in: it says more and counts as full. Else prove '..UptoSaid'. A law counts once. -/
mutual
def uptoBulk {H : Type} : DataW H → Nat
  | .lit (.string bytes) => bytes.length + 1
  | .lit _ => 1
  | .nil => 1
  | .ptr d => uptoBulk d + 1
  | .slice elems spare => uptoBulkAll elems + uptoBulkAll spare + 1
  | .agg parts => uptoBulkAll parts + 1
  | .iface _ d => uptoBulk d + 1
  | .map entries => uptoBulkEntries entries + 1
  | .held _ => 1
def uptoBulkAll {H : Type} : List (DataW H) → Nat
  | [] => 0
  | d :: r => uptoBulk d + uptoBulkAll r
def uptoBulkEntries {H : Type} : List (Lit × DataW H) → Nat
  | [] => 0
  | x :: r => uptoBulkEntry x + uptoBulkEntries r
def uptoBulkEntry {H : Type} : Lit × DataW H → Nat
  | (.string bytes, d) => bytes.length + uptoBulk d + 1
  | (_, d) => uptoBulk d + 1
 end
def uptoSmall : (H : Type) → List (DataW H) → Bool := fun _ ds => decide (uptoBulkAll ds ≤ 1048576)
def OpenSpec.upto (s : _root_.Go.ChangeSpec) : _root_.Go.OpenSpec := { _root_.Go.OpenSpec.ofChange s with cond := some uptoSmall }

/-- 'seichelaw16.CondOn', WHERE WHAT IT READS IS OF BULK AT MOST 1048576: true; the input reads as it did. -/
def condOnUptoRow : OpenClaim := { program := "ytanocopjancaiaagreatdoor", sum := "7acc2b995fe3cf8e1a34c65f8a41a6d050a0a99230923fd69b8d55d6fa21c10e", func := "seiche/seichelaw16.CondOn", spec := "condOn", inPlace := ["internal/bytealg.CountString", "internal/bytealg.IndexByteString", "internal/bytealg.IndexString", "internal/abi.NoEscape", "internal/bytealg.MakeNoZero"], unfollowed := true, recurses := true, named := ["unicode/utf8.first", "unicode/utf8.acceptRanges", "internal/bytealg.MaxLen", "seiche/suffix.systems", "seiche/suffix.processors", "strconv.ErrSyntax", "strconv.ErrRange", "internal/strconv.uint64pow10", "math/bits.deBruijn32tab", "math/bits.deBruijn64tab", "seiche/suffix.alike"], apart := false, laid := [("math/bits.deBruijn32tab", laid_math_bits_deBruijn32tab), ("math/bits.deBruijn64tab", laid_math_bits_deBruijn64tab), ("internal/strconv.uint64pow10", laid_internal_strconv_uint64pow10), ("unicode/utf8.acceptRanges", laid_unicode_utf8_acceptRanges), ("strconv.ErrRange", laid_strconv_ErrRange), ("strconv.ErrSyntax", laid_strconv_ErrSyntax), ("seiche/suffix.systems", laid_seiche_suffix_systems), ("seiche/suffix.processors", laid_seiche_suffix_processors), ("seiche/suffix.alike", laid_seiche_suffix_alike), ("unicode/utf8.first", laid_unicode_utf8_first)], narrowed := true }
def CondOnUptoSaid : Prop := condOnUptoRow.holds Tryz.pinned (OpenSpec.upto condOnSpec)

/-- 'seichelaw16.CondHolds', WHERE WHAT IT READS IS OF BULK AT MOST 1048576: true; the input reads as it did. -/
def condHoldsUptoRow : OpenClaim := { program := "ytanocopjancaiaagreatdoor", sum := "7acc2b995fe3cf8e1a34c65f8a41a6d050a0a99230923fd69b8d55d6fa21c10e", func := "seiche/seichelaw16.CondHolds", spec := "condHolds", inPlace := ["internal/bytealg.CountString", "internal/bytealg.IndexByteString", "internal/bytealg.IndexString", "internal/abi.NoEscape", "internal/bytealg.MakeNoZero"], unfollowed := true, recurses := true, named := ["unicode/utf8.first", "unicode/utf8.acceptRanges", "internal/bytealg.MaxLen", "seiche/suffix.systems", "seiche/suffix.processors", "strconv.ErrSyntax", "strconv.ErrRange", "internal/strconv.uint64pow10", "math/bits.deBruijn32tab", "math/bits.deBruijn64tab", "seiche/suffix.alike"], apart := false, laid := [("math/bits.deBruijn32tab", laid_math_bits_deBruijn32tab), ("math/bits.deBruijn64tab", laid_math_bits_deBruijn64tab), ("internal/strconv.uint64pow10", laid_internal_strconv_uint64pow10), ("unicode/utf8.acceptRanges", laid_unicode_utf8_acceptRanges), ("strconv.ErrRange", laid_strconv_ErrRange), ("strconv.ErrSyntax", laid_strconv_ErrSyntax), ("seiche/suffix.systems", laid_seiche_suffix_systems), ("seiche/suffix.processors", laid_seiche_suffix_processors), ("seiche/suffix.alike", laid_seiche_suffix_alike), ("unicode/utf8.first", laid_unicode_utf8_first)], narrowed := true }
def CondHoldsUptoSaid : Prop := condHoldsUptoRow.holds Tryz.pinned (OpenSpec.upto condHoldsSpec)

/-- 'seichelaw16.CondIn', WHERE WHAT IT READS IS OF BULK AT MOST 1048576: true; the input reads as it did. -/
def condInUptoRow : OpenClaim := { program := "ytanocopjancaiaagreatdoor", sum := "7acc2b995fe3cf8e1a34c65f8a41a6d050a0a99230923fd69b8d55d6fa21c10e", func := "seiche/seichelaw16.CondIn", spec := "condIn", inPlace := ["internal/bytealg.CountString", "internal/bytealg.IndexByteString", "internal/bytealg.IndexString", "internal/abi.NoEscape", "internal/bytealg.MakeNoZero"], unfollowed := true, recurses := true, named := ["unicode/utf8.first", "unicode/utf8.acceptRanges", "internal/bytealg.MaxLen", "seiche/suffix.systems", "seiche/suffix.processors", "strconv.ErrSyntax", "strconv.ErrRange", "internal/strconv.uint64pow10", "math/bits.deBruijn32tab", "math/bits.deBruijn64tab", "seiche/suffix.alike"], apart := false, laid := [("math/bits.deBruijn32tab", laid_math_bits_deBruijn32tab), ("math/bits.deBruijn64tab", laid_math_bits_deBruijn64tab), ("internal/strconv.uint64pow10", laid_internal_strconv_uint64pow10), ("unicode/utf8.acceptRanges", laid_unicode_utf8_acceptRanges), ("strconv.ErrRange", laid_strconv_ErrRange), ("strconv.ErrSyntax", laid_strconv_ErrSyntax), ("seiche/suffix.systems", laid_seiche_suffix_systems), ("seiche/suffix.processors", laid_seiche_suffix_processors), ("seiche/suffix.alike", laid_seiche_suffix_alike), ("unicode/utf8.first", laid_unicode_utf8_first)], narrowed := true }
def CondInUptoSaid : Prop := condInUptoRow.holds Tryz.pinned (OpenSpec.upto condInSpec)

/-- 'seichelaw16.CondLevels', WHERE WHAT IT READS IS OF BULK AT MOST 1048576: true; the input reads as it did. -/
def condLevelsUptoRow : OpenClaim := { program := "ytanocopjancaiaagreatdoor", sum := "7acc2b995fe3cf8e1a34c65f8a41a6d050a0a99230923fd69b8d55d6fa21c10e", func := "seiche/seichelaw16.CondLevels", spec := "condLevels", inPlace := ["internal/bytealg.CountString", "internal/bytealg.IndexByteString", "internal/bytealg.IndexString", "internal/abi.NoEscape", "internal/bytealg.MakeNoZero"], unfollowed := true, recurses := true, named := ["unicode/utf8.first", "unicode/utf8.acceptRanges", "internal/bytealg.MaxLen", "seiche/suffix.systems", "seiche/suffix.processors", "strconv.ErrSyntax", "strconv.ErrRange", "internal/strconv.uint64pow10", "math/bits.deBruijn32tab", "math/bits.deBruijn64tab", "seiche/suffix.alike"], apart := false, laid := [("math/bits.deBruijn32tab", laid_math_bits_deBruijn32tab), ("math/bits.deBruijn64tab", laid_math_bits_deBruijn64tab), ("internal/strconv.uint64pow10", laid_internal_strconv_uint64pow10), ("unicode/utf8.acceptRanges", laid_unicode_utf8_acceptRanges), ("strconv.ErrRange", laid_strconv_ErrRange), ("strconv.ErrSyntax", laid_strconv_ErrSyntax), ("seiche/suffix.systems", laid_seiche_suffix_systems), ("seiche/suffix.processors", laid_seiche_suffix_processors), ("seiche/suffix.alike", laid_seiche_suffix_alike), ("unicode/utf8.first", laid_unicode_utf8_first)], narrowed := true }
def CondLevelsUptoSaid : Prop := condLevelsUptoRow.holds Tryz.pinned (OpenSpec.upto condLevelsSpec)

/-- 'seichelaw16.CondOthers', WHERE WHAT IT READS IS OF BULK AT MOST 1048576: true; the input reads as it did. -/
def condOthersUptoRow : OpenClaim := { program := "ytanocopjancaiaagreatdoor", sum := "7acc2b995fe3cf8e1a34c65f8a41a6d050a0a99230923fd69b8d55d6fa21c10e", func := "seiche/seichelaw16.CondOthers", spec := "condOthers", inPlace := ["internal/bytealg.CountString", "internal/bytealg.IndexByteString", "internal/bytealg.IndexString", "internal/abi.NoEscape", "internal/bytealg.MakeNoZero"], unfollowed := true, recurses := true, named := ["unicode/utf8.first", "unicode/utf8.acceptRanges", "internal/bytealg.MaxLen", "seiche/suffix.systems", "seiche/suffix.processors", "strconv.ErrSyntax", "strconv.ErrRange", "internal/strconv.uint64pow10", "math/bits.deBruijn32tab", "math/bits.deBruijn64tab", "seiche/suffix.alike"], apart := false, laid := [("math/bits.deBruijn32tab", laid_math_bits_deBruijn32tab), ("math/bits.deBruijn64tab", laid_math_bits_deBruijn64tab), ("internal/strconv.uint64pow10", laid_internal_strconv_uint64pow10), ("unicode/utf8.acceptRanges", laid_unicode_utf8_acceptRanges), ("strconv.ErrRange", laid_strconv_ErrRange), ("strconv.ErrSyntax", laid_strconv_ErrSyntax), ("seiche/suffix.systems", laid_seiche_suffix_systems), ("seiche/suffix.processors", laid_seiche_suffix_processors), ("seiche/suffix.alike", laid_seiche_suffix_alike), ("unicode/utf8.first", laid_unicode_utf8_first)], narrowed := true }
def CondOthersUptoSaid : Prop := condOthersUptoRow.holds Tryz.pinned (OpenSpec.upto condOthersSpec)

/-- 'seichelaw16.CondNames', WHERE WHAT IT READS IS OF BULK AT MOST 1048576: true; the input reads as it did. -/
def condNamesUptoRow : OpenClaim := { program := "ytanocopjancaiaagreatdoor", sum := "7acc2b995fe3cf8e1a34c65f8a41a6d050a0a99230923fd69b8d55d6fa21c10e", func := "seiche/seichelaw16.CondNames", spec := "condNames", inPlace := ["internal/bytealg.CountString", "internal/bytealg.IndexByteString", "internal/bytealg.IndexString", "internal/abi.NoEscape", "internal/bytealg.MakeNoZero"], unfollowed := true, recurses := true, named := ["unicode/utf8.first", "unicode/utf8.acceptRanges", "internal/bytealg.MaxLen", "seiche/suffix.systems", "seiche/suffix.processors", "strconv.ErrSyntax", "strconv.ErrRange", "internal/strconv.uint64pow10", "math/bits.deBruijn32tab", "math/bits.deBruijn64tab", "seiche/suffix.alike"], apart := false, laid := [("math/bits.deBruijn32tab", laid_math_bits_deBruijn32tab), ("math/bits.deBruijn64tab", laid_math_bits_deBruijn64tab), ("internal/strconv.uint64pow10", laid_internal_strconv_uint64pow10), ("unicode/utf8.acceptRanges", laid_unicode_utf8_acceptRanges), ("strconv.ErrRange", laid_strconv_ErrRange), ("strconv.ErrSyntax", laid_strconv_ErrSyntax), ("seiche/suffix.systems", laid_seiche_suffix_systems), ("seiche/suffix.processors", laid_seiche_suffix_processors), ("seiche/suffix.alike", laid_seiche_suffix_alike), ("unicode/utf8.first", laid_unicode_utf8_first)], narrowed := true }
def CondNamesUptoSaid : Prop := condNamesUptoRow.holds Tryz.pinned (OpenSpec.upto condNamesSpec)

end Rows
end Go.Proofs.YtanocopjancaiaaGreatDoor
