/-
  DERIVED. GIVEN WITH THE SEED: THE CARDS: each row of YtanocopjancaiaaGreatDoorRows.lean that lists a variable, with what it lists TIED to the program's text (the seventh form; the later family's looks); each row that meets fmt, with fmt's text TOLD by the authors' own Lean function (tested against real Go, not proved from fmt's source: count such statements apart). THE CARD IS WHAT COUNTS. Prove the row's statement (the work); the ties are given (YtanocopjancaiaaGreatDoorTie.lean); close each card by the builder's one call (the guide's Derived/Test/ToyasCard.lean, 'card_holds'). Laid BY PROGRAM, IN A SANDBOX (cutbox-door.mjs). By AI agents, Wed Nov 11 2026. No macro, syntax, notation, axiom, sorry.
-/
import Derived.Test.YtanocopjancaiaaGreatDoorRows
import GoSem.ClaimSeven
namespace Go.Proofs.YtanocopjancaiaaGreatDoor
namespace Rows

/-- THE TIED CARD OF 'seichelaw16.CondOn'. -/
def condOnCard : Claim7 := { stood := { row := condOnRow, standIns := [], harness := (true, "aa0e618292d50fe52f5483741aecc92d723cc4a3e1a14110e26a3ff3cac5df91"), looks := true }, kinds := [], alts := [], laidByText := true, laidKinds := [.data, .data, .data, .data, .sentinel, .sentinel, .widerDeep, .widerDeep, .widerDeep, .pinned], laidTests := true, laidLooks := .later }
def CondOnCardSaid : Prop := Claim7.holds Tryz.pinned (.plain (OpenSpec.ofChange condOnSpec)) condOnCard

/-- THE TIED CARD OF 'seichelaw16.CondHolds'. -/
def condHoldsCard : Claim7 := { stood := { row := condHoldsRow, standIns := [], harness := (true, "aa0e618292d50fe52f5483741aecc92d723cc4a3e1a14110e26a3ff3cac5df91"), looks := true }, kinds := [], alts := [], laidByText := true, laidKinds := [.data, .data, .data, .data, .sentinel, .sentinel, .widerDeep, .widerDeep, .widerDeep, .pinned], laidTests := true, laidLooks := .later }
def CondHoldsCardSaid : Prop := Claim7.holds Tryz.pinned (.plain (OpenSpec.ofChange condHoldsSpec)) condHoldsCard

/-- THE TIED CARD OF 'seichelaw16.CondIn'. -/
def condInCard : Claim7 := { stood := { row := condInRow, standIns := [], harness := (true, "aa0e618292d50fe52f5483741aecc92d723cc4a3e1a14110e26a3ff3cac5df91"), looks := true }, kinds := [], alts := [], laidByText := true, laidKinds := [.data, .data, .data, .data, .sentinel, .sentinel, .widerDeep, .widerDeep, .widerDeep, .pinned], laidTests := true, laidLooks := .later }
def CondInCardSaid : Prop := Claim7.holds Tryz.pinned (.plain (OpenSpec.ofChange condInSpec)) condInCard

/-- THE TIED CARD OF 'seichelaw16.CondLevels'. -/
def condLevelsCard : Claim7 := { stood := { row := condLevelsRow, standIns := [], harness := (true, "aa0e618292d50fe52f5483741aecc92d723cc4a3e1a14110e26a3ff3cac5df91"), looks := true }, kinds := [], alts := [], laidByText := true, laidKinds := [.data, .data, .data, .data, .sentinel, .sentinel, .widerDeep, .widerDeep, .widerDeep, .pinned], laidTests := true, laidLooks := .later }
def CondLevelsCardSaid : Prop := Claim7.holds Tryz.pinned (.plain (OpenSpec.ofChange condLevelsSpec)) condLevelsCard

/-- THE TIED CARD OF 'seichelaw16.CondOthers'. -/
def condOthersCard : Claim7 := { stood := { row := condOthersRow, standIns := [], harness := (true, "aa0e618292d50fe52f5483741aecc92d723cc4a3e1a14110e26a3ff3cac5df91"), looks := true }, kinds := [], alts := [], laidByText := true, laidKinds := [.data, .data, .data, .data, .sentinel, .sentinel, .widerDeep, .widerDeep, .widerDeep, .pinned], laidTests := true, laidLooks := .later }
def CondOthersCardSaid : Prop := Claim7.holds Tryz.pinned (.plain (OpenSpec.ofChange condOthersSpec)) condOthersCard

/-- THE TIED CARD OF 'seichelaw16.CondNames'. -/
def condNamesCard : Claim7 := { stood := { row := condNamesRow, standIns := [], harness := (true, "aa0e618292d50fe52f5483741aecc92d723cc4a3e1a14110e26a3ff3cac5df91"), looks := true }, kinds := [], alts := [], laidByText := true, laidKinds := [.data, .data, .data, .data, .sentinel, .sentinel, .widerDeep, .widerDeep, .widerDeep, .pinned], laidTests := true, laidLooks := .later }
def CondNamesCardSaid : Prop := Claim7.holds Tryz.pinned (.plain (OpenSpec.ofChange condNamesSpec)) condNamesCard

/-- THE SECOND FORM's CARD OF 'seichelaw16.CondOn'. -/
def condOnUptoCard : Claim7 := { stood := { row := condOnUptoRow, standIns := [], harness := (true, "aa0e618292d50fe52f5483741aecc92d723cc4a3e1a14110e26a3ff3cac5df91"), looks := true }, kinds := [], alts := [], laidByText := true, laidKinds := [.data, .data, .data, .data, .sentinel, .sentinel, .widerDeep, .widerDeep, .widerDeep, .pinned], laidTests := true, laidLooks := .later }
def CondOnUptoCardSaid : Prop := Claim7.holds Tryz.pinned (.plain (OpenSpec.upto condOnSpec)) condOnUptoCard

/-- THE SECOND FORM's CARD OF 'seichelaw16.CondHolds'. -/
def condHoldsUptoCard : Claim7 := { stood := { row := condHoldsUptoRow, standIns := [], harness := (true, "aa0e618292d50fe52f5483741aecc92d723cc4a3e1a14110e26a3ff3cac5df91"), looks := true }, kinds := [], alts := [], laidByText := true, laidKinds := [.data, .data, .data, .data, .sentinel, .sentinel, .widerDeep, .widerDeep, .widerDeep, .pinned], laidTests := true, laidLooks := .later }
def CondHoldsUptoCardSaid : Prop := Claim7.holds Tryz.pinned (.plain (OpenSpec.upto condHoldsSpec)) condHoldsUptoCard

/-- THE SECOND FORM's CARD OF 'seichelaw16.CondIn'. -/
def condInUptoCard : Claim7 := { stood := { row := condInUptoRow, standIns := [], harness := (true, "aa0e618292d50fe52f5483741aecc92d723cc4a3e1a14110e26a3ff3cac5df91"), looks := true }, kinds := [], alts := [], laidByText := true, laidKinds := [.data, .data, .data, .data, .sentinel, .sentinel, .widerDeep, .widerDeep, .widerDeep, .pinned], laidTests := true, laidLooks := .later }
def CondInUptoCardSaid : Prop := Claim7.holds Tryz.pinned (.plain (OpenSpec.upto condInSpec)) condInUptoCard

/-- THE SECOND FORM's CARD OF 'seichelaw16.CondLevels'. -/
def condLevelsUptoCard : Claim7 := { stood := { row := condLevelsUptoRow, standIns := [], harness := (true, "aa0e618292d50fe52f5483741aecc92d723cc4a3e1a14110e26a3ff3cac5df91"), looks := true }, kinds := [], alts := [], laidByText := true, laidKinds := [.data, .data, .data, .data, .sentinel, .sentinel, .widerDeep, .widerDeep, .widerDeep, .pinned], laidTests := true, laidLooks := .later }
def CondLevelsUptoCardSaid : Prop := Claim7.holds Tryz.pinned (.plain (OpenSpec.upto condLevelsSpec)) condLevelsUptoCard

/-- THE SECOND FORM's CARD OF 'seichelaw16.CondOthers'. -/
def condOthersUptoCard : Claim7 := { stood := { row := condOthersUptoRow, standIns := [], harness := (true, "aa0e618292d50fe52f5483741aecc92d723cc4a3e1a14110e26a3ff3cac5df91"), looks := true }, kinds := [], alts := [], laidByText := true, laidKinds := [.data, .data, .data, .data, .sentinel, .sentinel, .widerDeep, .widerDeep, .widerDeep, .pinned], laidTests := true, laidLooks := .later }
def CondOthersUptoCardSaid : Prop := Claim7.holds Tryz.pinned (.plain (OpenSpec.upto condOthersSpec)) condOthersUptoCard

/-- THE SECOND FORM's CARD OF 'seichelaw16.CondNames'. -/
def condNamesUptoCard : Claim7 := { stood := { row := condNamesUptoRow, standIns := [], harness := (true, "aa0e618292d50fe52f5483741aecc92d723cc4a3e1a14110e26a3ff3cac5df91"), looks := true }, kinds := [], alts := [], laidByText := true, laidKinds := [.data, .data, .data, .data, .sentinel, .sentinel, .widerDeep, .widerDeep, .widerDeep, .pinned], laidTests := true, laidLooks := .later }
def CondNamesUptoCardSaid : Prop := Claim7.holds Tryz.pinned (.plain (OpenSpec.upto condNamesSpec)) condNamesUptoCard
end Rows
end Go.Proofs.YtanocopjancaiaaGreatDoor
