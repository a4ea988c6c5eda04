/-
  DERIVED. GIVEN WITH THE SEED: THE CARDS: each row of YtghjeddphkmciaaDoorRows.lean that lists a variable, with what it lists TIED to the program's text (the seventh form; the later family's looks); each row that meets fmt, with fmt's text TOLD by the authors' own Lean function (tested against real Go, not proved from fmt's source: count such statements apart). THE CARD IS WHAT COUNTS. Prove the row's statement (the work); the ties are given (YtghjeddphkmciaaDoorTie.lean); close each card by the builder's one call (the guide's Derived/Test/ToyasCard.lean, 'card_holds'). Laid BY PROGRAM, IN A SANDBOX (cutbox-door.mjs). By AI agents, Wed Nov 11 2026. No macro, syntax, notation, axiom, sorry.
-/
import Derived.Test.YtghjeddphkmciaaDoorRows
import GoSem.ClaimSeven
namespace Go.Proofs.YtghjeddphkmciaaDoor
namespace Rows

/-- THE TIED CARD OF 'seichelaw07.ObjectNames'. -/
def objectNamesCard : Claim7 := { stood := { row := objectNamesRow, standIns := [], harness := (true, "d97b35db6b08b45b2a3571745a993fbb86a1537b70598d34127dac3e4329716f"), looks := false }, kinds := [], alts := [], laidByText := true, laidKinds := [.data, .data, .pinned], laidTests := true, laidLooks := .later }
def ObjectNamesCardSaid : Prop := Claim7.holds Tryd.pinned (.plain (OpenSpec.ofChange objectNamesSpec)) objectNamesCard

/-- THE TIED CARD OF 'seichelaw14.PlusParses'. -/
def plusParsesCard : Claim7 := { stood := { row := plusParsesRow, standIns := [], harness := (true, "d97b35db6b08b45b2a3571745a993fbb86a1537b70598d34127dac3e4329716f"), looks := false }, kinds := [], alts := [], laidByText := true, laidKinds := [.data, .pinned], laidTests := true, laidLooks := .later }
def PlusParsesCardSaid : Prop := Claim7.holds Tryd.pinned (.plain (OpenSpec.ofChange plusParsesSpec)) plusParsesCard

/-- THE TIED CARD OF 'seichelaw14.PlusBlank'. -/
def plusBlankCard : Claim7 := { stood := { row := plusBlankRow, standIns := [], harness := (true, "d97b35db6b08b45b2a3571745a993fbb86a1537b70598d34127dac3e4329716f"), looks := false }, kinds := [], alts := [], laidByText := true, laidKinds := [.data, .pinned], laidTests := true, laidLooks := .later }
def PlusBlankCardSaid : Prop := Claim7.holds Tryd.pinned (.plain (OpenSpec.ofChange plusBlankSpec)) plusBlankCard

/-- THE TIED CARD OF 'seichelaw14.PlusMeans'. -/
def plusMeansCard : Claim7 := { stood := { row := plusMeansRow, standIns := [], harness := (true, "d97b35db6b08b45b2a3571745a993fbb86a1537b70598d34127dac3e4329716f"), looks := false }, kinds := [], alts := [], laidByText := true, laidKinds := [.data, .pinned], laidTests := true, laidLooks := .later }
def PlusMeansCardSaid : Prop := Claim7.holds Tryd.pinned (.plain (OpenSpec.ofChange plusMeansSpec)) plusMeansCard

/-- THE SECOND FORM's CARD OF 'seichelaw07.ObjectNames'. -/
def objectNamesUptoCard : Claim7 := { stood := { row := objectNamesUptoRow, standIns := [], harness := (true, "d97b35db6b08b45b2a3571745a993fbb86a1537b70598d34127dac3e4329716f"), looks := false }, kinds := [], alts := [], laidByText := true, laidKinds := [.data, .data, .pinned], laidTests := true, laidLooks := .later }
def ObjectNamesUptoCardSaid : Prop := Claim7.holds Tryd.pinned (.plain (OpenSpec.upto objectNamesSpec)) objectNamesUptoCard

/-- THE SECOND FORM's CARD OF 'seichelaw14.PlusParses'. -/
def plusParsesUptoCard : Claim7 := { stood := { row := plusParsesUptoRow, standIns := [], harness := (true, "d97b35db6b08b45b2a3571745a993fbb86a1537b70598d34127dac3e4329716f"), looks := false }, kinds := [], alts := [], laidByText := true, laidKinds := [.data, .pinned], laidTests := true, laidLooks := .later }
def PlusParsesUptoCardSaid : Prop := Claim7.holds Tryd.pinned (.plain (OpenSpec.upto plusParsesSpec)) plusParsesUptoCard

/-- THE SECOND FORM's CARD OF 'seichelaw14.PlusBlank'. -/
def plusBlankUptoCard : Claim7 := { stood := { row := plusBlankUptoRow, standIns := [], harness := (true, "d97b35db6b08b45b2a3571745a993fbb86a1537b70598d34127dac3e4329716f"), looks := false }, kinds := [], alts := [], laidByText := true, laidKinds := [.data, .pinned], laidTests := true, laidLooks := .later }
def PlusBlankUptoCardSaid : Prop := Claim7.holds Tryd.pinned (.plain (OpenSpec.upto plusBlankSpec)) plusBlankUptoCard

/-- THE SECOND FORM's CARD OF 'seichelaw14.PlusMeans'. -/
def plusMeansUptoCard : Claim7 := { stood := { row := plusMeansUptoRow, standIns := [], harness := (true, "d97b35db6b08b45b2a3571745a993fbb86a1537b70598d34127dac3e4329716f"), looks := false }, kinds := [], alts := [], laidByText := true, laidKinds := [.data, .pinned], laidTests := true, laidLooks := .later }
def PlusMeansUptoCardSaid : Prop := Claim7.holds Tryd.pinned (.plain (OpenSpec.upto plusMeansSpec)) plusMeansUptoCard
end Rows
end Go.Proofs.YtghjeddphkmciaaDoor
