/-
  DERIVED. GIVEN WITH THE SEED: THE CARDS: each row of YtegmegbanfkomaaGreatDoorRows.lean that lists a variable, with what it lists TIED to the program's text (the seventh form; the later family's looks); each row that meets fmt, with fmt's text TOLD by the authors' own Lean function (tested against real Go, not proved from fmt's source: count such statements apart). THE CARD IS WHAT COUNTS. Prove the row's statement (the work); the ties are given (YtegmegbanfkomaaGreatDoorTie.lean); close each card by the builder's one call (the guide's Derived/Test/ToyasCard.lean, 'card_holds'). Laid BY PROGRAM, IN A SANDBOX (cutbox-door.mjs). By AI agents, Wed Nov 11 2026. No macro, syntax, notation, axiom, sorry.
-/
import Derived.Test.YtegmegbanfkomaaGreatDoorRows
import GoSem.ClaimSeven
namespace Go.Proofs.YtegmegbanfkomaaGreatDoor
namespace Rows

/-- THE TIED CARD OF 'seichelaw18.ResolveTrees'. -/
def resolveTreesCard : Claim7 := { stood := { row := resolveTreesRow, standIns := [], harness := (true, "e582adcac84b809eac10919604cb5f5d85da7f2556fc385f80692f7ab2923b05"), looks := true }, kinds := [], alts := [], laidByText := true, laidKinds := [.data, .data, .data, .data, .data, .sentinel, .sentinel, .widerDeep, .widerDeep, .pinned], laidTests := true, laidLooks := .later }
def ResolveTreesCardSaid : Prop := Claim7.holds Tryz.pinned (.plain (OpenSpec.ofChange resolveTreesSpec)) resolveTreesCard

/-- THE TIED CARD OF 'seichelaw18.ResolveNone'. -/
def resolveNoneCard : Claim7 := { stood := { row := resolveNoneRow, standIns := [], harness := (true, "e582adcac84b809eac10919604cb5f5d85da7f2556fc385f80692f7ab2923b05"), looks := true }, kinds := [], alts := [], laidByText := true, laidKinds := [.data, .data, .data, .data, .data, .sentinel, .sentinel, .widerDeep, .widerDeep, .pinned], laidTests := true, laidLooks := .later }
def ResolveNoneCardSaid : Prop := Claim7.holds Tryz.pinned (.plain (OpenSpec.ofChange resolveNoneSpec)) resolveNoneCard

/-- THE TIED CARD OF 'seichelaw18.ResolvePlaces'. -/
def resolvePlacesCard : Claim7 := { stood := { row := resolvePlacesRow, standIns := [], harness := (true, "e582adcac84b809eac10919604cb5f5d85da7f2556fc385f80692f7ab2923b05"), looks := true }, kinds := [], alts := [], laidByText := true, laidKinds := [.data, .data, .data, .data, .data, .sentinel, .sentinel, .widerDeep, .widerDeep, .pinned], laidTests := true, laidLooks := .later }
def ResolvePlacesCardSaid : Prop := Claim7.holds Tryz.pinned (.plain (OpenSpec.ofChange resolvePlacesSpec)) resolvePlacesCard

/-- THE TIED CARD OF 'seichelaw20.EmbedIs'. -/
def embedIsCard : Claim7 := { stood := { row := embedIsRow, standIns := [], harness := (true, "e582adcac84b809eac10919604cb5f5d85da7f2556fc385f80692f7ab2923b05"), looks := true }, kinds := [], alts := [], laidByText := true, laidKinds := [.data, .data, .data, .data, .data, .sentinel, .sentinel, .widerDeep, .widerDeep, .pinned], laidTests := true, laidLooks := .later }
def EmbedIsCardSaid : Prop := Claim7.holds Tryz.pinned (.plain (OpenSpec.ofChange embedIsSpec)) embedIsCard

/-- THE TIED CARD OF 'seichelaw20.EmbedMore'. -/
def embedMoreCard : Claim7 := { stood := { row := embedMoreRow, standIns := [], harness := (true, "e582adcac84b809eac10919604cb5f5d85da7f2556fc385f80692f7ab2923b05"), looks := true }, kinds := [], alts := [], laidByText := true, laidKinds := [.data, .data, .data, .data, .data, .sentinel, .sentinel, .widerDeep, .widerDeep, .pinned], laidTests := true, laidLooks := .later }
def EmbedMoreCardSaid : Prop := Claim7.holds Tryz.pinned (.plain (OpenSpec.ofChange embedMoreSpec)) embedMoreCard

/-- THE TIED CARD OF 'seichelaw20.EmbedNested'. -/
def embedNestedCard : Claim7 := { stood := { row := embedNestedRow, standIns := [], harness := (true, "e582adcac84b809eac10919604cb5f5d85da7f2556fc385f80692f7ab2923b05"), looks := true }, kinds := [], alts := [], laidByText := true, laidKinds := [.data, .data, .data, .data, .data, .sentinel, .sentinel, .widerDeep, .widerDeep, .pinned], laidTests := true, laidLooks := .later }
def EmbedNestedCardSaid : Prop := Claim7.holds Tryz.pinned (.plain (OpenSpec.ofChange embedNestedSpec)) embedNestedCard

/-- THE TIED CARD OF 'seichelaw20.EmbedAll'. -/
def embedAllCard : Claim7 := { stood := { row := embedAllRow, standIns := [], harness := (true, "e582adcac84b809eac10919604cb5f5d85da7f2556fc385f80692f7ab2923b05"), looks := true }, kinds := [], alts := [], laidByText := true, laidKinds := [.data, .data, .data, .data, .data, .sentinel, .sentinel, .widerDeep, .widerDeep, .pinned], laidTests := true, laidLooks := .later }
def EmbedAllCardSaid : Prop := Claim7.holds Tryz.pinned (.plain (OpenSpec.ofChange embedAllSpec)) embedAllCard

/-- THE TIED CARD OF 'seichelaw21.LoadTexts'. -/
def loadTextsCard : Claim7 := { stood := { row := loadTextsRow, standIns := [], harness := (true, "e582adcac84b809eac10919604cb5f5d85da7f2556fc385f80692f7ab2923b05"), looks := true }, kinds := [], alts := [], laidByText := true, laidKinds := [.data, .data, .data, .data, .data, .sentinel, .sentinel, .data, .widerDeep, .widerDeep, .widerDeep, .widerDeep, .widerDeep, .pinned], laidTests := true, laidLooks := .later }
def LoadTextsCardSaid : Prop := Claim7.holds Tryz.pinned (.plain (OpenSpec.ofChange loadTextsSpec)) loadTextsCard

/-- THE TIED CARD OF 'seichelaw21.LoadBack'. -/
def loadBackCard : Claim7 := { stood := { row := loadBackRow, standIns := [], harness := (true, "e582adcac84b809eac10919604cb5f5d85da7f2556fc385f80692f7ab2923b05"), looks := true }, kinds := [], alts := [], laidByText := true, laidKinds := [.data, .data, .data, .data, .data, .sentinel, .sentinel, .data, .widerDeep, .widerDeep, .widerDeep, .widerDeep, .widerDeep, .pinned], laidTests := true, laidLooks := .later }
def LoadBackCardSaid : Prop := Claim7.holds Tryz.pinned (.plain (OpenSpec.ofChange loadBackSpec)) loadBackCard

/-- THE SECOND FORM's CARD OF 'seichelaw18.ResolveTrees'. -/
def resolveTreesUptoCard : Claim7 := { stood := { row := resolveTreesUptoRow, standIns := [], harness := (true, "e582adcac84b809eac10919604cb5f5d85da7f2556fc385f80692f7ab2923b05"), looks := true }, kinds := [], alts := [], laidByText := true, laidKinds := [.data, .data, .data, .data, .data, .sentinel, .sentinel, .widerDeep, .widerDeep, .pinned], laidTests := true, laidLooks := .later }
def ResolveTreesUptoCardSaid : Prop := Claim7.holds Tryz.pinned (.plain (OpenSpec.upto resolveTreesSpec)) resolveTreesUptoCard

/-- THE SECOND FORM's CARD OF 'seichelaw18.ResolveNone'. -/
def resolveNoneUptoCard : Claim7 := { stood := { row := resolveNoneUptoRow, standIns := [], harness := (true, "e582adcac84b809eac10919604cb5f5d85da7f2556fc385f80692f7ab2923b05"), looks := true }, kinds := [], alts := [], laidByText := true, laidKinds := [.data, .data, .data, .data, .data, .sentinel, .sentinel, .widerDeep, .widerDeep, .pinned], laidTests := true, laidLooks := .later }
def ResolveNoneUptoCardSaid : Prop := Claim7.holds Tryz.pinned (.plain (OpenSpec.upto resolveNoneSpec)) resolveNoneUptoCard

/-- THE SECOND FORM's CARD OF 'seichelaw18.ResolvePlaces'. -/
def resolvePlacesUptoCard : Claim7 := { stood := { row := resolvePlacesUptoRow, standIns := [], harness := (true, "e582adcac84b809eac10919604cb5f5d85da7f2556fc385f80692f7ab2923b05"), looks := true }, kinds := [], alts := [], laidByText := true, laidKinds := [.data, .data, .data, .data, .data, .sentinel, .sentinel, .widerDeep, .widerDeep, .pinned], laidTests := true, laidLooks := .later }
def ResolvePlacesUptoCardSaid : Prop := Claim7.holds Tryz.pinned (.plain (OpenSpec.upto resolvePlacesSpec)) resolvePlacesUptoCard

/-- THE SECOND FORM's CARD OF 'seichelaw20.EmbedIs'. -/
def embedIsUptoCard : Claim7 := { stood := { row := embedIsUptoRow, standIns := [], harness := (true, "e582adcac84b809eac10919604cb5f5d85da7f2556fc385f80692f7ab2923b05"), looks := true }, kinds := [], alts := [], laidByText := true, laidKinds := [.data, .data, .data, .data, .data, .sentinel, .sentinel, .widerDeep, .widerDeep, .pinned], laidTests := true, laidLooks := .later }
def EmbedIsUptoCardSaid : Prop := Claim7.holds Tryz.pinned (.plain (OpenSpec.upto embedIsSpec)) embedIsUptoCard

/-- THE SECOND FORM's CARD OF 'seichelaw20.EmbedMore'. -/
def embedMoreUptoCard : Claim7 := { stood := { row := embedMoreUptoRow, standIns := [], harness := (true, "e582adcac84b809eac10919604cb5f5d85da7f2556fc385f80692f7ab2923b05"), looks := true }, kinds := [], alts := [], laidByText := true, laidKinds := [.data, .data, .data, .data, .data, .sentinel, .sentinel, .widerDeep, .widerDeep, .pinned], laidTests := true, laidLooks := .later }
def EmbedMoreUptoCardSaid : Prop := Claim7.holds Tryz.pinned (.plain (OpenSpec.upto embedMoreSpec)) embedMoreUptoCard

/-- THE SECOND FORM's CARD OF 'seichelaw20.EmbedNested'. -/
def embedNestedUptoCard : Claim7 := { stood := { row := embedNestedUptoRow, standIns := [], harness := (true, "e582adcac84b809eac10919604cb5f5d85da7f2556fc385f80692f7ab2923b05"), looks := true }, kinds := [], alts := [], laidByText := true, laidKinds := [.data, .data, .data, .data, .data, .sentinel, .sentinel, .widerDeep, .widerDeep, .pinned], laidTests := true, laidLooks := .later }
def EmbedNestedUptoCardSaid : Prop := Claim7.holds Tryz.pinned (.plain (OpenSpec.upto embedNestedSpec)) embedNestedUptoCard

/-- THE SECOND FORM's CARD OF 'seichelaw20.EmbedAll'. -/
def embedAllUptoCard : Claim7 := { stood := { row := embedAllUptoRow, standIns := [], harness := (true, "e582adcac84b809eac10919604cb5f5d85da7f2556fc385f80692f7ab2923b05"), looks := true }, kinds := [], alts := [], laidByText := true, laidKinds := [.data, .data, .data, .data, .data, .sentinel, .sentinel, .widerDeep, .widerDeep, .pinned], laidTests := true, laidLooks := .later }
def EmbedAllUptoCardSaid : Prop := Claim7.holds Tryz.pinned (.plain (OpenSpec.upto embedAllSpec)) embedAllUptoCard

/-- THE SECOND FORM's CARD OF 'seichelaw21.LoadTexts'. -/
def loadTextsUptoCard : Claim7 := { stood := { row := loadTextsUptoRow, standIns := [], harness := (true, "e582adcac84b809eac10919604cb5f5d85da7f2556fc385f80692f7ab2923b05"), looks := true }, kinds := [], alts := [], laidByText := true, laidKinds := [.data, .data, .data, .data, .data, .sentinel, .sentinel, .data, .widerDeep, .widerDeep, .widerDeep, .widerDeep, .widerDeep, .pinned], laidTests := true, laidLooks := .later }
def LoadTextsUptoCardSaid : Prop := Claim7.holds Tryz.pinned (.plain (OpenSpec.upto loadTextsSpec)) loadTextsUptoCard

/-- THE SECOND FORM's CARD OF 'seichelaw21.LoadBack'. -/
def loadBackUptoCard : Claim7 := { stood := { row := loadBackUptoRow, standIns := [], harness := (true, "e582adcac84b809eac10919604cb5f5d85da7f2556fc385f80692f7ab2923b05"), looks := true }, kinds := [], alts := [], laidByText := true, laidKinds := [.data, .data, .data, .data, .data, .sentinel, .sentinel, .data, .widerDeep, .widerDeep, .widerDeep, .widerDeep, .widerDeep, .pinned], laidTests := true, laidLooks := .later }
def LoadBackUptoCardSaid : Prop := Claim7.holds Tryz.pinned (.plain (OpenSpec.upto loadBackSpec)) loadBackUptoCard
end Rows
end Go.Proofs.YtegmegbanfkomaaGreatDoor
