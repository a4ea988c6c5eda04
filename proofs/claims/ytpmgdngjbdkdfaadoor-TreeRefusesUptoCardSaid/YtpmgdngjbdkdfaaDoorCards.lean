/-
  DERIVED. GIVEN WITH THE SEED: THE CARDS: each row of YtpmgdngjbdkdfaaDoorRows.lean that lists a variable, with what it lists TIED to the program's text (the seventh form; the later family's looks); each row that meets fmt, with fmt's text TOLD by the authors' own Lean function (tested against real Go, not proved from fmt's source: count such statements apart). THE CARD IS WHAT COUNTS. Prove the row's statement (the work); the ties are given (YtpmgdngjbdkdfaaDoorTie.lean); close each card by the builder's one call (the guide's Derived/Test/ToyasCard.lean, 'card_holds'). Laid BY PROGRAM, IN A SANDBOX (cutbox-door.mjs). By AI agents, Wed Nov 11 2026. No macro, syntax, notation, axiom, sorry.
-/
import Derived.Test.YtpmgdngjbdkdfaaDoorRows
import GoSem.ClaimSeven
namespace Go.Proofs.YtpmgdngjbdkdfaaDoor
namespace Rows

/-- THE TIED CARD OF 'seichelaw08.TreeRefuses'. -/
def treeRefusesCard : Claim7 := { stood := { row := treeRefusesRow, standIns := [], harness := (true, "f3964d46a2f94cd8c08862a66704b726c89dad21fa70314f005b4f0fc6cd8775"), looks := false }, kinds := [], alts := [], laidByText := true, laidKinds := [.data, .data, .pinned], laidTests := true, laidLooks := .later }
def TreeRefusesCardSaid : Prop := Claim7.holds Tryd.pinned (.plain (OpenSpec.ofChange treeRefusesSpec)) treeRefusesCard

/-- THE TIED CARD OF 'seichelaw08.TreeShares'. -/
def treeSharesCard : Claim7 := { stood := { row := treeSharesRow, standIns := [], harness := (true, "f3964d46a2f94cd8c08862a66704b726c89dad21fa70314f005b4f0fc6cd8775"), looks := false }, kinds := [], alts := [], laidByText := true, laidKinds := [.data, .data, .pinned], laidTests := true, laidLooks := .later }
def TreeSharesCardSaid : Prop := Claim7.holds Tryd.pinned (.plain (OpenSpec.ofChange treeSharesSpec)) treeSharesCard

/-- THE TIED CARD OF 'seichelaw08.TreeApart'. -/
def treeApartCard : Claim7 := { stood := { row := treeApartRow, standIns := [], harness := (true, "f3964d46a2f94cd8c08862a66704b726c89dad21fa70314f005b4f0fc6cd8775"), looks := false }, kinds := [], alts := [], laidByText := true, laidKinds := [.data, .data, .pinned], laidTests := true, laidLooks := .later }
def TreeApartCardSaid : Prop := Claim7.holds Tryd.pinned (.plain (OpenSpec.ofChange treeApartSpec)) treeApartCard

/-- THE SECOND FORM's CARD OF 'seichelaw08.TreeRefuses'. -/
def treeRefusesUptoCard : Claim7 := { stood := { row := treeRefusesUptoRow, standIns := [], harness := (true, "f3964d46a2f94cd8c08862a66704b726c89dad21fa70314f005b4f0fc6cd8775"), looks := false }, kinds := [], alts := [], laidByText := true, laidKinds := [.data, .data, .pinned], laidTests := true, laidLooks := .later }
def TreeRefusesUptoCardSaid : Prop := Claim7.holds Tryd.pinned (.plain (OpenSpec.upto treeRefusesSpec)) treeRefusesUptoCard

/-- THE SECOND FORM's CARD OF 'seichelaw08.TreeShares'. -/
def treeSharesUptoCard : Claim7 := { stood := { row := treeSharesUptoRow, standIns := [], harness := (true, "f3964d46a2f94cd8c08862a66704b726c89dad21fa70314f005b4f0fc6cd8775"), looks := false }, kinds := [], alts := [], laidByText := true, laidKinds := [.data, .data, .pinned], laidTests := true, laidLooks := .later }
def TreeSharesUptoCardSaid : Prop := Claim7.holds Tryd.pinned (.plain (OpenSpec.upto treeSharesSpec)) treeSharesUptoCard

/-- THE SECOND FORM's CARD OF 'seichelaw08.TreeApart'. -/
def treeApartUptoCard : Claim7 := { stood := { row := treeApartUptoRow, standIns := [], harness := (true, "f3964d46a2f94cd8c08862a66704b726c89dad21fa70314f005b4f0fc6cd8775"), looks := false }, kinds := [], alts := [], laidByText := true, laidKinds := [.data, .data, .pinned], laidTests := true, laidLooks := .later }
def TreeApartUptoCardSaid : Prop := Claim7.holds Tryd.pinned (.plain (OpenSpec.upto treeApartSpec)) treeApartUptoCard
end Rows
end Go.Proofs.YtpmgdngjbdkdfaaDoor
