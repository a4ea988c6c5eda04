/-
  DERIVED. GIVEN WITH THE SEED: THE CARDS: each row of YtpmgdngjbdkdfaaGreatDoorRows.lean that lists a variable, with what it lists TIED to the program's text (the seventh form; the later family's looks); each row that meets fmt, with fmt's text TOLD by the authors' own Lean function (tested against real Go, not proved from fmt's source: count such statements apart). THE CARD IS WHAT COUNTS. Prove the row's statement (the work); the ties are given (YtpmgdngjbdkdfaaGreatDoorTie.lean); close each card by the builder's one call (the guide's Derived/Test/ToyasCard.lean, 'card_holds'). Laid BY PROGRAM, IN A SANDBOX (cutbox-door.mjs). By AI agents, Wed Nov 11 2026. No macro, syntax, notation, axiom, sorry.
-/
import Derived.Test.YtpmgdngjbdkdfaaGreatDoorRows
import GoSem.ClaimSeven
namespace Go.Proofs.YtpmgdngjbdkdfaaGreatDoor
namespace Rows

/-- THE TIED CARD OF 'seichelaw08.TreeOne'. -/
def treeOneCard : Claim7 := { stood := { row := treeOneRow, standIns := [], harness := (true, "1e024cf17a22eda90e924bf1ea2864c2225367e6b1e15f03f0c3c8340263eb1f"), looks := false }, kinds := [], alts := [], laidByText := true, laidKinds := [.data, .data, .pinned], laidTests := true, laidLooks := .later }
def TreeOneCardSaid : Prop := Claim7.holds Tryz.pinned (.plain (OpenSpec.ofChange treeOneSpec)) treeOneCard

/-- THE TIED CARD OF 'seichelaw08.TreeDeep'. -/
def treeDeepCard : Claim7 := { stood := { row := treeDeepRow, standIns := [], harness := (true, "1e024cf17a22eda90e924bf1ea2864c2225367e6b1e15f03f0c3c8340263eb1f"), looks := false }, kinds := [], alts := [], laidByText := true, laidKinds := [.data, .data, .pinned], laidTests := true, laidLooks := .later }
def TreeDeepCardSaid : Prop := Claim7.holds Tryz.pinned (.plain (OpenSpec.ofChange treeDeepSpec)) treeDeepCard

/-- THE TIED CARD OF 'seichelaw08.TreeBack'. -/
def treeBackCard : Claim7 := { stood := { row := treeBackRow, standIns := [], harness := (true, "1e024cf17a22eda90e924bf1ea2864c2225367e6b1e15f03f0c3c8340263eb1f"), looks := false }, kinds := [], alts := [], laidByText := true, laidKinds := [.data, .data, .pinned], laidTests := true, laidLooks := .later }
def TreeBackCardSaid : Prop := Claim7.holds Tryz.pinned (.plain (OpenSpec.ofChange treeBackSpec)) treeBackCard

/-- THE TIED CARD OF 'seichelaw09.DiffTrees'. -/
def diffTreesCard : Claim7 := { stood := { row := diffTreesRow, standIns := [], harness := (true, "1e024cf17a22eda90e924bf1ea2864c2225367e6b1e15f03f0c3c8340263eb1f"), looks := false }, kinds := [], alts := [], laidByText := true, laidKinds := [.data, .data, .pinned], laidTests := true, laidLooks := .later }
def DiffTreesCardSaid : Prop := Claim7.holds Tryz.pinned (.plain (OpenSpec.ofChange diffTreesSpec)) diffTreesCard

/-- THE SECOND FORM's CARD OF 'seichelaw08.TreeOne'. -/
def treeOneUptoCard : Claim7 := { stood := { row := treeOneUptoRow, standIns := [], harness := (true, "1e024cf17a22eda90e924bf1ea2864c2225367e6b1e15f03f0c3c8340263eb1f"), looks := false }, kinds := [], alts := [], laidByText := true, laidKinds := [.data, .data, .pinned], laidTests := true, laidLooks := .later }
def TreeOneUptoCardSaid : Prop := Claim7.holds Tryz.pinned (.plain (OpenSpec.upto treeOneSpec)) treeOneUptoCard

/-- THE SECOND FORM's CARD OF 'seichelaw08.TreeDeep'. -/
def treeDeepUptoCard : Claim7 := { stood := { row := treeDeepUptoRow, standIns := [], harness := (true, "1e024cf17a22eda90e924bf1ea2864c2225367e6b1e15f03f0c3c8340263eb1f"), looks := false }, kinds := [], alts := [], laidByText := true, laidKinds := [.data, .data, .pinned], laidTests := true, laidLooks := .later }
def TreeDeepUptoCardSaid : Prop := Claim7.holds Tryz.pinned (.plain (OpenSpec.upto treeDeepSpec)) treeDeepUptoCard

/-- THE SECOND FORM's CARD OF 'seichelaw08.TreeBack'. -/
def treeBackUptoCard : Claim7 := { stood := { row := treeBackUptoRow, standIns := [], harness := (true, "1e024cf17a22eda90e924bf1ea2864c2225367e6b1e15f03f0c3c8340263eb1f"), looks := false }, kinds := [], alts := [], laidByText := true, laidKinds := [.data, .data, .pinned], laidTests := true, laidLooks := .later }
def TreeBackUptoCardSaid : Prop := Claim7.holds Tryz.pinned (.plain (OpenSpec.upto treeBackSpec)) treeBackUptoCard

/-- THE SECOND FORM's CARD OF 'seichelaw09.DiffTrees'. -/
def diffTreesUptoCard : Claim7 := { stood := { row := diffTreesUptoRow, standIns := [], harness := (true, "1e024cf17a22eda90e924bf1ea2864c2225367e6b1e15f03f0c3c8340263eb1f"), looks := false }, kinds := [], alts := [], laidByText := true, laidKinds := [.data, .data, .pinned], laidTests := true, laidLooks := .later }
def DiffTreesUptoCardSaid : Prop := Claim7.holds Tryz.pinned (.plain (OpenSpec.upto diffTreesSpec)) diffTreesUptoCard
end Rows
end Go.Proofs.YtpmgdngjbdkdfaaGreatDoor
