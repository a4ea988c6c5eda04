/-
  DERIVED. GIVEN WITH THE SEED: THE CARDS: each row of YtainplhaaklpeaaDoorRows.lean that lists a variable, with what it lists TIED to the program's text (the seventh form; the later family's looks); each row that meets fmt, with fmt's text TOLD by the authors' own Lean function (tested against real Go, not proved from fmt's source: count such statements apart). THE CARD IS WHAT COUNTS. Prove the row's statement (the work); the ties are given (YtainplhaaklpeaaDoorTie.lean); close each card by the builder's one call (the guide's Derived/Test/ToyasCard.lean, 'card_holds'). Laid BY PROGRAM, IN A SANDBOX (cutbox-door.mjs). By AI agents, Wed Nov 11 2026. No macro, syntax, notation, axiom, sorry.
-/
import Derived.Test.YtainplhaaklpeaaDoorRows
import GoSem.ClaimSeven
namespace Go.Proofs.YtainplhaaklpeaaDoor
namespace Rows

/-- THE TIED CARD OF 'seichelaw09.DiffLists'. -/
def diffListsCard : Claim7 := { stood := { row := diffListsRow, standIns := [], harness := (true, "08f049b9d5ac8ee9fe04bf497639a5a75b899fc9f5e44023cada71eac906eadb"), looks := false }, kinds := [], alts := [], laidByText := true, laidKinds := [.data, .pinned], laidTests := true, laidLooks := .later }
def DiffListsCardSaid : Prop := Claim7.holds Tryd.pinned (.plain (OpenSpec.ofChange diffListsSpec)) diffListsCard

/-- THE TIED CARD OF 'seichelaw09.DiffBack'. -/
def diffBackCard : Claim7 := { stood := { row := diffBackRow, standIns := [], harness := (true, "08f049b9d5ac8ee9fe04bf497639a5a75b899fc9f5e44023cada71eac906eadb"), looks := false }, kinds := [], alts := [], laidByText := true, laidKinds := [.data, .pinned], laidTests := true, laidLooks := .later }
def DiffBackCardSaid : Prop := Claim7.holds Tryd.pinned (.plain (OpenSpec.ofChange diffBackSpec)) diffBackCard

/-- THE TIED CARD OF 'seichelaw09.DiffJoins'. -/
def diffJoinsCard : Claim7 := { stood := { row := diffJoinsRow, standIns := [], harness := (true, "08f049b9d5ac8ee9fe04bf497639a5a75b899fc9f5e44023cada71eac906eadb"), looks := false }, kinds := [], alts := [], laidByText := true, laidKinds := [.data, .pinned], laidTests := true, laidLooks := .later }
def DiffJoinsCardSaid : Prop := Claim7.holds Tryd.pinned (.plain (OpenSpec.ofChange diffJoinsSpec)) diffJoinsCard

/-- THE TIED CARD OF 'seichelaw07.ObjectTrees'. -/
def objectTreesCard : Claim7 := { stood := { row := objectTreesRow, standIns := [], harness := (true, "08f049b9d5ac8ee9fe04bf497639a5a75b899fc9f5e44023cada71eac906eadb"), looks := false }, kinds := [], alts := [], laidByText := true, laidKinds := [.data, .pinned], laidTests := true, laidLooks := .later }
def ObjectTreesCardSaid : Prop := Claim7.holds Tryd.pinned (.plain (OpenSpec.ofChange objectTreesSpec)) objectTreesCard

/-- THE TIED CARD OF 'seichelaw07.ObjectLess'. -/
def objectLessCard : Claim7 := { stood := { row := objectLessRow, standIns := [], harness := (true, "08f049b9d5ac8ee9fe04bf497639a5a75b899fc9f5e44023cada71eac906eadb"), looks := false }, kinds := [], alts := [], laidByText := true, laidKinds := [.data, .pinned], laidTests := true, laidLooks := .later }
def ObjectLessCardSaid : Prop := Claim7.holds Tryd.pinned (.plain (OpenSpec.ofChange objectLessSpec)) objectLessCard

/-- THE TIED CARD OF 'seichelaw06.PathGoes'. -/
def pathGoesCard : Claim7 := { stood := { row := pathGoesRow, standIns := [], harness := (true, "08f049b9d5ac8ee9fe04bf497639a5a75b899fc9f5e44023cada71eac906eadb"), looks := false }, kinds := [], alts := [], laidByText := true, laidKinds := [.data, .pinned], laidTests := true, laidLooks := .later }
def PathGoesCardSaid : Prop := Claim7.holds Tryd.pinned (.plain (OpenSpec.ofChange pathGoesSpec)) pathGoesCard

/-- THE TIED CARD OF 'seichelaw06.PathParts'. -/
def pathPartsCard : Claim7 := { stood := { row := pathPartsRow, standIns := [], harness := (true, "08f049b9d5ac8ee9fe04bf497639a5a75b899fc9f5e44023cada71eac906eadb"), looks := false }, kinds := [], alts := [], laidByText := true, laidKinds := [.data, .pinned], laidTests := true, laidLooks := .later }
def PathPartsCardSaid : Prop := Claim7.holds Tryd.pinned (.plain (OpenSpec.ofChange pathPartsSpec)) pathPartsCard

/-- THE TIED CARD OF 'seichelaw06.PathJoins'. -/
def pathJoinsCard : Claim7 := { stood := { row := pathJoinsRow, standIns := [], harness := (true, "08f049b9d5ac8ee9fe04bf497639a5a75b899fc9f5e44023cada71eac906eadb"), looks := false }, kinds := [], alts := [], laidByText := true, laidKinds := [.data, .pinned], laidTests := true, laidLooks := .later }
def PathJoinsCardSaid : Prop := Claim7.holds Tryd.pinned (.plain (OpenSpec.ofChange pathJoinsSpec)) pathJoinsCard

/-- THE TIED CARD OF 'seichelaw07.ObjectCommits'. -/
def objectCommitsCard : Claim7 := { stood := { row := objectCommitsRow, standIns := [], harness := (true, "08f049b9d5ac8ee9fe04bf497639a5a75b899fc9f5e44023cada71eac906eadb"), looks := false }, kinds := [], alts := [], laidByText := true, laidKinds := [.data, .pinned], laidTests := true, laidLooks := .later }
def ObjectCommitsCardSaid : Prop := Claim7.holds Tryd.pinned (.plain (OpenSpec.ofChange objectCommitsSpec)) objectCommitsCard

/-- THE TIED CARD OF 'seichelaw07.ObjectBack'. -/
def objectBackCard : Claim7 := { stood := { row := objectBackRow, standIns := [], harness := (true, "08f049b9d5ac8ee9fe04bf497639a5a75b899fc9f5e44023cada71eac906eadb"), looks := false }, kinds := [], alts := [], laidByText := true, laidKinds := [.data, .pinned], laidTests := true, laidLooks := .later }
def ObjectBackCardSaid : Prop := Claim7.holds Tryd.pinned (.plain (OpenSpec.ofChange objectBackSpec)) objectBackCard

/-- THE TIED CARD OF 'seichelaw06.PathBack'. -/
def pathBackCard : Claim7 := { stood := { row := pathBackRow, standIns := [], harness := (true, "08f049b9d5ac8ee9fe04bf497639a5a75b899fc9f5e44023cada71eac906eadb"), looks := false }, kinds := [], alts := [], laidByText := true, laidKinds := [.data, .pinned], laidTests := true, laidLooks := .later }
def PathBackCardSaid : Prop := Claim7.holds Tryd.pinned (.plain (OpenSpec.ofChange pathBackSpec)) pathBackCard

/-- THE TIED CARD OF 'seichelaw14.PlusLines'. -/
def plusLinesCard : Claim7 := { stood := { row := plusLinesRow, standIns := [], harness := (true, "08f049b9d5ac8ee9fe04bf497639a5a75b899fc9f5e44023cada71eac906eadb"), looks := false }, kinds := [], alts := [], laidByText := true, laidKinds := [.data, .pinned], laidTests := true, laidLooks := .later }
def PlusLinesCardSaid : Prop := Claim7.holds Tryd.pinned (.plain (OpenSpec.ofChange plusLinesSpec)) plusLinesCard

/-- THE SECOND FORM's CARD OF 'seichelaw09.DiffLists'. -/
def diffListsUptoCard : Claim7 := { stood := { row := diffListsUptoRow, standIns := [], harness := (true, "08f049b9d5ac8ee9fe04bf497639a5a75b899fc9f5e44023cada71eac906eadb"), looks := false }, kinds := [], alts := [], laidByText := true, laidKinds := [.data, .pinned], laidTests := true, laidLooks := .later }
def DiffListsUptoCardSaid : Prop := Claim7.holds Tryd.pinned (.plain (OpenSpec.upto diffListsSpec)) diffListsUptoCard

/-- THE SECOND FORM's CARD OF 'seichelaw09.DiffBack'. -/
def diffBackUptoCard : Claim7 := { stood := { row := diffBackUptoRow, standIns := [], harness := (true, "08f049b9d5ac8ee9fe04bf497639a5a75b899fc9f5e44023cada71eac906eadb"), looks := false }, kinds := [], alts := [], laidByText := true, laidKinds := [.data, .pinned], laidTests := true, laidLooks := .later }
def DiffBackUptoCardSaid : Prop := Claim7.holds Tryd.pinned (.plain (OpenSpec.upto diffBackSpec)) diffBackUptoCard

/-- THE SECOND FORM's CARD OF 'seichelaw09.DiffJoins'. -/
def diffJoinsUptoCard : Claim7 := { stood := { row := diffJoinsUptoRow, standIns := [], harness := (true, "08f049b9d5ac8ee9fe04bf497639a5a75b899fc9f5e44023cada71eac906eadb"), looks := false }, kinds := [], alts := [], laidByText := true, laidKinds := [.data, .pinned], laidTests := true, laidLooks := .later }
def DiffJoinsUptoCardSaid : Prop := Claim7.holds Tryd.pinned (.plain (OpenSpec.upto diffJoinsSpec)) diffJoinsUptoCard

/-- THE SECOND FORM's CARD OF 'seichelaw07.ObjectTrees'. -/
def objectTreesUptoCard : Claim7 := { stood := { row := objectTreesUptoRow, standIns := [], harness := (true, "08f049b9d5ac8ee9fe04bf497639a5a75b899fc9f5e44023cada71eac906eadb"), looks := false }, kinds := [], alts := [], laidByText := true, laidKinds := [.data, .pinned], laidTests := true, laidLooks := .later }
def ObjectTreesUptoCardSaid : Prop := Claim7.holds Tryd.pinned (.plain (OpenSpec.upto objectTreesSpec)) objectTreesUptoCard

/-- THE SECOND FORM's CARD OF 'seichelaw07.ObjectLess'. -/
def objectLessUptoCard : Claim7 := { stood := { row := objectLessUptoRow, standIns := [], harness := (true, "08f049b9d5ac8ee9fe04bf497639a5a75b899fc9f5e44023cada71eac906eadb"), looks := false }, kinds := [], alts := [], laidByText := true, laidKinds := [.data, .pinned], laidTests := true, laidLooks := .later }
def ObjectLessUptoCardSaid : Prop := Claim7.holds Tryd.pinned (.plain (OpenSpec.upto objectLessSpec)) objectLessUptoCard

/-- THE SECOND FORM's CARD OF 'seichelaw06.PathGoes'. -/
def pathGoesUptoCard : Claim7 := { stood := { row := pathGoesUptoRow, standIns := [], harness := (true, "08f049b9d5ac8ee9fe04bf497639a5a75b899fc9f5e44023cada71eac906eadb"), looks := false }, kinds := [], alts := [], laidByText := true, laidKinds := [.data, .pinned], laidTests := true, laidLooks := .later }
def PathGoesUptoCardSaid : Prop := Claim7.holds Tryd.pinned (.plain (OpenSpec.upto pathGoesSpec)) pathGoesUptoCard

/-- THE SECOND FORM's CARD OF 'seichelaw06.PathParts'. -/
def pathPartsUptoCard : Claim7 := { stood := { row := pathPartsUptoRow, standIns := [], harness := (true, "08f049b9d5ac8ee9fe04bf497639a5a75b899fc9f5e44023cada71eac906eadb"), looks := false }, kinds := [], alts := [], laidByText := true, laidKinds := [.data, .pinned], laidTests := true, laidLooks := .later }
def PathPartsUptoCardSaid : Prop := Claim7.holds Tryd.pinned (.plain (OpenSpec.upto pathPartsSpec)) pathPartsUptoCard

/-- THE SECOND FORM's CARD OF 'seichelaw06.PathJoins'. -/
def pathJoinsUptoCard : Claim7 := { stood := { row := pathJoinsUptoRow, standIns := [], harness := (true, "08f049b9d5ac8ee9fe04bf497639a5a75b899fc9f5e44023cada71eac906eadb"), looks := false }, kinds := [], alts := [], laidByText := true, laidKinds := [.data, .pinned], laidTests := true, laidLooks := .later }
def PathJoinsUptoCardSaid : Prop := Claim7.holds Tryd.pinned (.plain (OpenSpec.upto pathJoinsSpec)) pathJoinsUptoCard

/-- THE SECOND FORM's CARD OF 'seichelaw07.ObjectCommits'. -/
def objectCommitsUptoCard : Claim7 := { stood := { row := objectCommitsUptoRow, standIns := [], harness := (true, "08f049b9d5ac8ee9fe04bf497639a5a75b899fc9f5e44023cada71eac906eadb"), looks := false }, kinds := [], alts := [], laidByText := true, laidKinds := [.data, .pinned], laidTests := true, laidLooks := .later }
def ObjectCommitsUptoCardSaid : Prop := Claim7.holds Tryd.pinned (.plain (OpenSpec.upto objectCommitsSpec)) objectCommitsUptoCard

/-- THE SECOND FORM's CARD OF 'seichelaw07.ObjectBack'. -/
def objectBackUptoCard : Claim7 := { stood := { row := objectBackUptoRow, standIns := [], harness := (true, "08f049b9d5ac8ee9fe04bf497639a5a75b899fc9f5e44023cada71eac906eadb"), looks := false }, kinds := [], alts := [], laidByText := true, laidKinds := [.data, .pinned], laidTests := true, laidLooks := .later }
def ObjectBackUptoCardSaid : Prop := Claim7.holds Tryd.pinned (.plain (OpenSpec.upto objectBackSpec)) objectBackUptoCard

/-- THE SECOND FORM's CARD OF 'seichelaw06.PathBack'. -/
def pathBackUptoCard : Claim7 := { stood := { row := pathBackUptoRow, standIns := [], harness := (true, "08f049b9d5ac8ee9fe04bf497639a5a75b899fc9f5e44023cada71eac906eadb"), looks := false }, kinds := [], alts := [], laidByText := true, laidKinds := [.data, .pinned], laidTests := true, laidLooks := .later }
def PathBackUptoCardSaid : Prop := Claim7.holds Tryd.pinned (.plain (OpenSpec.upto pathBackSpec)) pathBackUptoCard

/-- THE SECOND FORM's CARD OF 'seichelaw14.PlusLines'. -/
def plusLinesUptoCard : Claim7 := { stood := { row := plusLinesUptoRow, standIns := [], harness := (true, "08f049b9d5ac8ee9fe04bf497639a5a75b899fc9f5e44023cada71eac906eadb"), looks := false }, kinds := [], alts := [], laidByText := true, laidKinds := [.data, .pinned], laidTests := true, laidLooks := .later }
def PlusLinesUptoCardSaid : Prop := Claim7.holds Tryd.pinned (.plain (OpenSpec.upto plusLinesSpec)) plusLinesUptoCard
end Rows
end Go.Proofs.YtainplhaaklpeaaDoor
