/-
  DERIVED. GIVEN WITH THE SEED: THE CARDS: each row of YtanocopjancaiaaDoorRows.lean that lists a variable, with what it lists TIED to the program's text (the seventh form; the later family's looks); each row that meets fmt, with fmt's text TOLD by the authors' own Lean function (tested against real Go, not proved from fmt's source: count such statements apart). THE CARD IS WHAT COUNTS. Prove the row's statement (the work); the ties are given (YtanocopjancaiaaDoorTie.lean); close each card by the builder's one call (the guide's Derived/Test/ToyasCard.lean, 'card_holds'). Laid BY PROGRAM, IN A SANDBOX (cutbox-door.mjs). By AI agents, Wed Nov 11 2026. No macro, syntax, notation, axiom, sorry.
-/
import Derived.Test.YtanocopjancaiaaDoorRows
import GoSem.ClaimSeven
namespace Go.Proofs.YtanocopjancaiaaDoor
namespace Rows

/-- THE TIED CARD OF 'seichelaw17.ModfileBlank'. -/
def modfileBlankCard : Claim7 := { stood := { row := modfileBlankRow, standIns := [], harness := (true, "d7a4ee53ff4858694971259b8e75e1e7d50513a8ea8e9baece06de9f7131f654"), looks := true }, kinds := [], alts := [], laidByText := true, laidKinds := [.data, .data, .data, .data, .sentinel, .sentinel, .pinned], laidTests := true, laidLooks := .later }
def ModfileBlankCardSaid : Prop := Claim7.holds Tryd.pinned (.plain (OpenSpec.ofChange modfileBlankSpec)) modfileBlankCard

/-- THE TIED CARD OF 'seichelaw17.ModfileMakes'. -/
def modfileMakesCard : Claim7 := { stood := { row := modfileMakesRow, standIns := [], harness := (true, "d7a4ee53ff4858694971259b8e75e1e7d50513a8ea8e9baece06de9f7131f654"), looks := true }, kinds := [], alts := [], laidByText := true, laidKinds := [.data, .data, .data, .data, .sentinel, .sentinel, .pinned], laidTests := true, laidLooks := .later }
def ModfileMakesCardSaid : Prop := Claim7.holds Tryd.pinned (.plain (OpenSpec.ofChange modfileMakesSpec)) modfileMakesCard

/-- THE TIED CARD OF 'seichelaw17.ModfileOrder'. -/
def modfileOrderCard : Claim7 := { stood := { row := modfileOrderRow, standIns := [], harness := (true, "d7a4ee53ff4858694971259b8e75e1e7d50513a8ea8e9baece06de9f7131f654"), looks := true }, kinds := [], alts := [], laidByText := true, laidKinds := [.data, .data, .data, .data, .sentinel, .sentinel, .pinned], laidTests := true, laidLooks := .later }
def ModfileOrderCardSaid : Prop := Claim7.holds Tryd.pinned (.plain (OpenSpec.ofChange modfileOrderSpec)) modfileOrderCard

/-- THE SECOND FORM's CARD OF 'seichelaw17.ModfileBlank'. -/
def modfileBlankUptoCard : Claim7 := { stood := { row := modfileBlankUptoRow, standIns := [], harness := (true, "d7a4ee53ff4858694971259b8e75e1e7d50513a8ea8e9baece06de9f7131f654"), looks := true }, kinds := [], alts := [], laidByText := true, laidKinds := [.data, .data, .data, .data, .sentinel, .sentinel, .pinned], laidTests := true, laidLooks := .later }
def ModfileBlankUptoCardSaid : Prop := Claim7.holds Tryd.pinned (.plain (OpenSpec.upto modfileBlankSpec)) modfileBlankUptoCard

/-- THE SECOND FORM's CARD OF 'seichelaw17.ModfileMakes'. -/
def modfileMakesUptoCard : Claim7 := { stood := { row := modfileMakesUptoRow, standIns := [], harness := (true, "d7a4ee53ff4858694971259b8e75e1e7d50513a8ea8e9baece06de9f7131f654"), looks := true }, kinds := [], alts := [], laidByText := true, laidKinds := [.data, .data, .data, .data, .sentinel, .sentinel, .pinned], laidTests := true, laidLooks := .later }
def ModfileMakesUptoCardSaid : Prop := Claim7.holds Tryd.pinned (.plain (OpenSpec.upto modfileMakesSpec)) modfileMakesUptoCard

/-- THE SECOND FORM's CARD OF 'seichelaw17.ModfileOrder'. -/
def modfileOrderUptoCard : Claim7 := { stood := { row := modfileOrderUptoRow, standIns := [], harness := (true, "d7a4ee53ff4858694971259b8e75e1e7d50513a8ea8e9baece06de9f7131f654"), looks := true }, kinds := [], alts := [], laidByText := true, laidKinds := [.data, .data, .data, .data, .sentinel, .sentinel, .pinned], laidTests := true, laidLooks := .later }
def ModfileOrderUptoCardSaid : Prop := Claim7.holds Tryd.pinned (.plain (OpenSpec.upto modfileOrderSpec)) modfileOrderUptoCard
end Rows
end Go.Proofs.YtanocopjancaiaaDoor
