/-
  DERIVED. GIVEN WITH THE SEED: THE CARDS: each row of YthpiomallkidlaaGreatDoorRows.lean that lists a variable, with what it lists TIED to the program's text (the seventh form; the later family's looks); each row that meets fmt, with fmt's text TOLD by the authors' own Lean function (tested against real Go, not proved from fmt's source: count such statements apart). THE CARD IS WHAT COUNTS. Prove the row's statement (the work); the ties are given (YthpiomallkidlaaGreatDoorTie.lean); close each card by the builder's one call (the guide's Derived/Test/ToyasCard.lean, 'card_holds'). Laid BY PROGRAM, IN A SANDBOX (cutbox-door.mjs). By AI agents, Wed Nov 11 2026. No macro, syntax, notation, axiom, sorry.
-/
import Derived.Test.YthpiomallkidlaaGreatDoorRows
import GoSem.ClaimSeven
namespace Go.Proofs.YthpiomallkidlaaGreatDoor
namespace Rows

/-- THE TIED CARD OF 'fascinelaw20.NodeTables'. -/
def nodeTablesCard : Claim7 := { stood := { row := nodeTablesRow, standIns := [], harness := (true, "50739c3de32868b687f1f828e2144e4ce5b63fdf852c0a6f9000e274d68ba3a5"), looks := true }, kinds := [], alts := [], laidByText := true, laidKinds := [.data, .data, .data, .data, .sentinel, .sentinel, .pinned], laidTests := true, laidLooks := .later }
def NodeTablesCardSaid : Prop := Claim7.holds Tryz.pinned (.plain (OpenSpec.ofChange nodeTablesSpec)) nodeTablesCard

/-- THE TIED CARD OF 'fascinelaw20.NodePatience'. -/
def nodePatienceCard : Claim7 := { stood := { row := nodePatienceRow, standIns := [], harness := (true, "50739c3de32868b687f1f828e2144e4ce5b63fdf852c0a6f9000e274d68ba3a5"), looks := true }, kinds := [], alts := [], laidByText := true, laidKinds := [.data, .data, .data, .data, .sentinel, .sentinel, .pinned], laidTests := true, laidLooks := .later }
def NodePatienceCardSaid : Prop := Claim7.holds Tryz.pinned (.plain (OpenSpec.ofChange nodePatienceSpec)) nodePatienceCard

/-- THE SECOND FORM's CARD OF 'fascinelaw20.NodeTables'. -/
def nodeTablesUptoCard : Claim7 := { stood := { row := nodeTablesUptoRow, standIns := [], harness := (true, "50739c3de32868b687f1f828e2144e4ce5b63fdf852c0a6f9000e274d68ba3a5"), looks := true }, kinds := [], alts := [], laidByText := true, laidKinds := [.data, .data, .data, .data, .sentinel, .sentinel, .pinned], laidTests := true, laidLooks := .later }
def NodeTablesUptoCardSaid : Prop := Claim7.holds Tryz.pinned (.plain (OpenSpec.upto nodeTablesSpec)) nodeTablesUptoCard

/-- THE SECOND FORM's CARD OF 'fascinelaw20.NodePatience'. -/
def nodePatienceUptoCard : Claim7 := { stood := { row := nodePatienceUptoRow, standIns := [], harness := (true, "50739c3de32868b687f1f828e2144e4ce5b63fdf852c0a6f9000e274d68ba3a5"), looks := true }, kinds := [], alts := [], laidByText := true, laidKinds := [.data, .data, .data, .data, .sentinel, .sentinel, .pinned], laidTests := true, laidLooks := .later }
def NodePatienceUptoCardSaid : Prop := Claim7.holds Tryz.pinned (.plain (OpenSpec.upto nodePatienceSpec)) nodePatienceUptoCard
end Rows
end Go.Proofs.YthpiomallkidlaaGreatDoor
