/-
  DERIVED. GIVEN WITH THE SEED: THE CARDS: each row of YtegaflmefmlpgaaDoorRows.lean that lists a variable, with what it lists TIED to the program's text (the seventh form; the later family's looks); each row that meets fmt, with fmt's text TOLD by the authors' own Lean function (tested against real Go, not proved from fmt's source: count such statements apart). THE CARD IS WHAT COUNTS. Prove the row's statement (the work); the ties are given (YtegaflmefmlpgaaDoorTie.lean); close each card by the builder's one call (the guide's Derived/Test/ToyasCard.lean, 'card_holds'). Laid BY PROGRAM, IN A SANDBOX (cutbox-door.mjs). By AI agents, Wed Nov 11 2026. No macro, syntax, notation, axiom, sorry.
-/
import Derived.Test.YtegaflmefmlpgaaDoorRows
import GoSem.ClaimSeven
namespace Go.Proofs.YtegaflmefmlpgaaDoor
namespace Rows

/-- THE TIED CARD OF 'fascinelaw13.RingShards'. -/
def ringShardsCard : Claim7 := { stood := { row := ringShardsRow, standIns := [], harness := (true, "411c0b0c4a4e26956c231108e9d984d4d8e216c939dc8248d35484ec09fac2bf"), looks := false }, kinds := [], alts := [], laidByText := true, laidKinds := [.data, .data, .data], laidTests := true, laidLooks := .later }
def RingShardsCardSaid : Prop := Claim7.holds Tryd.pinned (.plain (OpenSpec.ofChange ringShardsSpec)) ringShardsCard

/-- THE TIED CARD OF 'fascinelaw13.RingGrows'. -/
def ringGrowsCard : Claim7 := { stood := { row := ringGrowsRow, standIns := [], harness := (true, "411c0b0c4a4e26956c231108e9d984d4d8e216c939dc8248d35484ec09fac2bf"), looks := false }, kinds := [], alts := [], laidByText := true, laidKinds := [.data, .data, .data], laidTests := true, laidLooks := .later }
def RingGrowsCardSaid : Prop := Claim7.holds Tryd.pinned (.plain (OpenSpec.ofChange ringGrowsSpec)) ringGrowsCard

/-- THE TIED CARD OF 'fascinelaw13.RingSpreads'. -/
def ringSpreadsCard : Claim7 := { stood := { row := ringSpreadsRow, standIns := [], harness := (true, "411c0b0c4a4e26956c231108e9d984d4d8e216c939dc8248d35484ec09fac2bf"), looks := false }, kinds := [], alts := [], laidByText := true, laidKinds := [.data, .data, .data], laidTests := true, laidLooks := .later }
def RingSpreadsCardSaid : Prop := Claim7.holds Tryd.pinned (.plain (OpenSpec.ofChange ringSpreadsSpec)) ringSpreadsCard

/-- THE TIED CARD OF 'fascinelaw16.CopyCodes'. -/
def copyCodesCard : Claim7 := { stood := { row := copyCodesRow, standIns := [], harness := (true, "411c0b0c4a4e26956c231108e9d984d4d8e216c939dc8248d35484ec09fac2bf"), looks := false }, kinds := [], alts := [], laidByText := true, laidKinds := [.data, .data, .data], laidTests := true, laidLooks := .later }
def CopyCodesCardSaid : Prop := Claim7.holds Tryd.pinned (.plain (OpenSpec.ofChange copyCodesSpec)) copyCodesCard

/-- THE TIED CARD OF 'fascinelaw16.CopyFence'. -/
def copyFenceCard : Claim7 := { stood := { row := copyFenceRow, standIns := [], harness := (true, "411c0b0c4a4e26956c231108e9d984d4d8e216c939dc8248d35484ec09fac2bf"), looks := false }, kinds := [], alts := [], laidByText := true, laidKinds := [.data, .data, .data], laidTests := true, laidLooks := .later }
def CopyFenceCardSaid : Prop := Claim7.holds Tryd.pinned (.plain (OpenSpec.ofChange copyFenceSpec)) copyFenceCard

/-- THE TIED CARD OF 'fascinelaw16.CopyNil'. -/
def copyNilCard : Claim7 := { stood := { row := copyNilRow, standIns := [], harness := (true, "411c0b0c4a4e26956c231108e9d984d4d8e216c939dc8248d35484ec09fac2bf"), looks := false }, kinds := [], alts := [], laidByText := true, laidKinds := [.data, .data, .data], laidTests := true, laidLooks := .later }
def CopyNilCardSaid : Prop := Claim7.holds Tryd.pinned (.plain (OpenSpec.ofChange copyNilSpec)) copyNilCard

/-- THE TIED CARD OF 'fascinelaw16.CopyFull'. -/
def copyFullCard : Claim7 := { stood := { row := copyFullRow, standIns := [], harness := (true, "411c0b0c4a4e26956c231108e9d984d4d8e216c939dc8248d35484ec09fac2bf"), looks := false }, kinds := [], alts := [], laidByText := true, laidKinds := [.data, .data, .data], laidTests := true, laidLooks := .later }
def CopyFullCardSaid : Prop := Claim7.holds Tryd.pinned (.plain (OpenSpec.ofChange copyFullSpec)) copyFullCard

/-- THE SECOND FORM's CARD OF 'fascinelaw13.RingShards'. -/
def ringShardsUptoCard : Claim7 := { stood := { row := ringShardsUptoRow, standIns := [], harness := (true, "411c0b0c4a4e26956c231108e9d984d4d8e216c939dc8248d35484ec09fac2bf"), looks := false }, kinds := [], alts := [], laidByText := true, laidKinds := [.data, .data, .data], laidTests := true, laidLooks := .later }
def RingShardsUptoCardSaid : Prop := Claim7.holds Tryd.pinned (.plain (OpenSpec.upto ringShardsSpec)) ringShardsUptoCard

/-- THE SECOND FORM's CARD OF 'fascinelaw13.RingGrows'. -/
def ringGrowsUptoCard : Claim7 := { stood := { row := ringGrowsUptoRow, standIns := [], harness := (true, "411c0b0c4a4e26956c231108e9d984d4d8e216c939dc8248d35484ec09fac2bf"), looks := false }, kinds := [], alts := [], laidByText := true, laidKinds := [.data, .data, .data], laidTests := true, laidLooks := .later }
def RingGrowsUptoCardSaid : Prop := Claim7.holds Tryd.pinned (.plain (OpenSpec.upto ringGrowsSpec)) ringGrowsUptoCard

/-- THE SECOND FORM's CARD OF 'fascinelaw13.RingSpreads'. -/
def ringSpreadsUptoCard : Claim7 := { stood := { row := ringSpreadsUptoRow, standIns := [], harness := (true, "411c0b0c4a4e26956c231108e9d984d4d8e216c939dc8248d35484ec09fac2bf"), looks := false }, kinds := [], alts := [], laidByText := true, laidKinds := [.data, .data, .data], laidTests := true, laidLooks := .later }
def RingSpreadsUptoCardSaid : Prop := Claim7.holds Tryd.pinned (.plain (OpenSpec.upto ringSpreadsSpec)) ringSpreadsUptoCard

/-- THE SECOND FORM's CARD OF 'fascinelaw16.CopyCodes'. -/
def copyCodesUptoCard : Claim7 := { stood := { row := copyCodesUptoRow, standIns := [], harness := (true, "411c0b0c4a4e26956c231108e9d984d4d8e216c939dc8248d35484ec09fac2bf"), looks := false }, kinds := [], alts := [], laidByText := true, laidKinds := [.data, .data, .data], laidTests := true, laidLooks := .later }
def CopyCodesUptoCardSaid : Prop := Claim7.holds Tryd.pinned (.plain (OpenSpec.upto copyCodesSpec)) copyCodesUptoCard

/-- THE SECOND FORM's CARD OF 'fascinelaw16.CopyFence'. -/
def copyFenceUptoCard : Claim7 := { stood := { row := copyFenceUptoRow, standIns := [], harness := (true, "411c0b0c4a4e26956c231108e9d984d4d8e216c939dc8248d35484ec09fac2bf"), looks := false }, kinds := [], alts := [], laidByText := true, laidKinds := [.data, .data, .data], laidTests := true, laidLooks := .later }
def CopyFenceUptoCardSaid : Prop := Claim7.holds Tryd.pinned (.plain (OpenSpec.upto copyFenceSpec)) copyFenceUptoCard

/-- THE SECOND FORM's CARD OF 'fascinelaw16.CopyNil'. -/
def copyNilUptoCard : Claim7 := { stood := { row := copyNilUptoRow, standIns := [], harness := (true, "411c0b0c4a4e26956c231108e9d984d4d8e216c939dc8248d35484ec09fac2bf"), looks := false }, kinds := [], alts := [], laidByText := true, laidKinds := [.data, .data, .data], laidTests := true, laidLooks := .later }
def CopyNilUptoCardSaid : Prop := Claim7.holds Tryd.pinned (.plain (OpenSpec.upto copyNilSpec)) copyNilUptoCard

/-- THE SECOND FORM's CARD OF 'fascinelaw16.CopyFull'. -/
def copyFullUptoCard : Claim7 := { stood := { row := copyFullUptoRow, standIns := [], harness := (true, "411c0b0c4a4e26956c231108e9d984d4d8e216c939dc8248d35484ec09fac2bf"), looks := false }, kinds := [], alts := [], laidByText := true, laidKinds := [.data, .data, .data], laidTests := true, laidLooks := .later }
def CopyFullUptoCardSaid : Prop := Claim7.holds Tryd.pinned (.plain (OpenSpec.upto copyFullSpec)) copyFullUptoCard
end Rows
end Go.Proofs.YtegaflmefmlpgaaDoor
