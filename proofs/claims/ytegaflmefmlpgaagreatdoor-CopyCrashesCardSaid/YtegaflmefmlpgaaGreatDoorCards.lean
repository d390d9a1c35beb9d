/-
  DERIVED. GIVEN WITH THE SEED: THE CARDS: each row of YtegaflmefmlpgaaGreatDoorRows.lean that lists a variable, with what it lists TIED to the program's text (the seventh form; the later family's looks); each row that meets fmt, with fmt's text TOLD by the authors' own Lean function (tested against real Go, not proved from fmt's source: count such statements apart). THE CARD IS WHAT COUNTS. Prove the row's statement (the work); the ties are given (YtegaflmefmlpgaaGreatDoorTie.lean); close each card by the builder's one call (the guide's Derived/Test/ToyasCard.lean, 'card_holds'). Laid BY PROGRAM, IN A SANDBOX (cutbox-door.mjs). By AI agents, Wed Nov 11 2026. No macro, syntax, notation, axiom, sorry.
-/
import Derived.Test.YtegaflmefmlpgaaGreatDoorRows
import GoSem.ClaimSeven
namespace Go.Proofs.YtegaflmefmlpgaaGreatDoor
namespace Rows

/-- THE TIED CARD OF 'fascinelaw16.CopyPlays'. -/
def copyPlaysCard : Claim7 := { stood := { row := copyPlaysRow, standIns := [], harness := (true, "ac8672eabeed383f25508dcec86b0e8e1ca556cae0eacf8eb8d7320c5b256316"), looks := false }, kinds := [], alts := [], laidByText := true, laidKinds := [.data, .data, .data], laidTests := true, laidLooks := .later }
def CopyPlaysCardSaid : Prop := Claim7.holds Tryz.pinned (.plain (OpenSpec.ofChange copyPlaysSpec)) copyPlaysCard

/-- THE TIED CARD OF 'fascinelaw16.CopyCrashes'. -/
def copyCrashesCard : Claim7 := { stood := { row := copyCrashesRow, standIns := [], harness := (true, "ac8672eabeed383f25508dcec86b0e8e1ca556cae0eacf8eb8d7320c5b256316"), looks := false }, kinds := [], alts := [], laidByText := true, laidKinds := [.data, .data, .data], laidTests := true, laidLooks := .later }
def CopyCrashesCardSaid : Prop := Claim7.holds Tryz.pinned (.plain (OpenSpec.ofChange copyCrashesSpec)) copyCrashesCard

/-- THE SECOND FORM's CARD OF 'fascinelaw16.CopyPlays'. -/
def copyPlaysUptoCard : Claim7 := { stood := { row := copyPlaysUptoRow, standIns := [], harness := (true, "ac8672eabeed383f25508dcec86b0e8e1ca556cae0eacf8eb8d7320c5b256316"), looks := false }, kinds := [], alts := [], laidByText := true, laidKinds := [.data, .data, .data], laidTests := true, laidLooks := .later }
def CopyPlaysUptoCardSaid : Prop := Claim7.holds Tryz.pinned (.plain (OpenSpec.upto copyPlaysSpec)) copyPlaysUptoCard

/-- THE SECOND FORM's CARD OF 'fascinelaw16.CopyCrashes'. -/
def copyCrashesUptoCard : Claim7 := { stood := { row := copyCrashesUptoRow, standIns := [], harness := (true, "ac8672eabeed383f25508dcec86b0e8e1ca556cae0eacf8eb8d7320c5b256316"), looks := false }, kinds := [], alts := [], laidByText := true, laidKinds := [.data, .data, .data], laidTests := true, laidLooks := .later }
def CopyCrashesUptoCardSaid : Prop := Claim7.holds Tryz.pinned (.plain (OpenSpec.upto copyCrashesSpec)) copyCrashesUptoCard
end Rows
end Go.Proofs.YtegaflmefmlpgaaGreatDoor
