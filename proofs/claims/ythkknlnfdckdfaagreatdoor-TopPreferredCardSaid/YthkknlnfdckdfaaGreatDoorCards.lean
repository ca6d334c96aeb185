/-
  DERIVED. GIVEN WITH THE SEED: THE CARDS: each row of YthkknlnfdckdfaaGreatDoorRows.lean that lists a variable, with what it lists TIED to the program's text (the seventh form; the later family's looks); each row that meets fmt, with fmt's text TOLD by the authors' own Lean function (tested against real Go, not proved from fmt's source: count such statements apart). THE CARD IS WHAT COUNTS. Prove the row's statement (the work); the ties are given (YthkknlnfdckdfaaGreatDoorTie.lean); close each card by the builder's one call (the guide's Derived/Test/ToyasCard.lean, 'card_holds'). Laid BY PROGRAM, IN A SANDBOX (cutbox-door.mjs). By AI agents, Wed Nov 11 2026. No macro, syntax, notation, axiom, sorry.
-/
import Derived.Test.YthkknlnfdckdfaaGreatDoorRows
import GoSem.ClaimSeven
namespace Go.Proofs.YthkknlnfdckdfaaGreatDoor
namespace Rows

/-- THE TIED CARD OF 'deliberationtop.TopPreferred'. -/
def topPreferredCard : Claim7 := { stood := { row := topPreferredRow, standIns := [], harness := (true, "13e4e32bc61a3d6b3db51639e52f5bc6e90bd6528341388ff1864e17ddcc2e7c"), looks := false }, kinds := [], alts := [], laidByText := true, laidKinds := [.data], laidTests := true, laidLooks := .later }
def TopPreferredCardSaid : Prop := Claim7.holds Tryz.pinned (.plain (OpenSpec.ofChange topPreferredSpec)) topPreferredCard

/-- THE SECOND FORM's CARD OF 'deliberationtop.TopPreferred'. -/
def topPreferredUptoCard : Claim7 := { stood := { row := topPreferredUptoRow, standIns := [], harness := (true, "13e4e32bc61a3d6b3db51639e52f5bc6e90bd6528341388ff1864e17ddcc2e7c"), looks := false }, kinds := [], alts := [], laidByText := true, laidKinds := [.data], laidTests := true, laidLooks := .later }
def TopPreferredUptoCardSaid : Prop := Claim7.holds Tryz.pinned (.plain (OpenSpec.upto topPreferredSpec)) topPreferredUptoCard
end Rows
end Go.Proofs.YthkknlnfdckdfaaGreatDoor
