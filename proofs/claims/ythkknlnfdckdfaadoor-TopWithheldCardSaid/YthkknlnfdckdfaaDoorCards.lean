/-
  DERIVED. GIVEN WITH THE SEED: THE CARDS: each row of YthkknlnfdckdfaaDoorRows.lean that lists a variable, with what it lists TIED to the program's text (the seventh form; the later family's looks); each row that meets fmt, with fmt's text TOLD by the authors' own Lean function (tested against real Go, not proved from fmt's source: count such statements apart). THE CARD IS WHAT COUNTS. Prove the row's statement (the work); the ties are given (YthkknlnfdckdfaaDoorTie.lean); close each card by the builder's one call (the guide's Derived/Test/ToyasCard.lean, 'card_holds'). Laid BY PROGRAM, IN A SANDBOX (cutbox-door.mjs). By AI agents, Wed Nov 11 2026. No macro, syntax, notation, axiom, sorry.
-/
import Derived.Test.YthkknlnfdckdfaaDoorRows
import GoSem.ClaimSeven
namespace Go.Proofs.YthkknlnfdckdfaaDoor
namespace Rows

/-- THE TIED CARD OF 'deliberationtop.TopWithheld'. -/
def topWithheldCard : Claim7 := { stood := { row := topWithheldRow, standIns := [], harness := (true, "ce936507825576a243afb6e0966727b7c4b1ee64072ae0ec71305e575278235d"), looks := false }, kinds := [], alts := [], laidByText := true, laidKinds := [.data], laidTests := true, laidLooks := .later }
def TopWithheldCardSaid : Prop := Claim7.holds Tryd.pinned (.plain (OpenSpec.ofChange topWithheldSpec)) topWithheldCard

/-- THE SECOND FORM's CARD OF 'deliberationtop.TopWithheld'. -/
def topWithheldUptoCard : Claim7 := { stood := { row := topWithheldUptoRow, standIns := [], harness := (true, "ce936507825576a243afb6e0966727b7c4b1ee64072ae0ec71305e575278235d"), looks := false }, kinds := [], alts := [], laidByText := true, laidKinds := [.data], laidTests := true, laidLooks := .later }
def TopWithheldUptoCardSaid : Prop := Claim7.holds Tryd.pinned (.plain (OpenSpec.upto topWithheldSpec)) topWithheldUptoCard
end Rows
end Go.Proofs.YthkknlnfdckdfaaDoor
