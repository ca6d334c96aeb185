/-
  DERIVED. GIVEN WITH THE SEED: THE CARDS: each row of YtkfocifejoogaaaDoorRows.lean that lists a variable, with what it lists TIED to the program's text (the seventh form; the later family's looks); each row that meets fmt, with fmt's text TOLD by the authors' own Lean function (tested against real Go, not proved from fmt's source: count such statements apart). THE CARD IS WHAT COUNTS. Prove the row's statement (the work); the ties are given (YtkfocifejoogaaaDoorTie.lean); close each card by the builder's one call (the guide's Derived/Test/ToyasCard.lean, 'card_holds'). Laid BY PROGRAM, IN A SANDBOX (cutbox-door.mjs). By AI agents, Wed Nov 11 2026. No macro, syntax, notation, axiom, sorry.
-/
import Derived.Test.YtkfocifejoogaaaDoorRows
import GoSem.ClaimSeven
namespace Go.Proofs.YtkfocifejoogaaaDoor
namespace Rows

/-- THE TIED CARD OF 'deliberationlaw12.GroundedLabels'. -/
def groundedLabelsCard : Claim7 := { stood := { row := groundedLabelsRow, standIns := [], harness := (true, "2596751f228d74a87e8ddc8cb16361fcebe2e786d71a2c2044785ffa4efcf7b6"), looks := false }, kinds := [], alts := [], laidByText := true, laidKinds := [.data], laidTests := true, laidLooks := .later }
def GroundedLabelsCardSaid : Prop := Claim7.holds Tryd.pinned (.plain (OpenSpec.ofChange groundedLabelsSpec)) groundedLabelsCard

/-- THE TIED CARD OF 'deliberationlaw13.AdmissibleMonotone'. -/
def admissibleMonotoneCard : Claim7 := { stood := { row := admissibleMonotoneRow, standIns := [], harness := (true, "2596751f228d74a87e8ddc8cb16361fcebe2e786d71a2c2044785ffa4efcf7b6"), looks := false }, kinds := [], alts := [], laidByText := true, laidKinds := [.data], laidTests := true, laidLooks := .later }
def AdmissibleMonotoneCardSaid : Prop := Claim7.holds Tryd.pinned (.plain (OpenSpec.ofChange admissibleMonotoneSpec)) admissibleMonotoneCard

/-- THE SECOND FORM's CARD OF 'deliberationlaw12.GroundedLabels'. -/
def groundedLabelsUptoCard : Claim7 := { stood := { row := groundedLabelsUptoRow, standIns := [], harness := (true, "2596751f228d74a87e8ddc8cb16361fcebe2e786d71a2c2044785ffa4efcf7b6"), looks := false }, kinds := [], alts := [], laidByText := true, laidKinds := [.data], laidTests := true, laidLooks := .later }
def GroundedLabelsUptoCardSaid : Prop := Claim7.holds Tryd.pinned (.plain (OpenSpec.upto groundedLabelsSpec)) groundedLabelsUptoCard

/-- THE SECOND FORM's CARD OF 'deliberationlaw13.AdmissibleMonotone'. -/
def admissibleMonotoneUptoCard : Claim7 := { stood := { row := admissibleMonotoneUptoRow, standIns := [], harness := (true, "2596751f228d74a87e8ddc8cb16361fcebe2e786d71a2c2044785ffa4efcf7b6"), looks := false }, kinds := [], alts := [], laidByText := true, laidKinds := [.data], laidTests := true, laidLooks := .later }
def AdmissibleMonotoneUptoCardSaid : Prop := Claim7.holds Tryd.pinned (.plain (OpenSpec.upto admissibleMonotoneSpec)) admissibleMonotoneUptoCard
end Rows
end Go.Proofs.YtkfocifejoogaaaDoor
