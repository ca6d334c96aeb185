/-
  DERIVED. GIVEN WITH THE SEED: THE CARDS: each row of YtiljbfeipfdmdaaDoorRows.lean that lists a variable, with what it lists TIED to the program's text (the seventh form; the later family's looks); each row that meets fmt, with fmt's text TOLD by the authors' own Lean function (tested against real Go, not proved from fmt's source: count such statements apart). THE CARD IS WHAT COUNTS. Prove the row's statement (the work); the ties are given (YtiljbfeipfdmdaaDoorTie.lean); close each card by the builder's one call (the guide's Derived/Test/ToyasCard.lean, 'card_holds'). Laid BY PROGRAM, IN A SANDBOX (cutbox-door.mjs). By AI agents, Wed Nov 11 2026. No macro, syntax, notation, axiom, sorry.
-/
import Derived.Test.YtiljbfeipfdmdaaDoorRows
import GoSem.ClaimSeven
namespace Go.Proofs.YtiljbfeipfdmdaaDoor
namespace Rows

/-- THE TIED CARD OF 'deliberationlaw11.LabellingLegal'. -/
def labellingLegalCard : Claim7 := { stood := { row := labellingLegalRow, standIns := [], harness := (true, "11227a12d1a8e95558bb7a766e6883cef27b280c7a110b21b3d509809bb1da20"), looks := false }, kinds := [], alts := [], laidByText := true, laidKinds := [.data], laidTests := true, laidLooks := .later }
def LabellingLegalCardSaid : Prop := Claim7.holds Tryd.pinned (.plain (OpenSpec.ofChange labellingLegalSpec)) labellingLegalCard

/-- THE TIED CARD OF 'deliberationlaw11.LabellingChanges'. -/
def labellingChangesCard : Claim7 := { stood := { row := labellingChangesRow, standIns := [], harness := (true, "11227a12d1a8e95558bb7a766e6883cef27b280c7a110b21b3d509809bb1da20"), looks := false }, kinds := [], alts := [], laidByText := true, laidKinds := [.data], laidTests := true, laidLooks := .later }
def LabellingChangesCardSaid : Prop := Claim7.holds Tryd.pinned (.plain (OpenSpec.ofChange labellingChangesSpec)) labellingChangesCard

/-- THE TIED CARD OF 'deliberationlaw11.LabellingSets'. -/
def labellingSetsCard : Claim7 := { stood := { row := labellingSetsRow, standIns := [], harness := (true, "11227a12d1a8e95558bb7a766e6883cef27b280c7a110b21b3d509809bb1da20"), looks := false }, kinds := [], alts := [], laidByText := true, laidKinds := [.data], laidTests := true, laidLooks := .later }
def LabellingSetsCardSaid : Prop := Claim7.holds Tryd.pinned (.plain (OpenSpec.ofChange labellingSetsSpec)) labellingSetsCard

/-- THE TIED CARD OF 'deliberationlaw11.LabellingComplete'. -/
def labellingCompleteCard : Claim7 := { stood := { row := labellingCompleteRow, standIns := [], harness := (true, "11227a12d1a8e95558bb7a766e6883cef27b280c7a110b21b3d509809bb1da20"), looks := false }, kinds := [], alts := [], laidByText := true, laidKinds := [.data], laidTests := true, laidLooks := .later }
def LabellingCompleteCardSaid : Prop := Claim7.holds Tryd.pinned (.plain (OpenSpec.ofChange labellingCompleteSpec)) labellingCompleteCard

/-- THE TIED CARD OF 'deliberationlaw11.LabellingOrders'. -/
def labellingOrdersCard : Claim7 := { stood := { row := labellingOrdersRow, standIns := [], harness := (true, "11227a12d1a8e95558bb7a766e6883cef27b280c7a110b21b3d509809bb1da20"), looks := false }, kinds := [], alts := [], laidByText := true, laidKinds := [.data], laidTests := true, laidLooks := .later }
def LabellingOrdersCardSaid : Prop := Claim7.holds Tryd.pinned (.plain (OpenSpec.ofChange labellingOrdersSpec)) labellingOrdersCard

/-- THE TIED CARD OF 'deliberationlaw11.LabellingLattice'. -/
def labellingLatticeCard : Claim7 := { stood := { row := labellingLatticeRow, standIns := [], harness := (true, "11227a12d1a8e95558bb7a766e6883cef27b280c7a110b21b3d509809bb1da20"), looks := false }, kinds := [], alts := [], laidByText := true, laidKinds := [.data], laidTests := true, laidLooks := .later }
def LabellingLatticeCardSaid : Prop := Claim7.holds Tryd.pinned (.plain (OpenSpec.ofChange labellingLatticeSpec)) labellingLatticeCard

/-- THE TIED CARD OF 'deliberationlaw12.GroundedAcyclic'. -/
def groundedAcyclicCard : Claim7 := { stood := { row := groundedAcyclicRow, standIns := [], harness := (true, "11227a12d1a8e95558bb7a766e6883cef27b280c7a110b21b3d509809bb1da20"), looks := false }, kinds := [], alts := [], laidByText := true, laidKinds := [.data], laidTests := true, laidLooks := .later }
def GroundedAcyclicCardSaid : Prop := Claim7.holds Tryd.pinned (.plain (OpenSpec.ofChange groundedAcyclicSpec)) groundedAcyclicCard

/-- THE TIED CARD OF 'deliberationlaw12.GroundedLocal'. -/
def groundedLocalCard : Claim7 := { stood := { row := groundedLocalRow, standIns := [], harness := (true, "11227a12d1a8e95558bb7a766e6883cef27b280c7a110b21b3d509809bb1da20"), looks := false }, kinds := [], alts := [], laidByText := true, laidKinds := [.data], laidTests := true, laidLooks := .later }
def GroundedLocalCardSaid : Prop := Claim7.holds Tryd.pinned (.plain (OpenSpec.ofChange groundedLocalSpec)) groundedLocalCard

/-- THE TIED CARD OF 'deliberationlaw12.GroundedLeast'. -/
def groundedLeastCard : Claim7 := { stood := { row := groundedLeastRow, standIns := [], harness := (true, "11227a12d1a8e95558bb7a766e6883cef27b280c7a110b21b3d509809bb1da20"), looks := false }, kinds := [], alts := [], laidByText := true, laidKinds := [.data], laidTests := true, laidLooks := .later }
def GroundedLeastCardSaid : Prop := Claim7.holds Tryd.pinned (.plain (OpenSpec.ofChange groundedLeastSpec)) groundedLeastCard

/-- THE TIED CARD OF 'deliberationlaw12.GroundedChecks'. -/
def groundedChecksCard : Claim7 := { stood := { row := groundedChecksRow, standIns := [], harness := (true, "11227a12d1a8e95558bb7a766e6883cef27b280c7a110b21b3d509809bb1da20"), looks := false }, kinds := [], alts := [], laidByText := true, laidKinds := [.data], laidTests := true, laidLooks := .later }
def GroundedChecksCardSaid : Prop := Claim7.holds Tryd.pinned (.plain (OpenSpec.ofChange groundedChecksSpec)) groundedChecksCard

/-- THE TIED CARD OF 'deliberationlaw12.GroundedProves'. -/
def groundedProvesCard : Claim7 := { stood := { row := groundedProvesRow, standIns := [], harness := (true, "11227a12d1a8e95558bb7a766e6883cef27b280c7a110b21b3d509809bb1da20"), looks := false }, kinds := [], alts := [], laidByText := true, laidKinds := [.data], laidTests := true, laidLooks := .later }
def GroundedProvesCardSaid : Prop := Claim7.holds Tryd.pinned (.plain (OpenSpec.ofChange groundedProvesSpec)) groundedProvesCard

/-- THE TIED CARD OF 'deliberationlaw13.AdmissibleLabels'. -/
def admissibleLabelsCard : Claim7 := { stood := { row := admissibleLabelsRow, standIns := [], harness := (true, "11227a12d1a8e95558bb7a766e6883cef27b280c7a110b21b3d509809bb1da20"), looks := false }, kinds := [], alts := [], laidByText := true, laidKinds := [.data], laidTests := true, laidLooks := .later }
def AdmissibleLabelsCardSaid : Prop := Claim7.holds Tryd.pinned (.plain (OpenSpec.ofChange admissibleLabelsSpec)) admissibleLabelsCard

/-- THE SECOND FORM's CARD OF 'deliberationlaw11.LabellingLegal'. -/
def labellingLegalUptoCard : Claim7 := { stood := { row := labellingLegalUptoRow, standIns := [], harness := (true, "11227a12d1a8e95558bb7a766e6883cef27b280c7a110b21b3d509809bb1da20"), looks := false }, kinds := [], alts := [], laidByText := true, laidKinds := [.data], laidTests := true, laidLooks := .later }
def LabellingLegalUptoCardSaid : Prop := Claim7.holds Tryd.pinned (.plain (OpenSpec.upto labellingLegalSpec)) labellingLegalUptoCard

/-- THE SECOND FORM's CARD OF 'deliberationlaw11.LabellingChanges'. -/
def labellingChangesUptoCard : Claim7 := { stood := { row := labellingChangesUptoRow, standIns := [], harness := (true, "11227a12d1a8e95558bb7a766e6883cef27b280c7a110b21b3d509809bb1da20"), looks := false }, kinds := [], alts := [], laidByText := true, laidKinds := [.data], laidTests := true, laidLooks := .later }
def LabellingChangesUptoCardSaid : Prop := Claim7.holds Tryd.pinned (.plain (OpenSpec.upto labellingChangesSpec)) labellingChangesUptoCard

/-- THE SECOND FORM's CARD OF 'deliberationlaw11.LabellingSets'. -/
def labellingSetsUptoCard : Claim7 := { stood := { row := labellingSetsUptoRow, standIns := [], harness := (true, "11227a12d1a8e95558bb7a766e6883cef27b280c7a110b21b3d509809bb1da20"), looks := false }, kinds := [], alts := [], laidByText := true, laidKinds := [.data], laidTests := true, laidLooks := .later }
def LabellingSetsUptoCardSaid : Prop := Claim7.holds Tryd.pinned (.plain (OpenSpec.upto labellingSetsSpec)) labellingSetsUptoCard

/-- THE SECOND FORM's CARD OF 'deliberationlaw11.LabellingComplete'. -/
def labellingCompleteUptoCard : Claim7 := { stood := { row := labellingCompleteUptoRow, standIns := [], harness := (true, "11227a12d1a8e95558bb7a766e6883cef27b280c7a110b21b3d509809bb1da20"), looks := false }, kinds := [], alts := [], laidByText := true, laidKinds := [.data], laidTests := true, laidLooks := .later }
def LabellingCompleteUptoCardSaid : Prop := Claim7.holds Tryd.pinned (.plain (OpenSpec.upto labellingCompleteSpec)) labellingCompleteUptoCard

/-- THE SECOND FORM's CARD OF 'deliberationlaw11.LabellingOrders'. -/
def labellingOrdersUptoCard : Claim7 := { stood := { row := labellingOrdersUptoRow, standIns := [], harness := (true, "11227a12d1a8e95558bb7a766e6883cef27b280c7a110b21b3d509809bb1da20"), looks := false }, kinds := [], alts := [], laidByText := true, laidKinds := [.data], laidTests := true, laidLooks := .later }
def LabellingOrdersUptoCardSaid : Prop := Claim7.holds Tryd.pinned (.plain (OpenSpec.upto labellingOrdersSpec)) labellingOrdersUptoCard

/-- THE SECOND FORM's CARD OF 'deliberationlaw11.LabellingLattice'. -/
def labellingLatticeUptoCard : Claim7 := { stood := { row := labellingLatticeUptoRow, standIns := [], harness := (true, "11227a12d1a8e95558bb7a766e6883cef27b280c7a110b21b3d509809bb1da20"), looks := false }, kinds := [], alts := [], laidByText := true, laidKinds := [.data], laidTests := true, laidLooks := .later }
def LabellingLatticeUptoCardSaid : Prop := Claim7.holds Tryd.pinned (.plain (OpenSpec.upto labellingLatticeSpec)) labellingLatticeUptoCard

/-- THE SECOND FORM's CARD OF 'deliberationlaw12.GroundedAcyclic'. -/
def groundedAcyclicUptoCard : Claim7 := { stood := { row := groundedAcyclicUptoRow, standIns := [], harness := (true, "11227a12d1a8e95558bb7a766e6883cef27b280c7a110b21b3d509809bb1da20"), looks := false }, kinds := [], alts := [], laidByText := true, laidKinds := [.data], laidTests := true, laidLooks := .later }
def GroundedAcyclicUptoCardSaid : Prop := Claim7.holds Tryd.pinned (.plain (OpenSpec.upto groundedAcyclicSpec)) groundedAcyclicUptoCard

/-- THE SECOND FORM's CARD OF 'deliberationlaw12.GroundedLocal'. -/
def groundedLocalUptoCard : Claim7 := { stood := { row := groundedLocalUptoRow, standIns := [], harness := (true, "11227a12d1a8e95558bb7a766e6883cef27b280c7a110b21b3d509809bb1da20"), looks := false }, kinds := [], alts := [], laidByText := true, laidKinds := [.data], laidTests := true, laidLooks := .later }
def GroundedLocalUptoCardSaid : Prop := Claim7.holds Tryd.pinned (.plain (OpenSpec.upto groundedLocalSpec)) groundedLocalUptoCard

/-- THE SECOND FORM's CARD OF 'deliberationlaw12.GroundedLeast'. -/
def groundedLeastUptoCard : Claim7 := { stood := { row := groundedLeastUptoRow, standIns := [], harness := (true, "11227a12d1a8e95558bb7a766e6883cef27b280c7a110b21b3d509809bb1da20"), looks := false }, kinds := [], alts := [], laidByText := true, laidKinds := [.data], laidTests := true, laidLooks := .later }
def GroundedLeastUptoCardSaid : Prop := Claim7.holds Tryd.pinned (.plain (OpenSpec.upto groundedLeastSpec)) groundedLeastUptoCard

/-- THE SECOND FORM's CARD OF 'deliberationlaw12.GroundedChecks'. -/
def groundedChecksUptoCard : Claim7 := { stood := { row := groundedChecksUptoRow, standIns := [], harness := (true, "11227a12d1a8e95558bb7a766e6883cef27b280c7a110b21b3d509809bb1da20"), looks := false }, kinds := [], alts := [], laidByText := true, laidKinds := [.data], laidTests := true, laidLooks := .later }
def GroundedChecksUptoCardSaid : Prop := Claim7.holds Tryd.pinned (.plain (OpenSpec.upto groundedChecksSpec)) groundedChecksUptoCard

/-- THE SECOND FORM's CARD OF 'deliberationlaw12.GroundedProves'. -/
def groundedProvesUptoCard : Claim7 := { stood := { row := groundedProvesUptoRow, standIns := [], harness := (true, "11227a12d1a8e95558bb7a766e6883cef27b280c7a110b21b3d509809bb1da20"), looks := false }, kinds := [], alts := [], laidByText := true, laidKinds := [.data], laidTests := true, laidLooks := .later }
def GroundedProvesUptoCardSaid : Prop := Claim7.holds Tryd.pinned (.plain (OpenSpec.upto groundedProvesSpec)) groundedProvesUptoCard

/-- THE SECOND FORM's CARD OF 'deliberationlaw13.AdmissibleLabels'. -/
def admissibleLabelsUptoCard : Claim7 := { stood := { row := admissibleLabelsUptoRow, standIns := [], harness := (true, "11227a12d1a8e95558bb7a766e6883cef27b280c7a110b21b3d509809bb1da20"), looks := false }, kinds := [], alts := [], laidByText := true, laidKinds := [.data], laidTests := true, laidLooks := .later }
def AdmissibleLabelsUptoCardSaid : Prop := Claim7.holds Tryd.pinned (.plain (OpenSpec.upto admissibleLabelsSpec)) admissibleLabelsUptoCard
end Rows
end Go.Proofs.YtiljbfeipfdmdaaDoor
