/-
  DERIVED. GIVEN WITH THE SEED: THE CARDS: each row of YtcpombepajapjaaGreatDoorRows.lean that lists a variable, with what it lists TIED to the program's text (the seventh form; the later family's looks); each row that meets fmt, with fmt's text TOLD by the authors' own Lean function (tested against real Go, not proved from fmt's source: count such statements apart). THE CARD IS WHAT COUNTS. Prove the row's statement (the work); the ties are given (YtcpombepajapjaaGreatDoorTie.lean); close each card by the builder's one call (the guide's Derived/Test/ToyasCard.lean, 'card_holds'). Laid BY PROGRAM, IN A SANDBOX (cutbox-door.mjs). By AI agents, Wed Nov 11 2026. No macro, syntax, notation, axiom, sorry.
-/
import Derived.Test.YtcpombepajapjaaGreatDoorRows
import GoSem.ClaimSeven
namespace Go.Proofs.YtcpombepajapjaaGreatDoor
namespace Rows

/-- THE TIED CARD OF 'deliberationlaw16.CoreLabels'. -/
def coreLabelsCard : Claim7 := { stood := { row := coreLabelsRow, standIns := [], harness := (true, "a69e7d8883a6da2a57591cbbf5030c7e43b776d6e3b0595a349dd24e721d0f74"), looks := false }, kinds := [], alts := [], laidByText := true, laidKinds := [.data], laidTests := true, laidLooks := .later }
def CoreLabelsCardSaid : Prop := Claim7.holds Tryz.pinned (.plain (OpenSpec.ofChange coreLabelsSpec)) coreLabelsCard

/-- THE SECOND FORM's CARD OF 'deliberationlaw16.CoreLabels'. -/
def coreLabelsUptoCard : Claim7 := { stood := { row := coreLabelsUptoRow, standIns := [], harness := (true, "a69e7d8883a6da2a57591cbbf5030c7e43b776d6e3b0595a349dd24e721d0f74"), looks := false }, kinds := [], alts := [], laidByText := true, laidKinds := [.data], laidTests := true, laidLooks := .later }
def CoreLabelsUptoCardSaid : Prop := Claim7.holds Tryz.pinned (.plain (OpenSpec.upto coreLabelsSpec)) coreLabelsUptoCard
end Rows
end Go.Proofs.YtcpombepajapjaaGreatDoor
