/-
  DERIVED. GIVEN WITH THE SEED: THE CARDS: each row of YtkflanjlnbdkmaaGreatDoorRows.lean that lists a variable, with what it lists TIED to the program's text (the seventh form; the later family's looks); each row that meets fmt, with fmt's text TOLD by the authors' own Lean function (tested against real Go, not proved from fmt's source: count such statements apart). THE CARD IS WHAT COUNTS. Prove the row's statement (the work); the ties are given (YtkflanjlnbdkmaaGreatDoorTie.lean); close each card by the builder's one call (the guide's Derived/Test/ToyasCard.lean, 'card_holds'). Laid BY PROGRAM, IN A SANDBOX (cutbox-door.mjs). By AI agents, Wed Nov 11 2026. No macro, syntax, notation, axiom, sorry.
-/
import Derived.Test.YtkflanjlnbdkmaaGreatDoorRows
import GoSem.ClaimSeven
namespace Go.Proofs.YtkflanjlnbdkmaaGreatDoor
namespace Rows

/-- THE TIED CARD OF 'deliberationlaw19.DynamicApplies'. -/
def dynamicAppliesCard : Claim7 := { stood := { row := dynamicAppliesRow, standIns := [], harness := (true, "c1b78a3aff05250c3cbd23311d35a6f3274e082af3ce1ce023726e510da659d2"), looks := false }, kinds := [], alts := [], laidByText := true, laidKinds := [.data], laidTests := true, laidLooks := .later }
def DynamicAppliesCardSaid : Prop := Claim7.holds Tryz.pinned (.plain (OpenSpec.ofChange dynamicAppliesSpec)) dynamicAppliesCard

/-- THE TIED CARD OF 'deliberationlaw19.DynamicRuns'. -/
def dynamicRunsCard : Claim7 := { stood := { row := dynamicRunsRow, standIns := [], harness := (true, "c1b78a3aff05250c3cbd23311d35a6f3274e082af3ce1ce023726e510da659d2"), looks := false }, kinds := [], alts := [], laidByText := true, laidKinds := [.data], laidTests := true, laidLooks := .later }
def DynamicRunsCardSaid : Prop := Claim7.holds Tryz.pinned (.plain (OpenSpec.ofChange dynamicRunsSpec)) dynamicRunsCard

/-- THE SECOND FORM's CARD OF 'deliberationlaw19.DynamicApplies'. -/
def dynamicAppliesUptoCard : Claim7 := { stood := { row := dynamicAppliesUptoRow, standIns := [], harness := (true, "c1b78a3aff05250c3cbd23311d35a6f3274e082af3ce1ce023726e510da659d2"), looks := false }, kinds := [], alts := [], laidByText := true, laidKinds := [.data], laidTests := true, laidLooks := .later }
def DynamicAppliesUptoCardSaid : Prop := Claim7.holds Tryz.pinned (.plain (OpenSpec.upto dynamicAppliesSpec)) dynamicAppliesUptoCard

/-- THE SECOND FORM's CARD OF 'deliberationlaw19.DynamicRuns'. -/
def dynamicRunsUptoCard : Claim7 := { stood := { row := dynamicRunsUptoRow, standIns := [], harness := (true, "c1b78a3aff05250c3cbd23311d35a6f3274e082af3ce1ce023726e510da659d2"), looks := false }, kinds := [], alts := [], laidByText := true, laidKinds := [.data], laidTests := true, laidLooks := .later }
def DynamicRunsUptoCardSaid : Prop := Claim7.holds Tryz.pinned (.plain (OpenSpec.upto dynamicRunsSpec)) dynamicRunsUptoCard
end Rows
end Go.Proofs.YtkflanjlnbdkmaaGreatDoor
