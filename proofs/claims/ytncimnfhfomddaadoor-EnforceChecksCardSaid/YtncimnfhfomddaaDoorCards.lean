/-
  DERIVED. GIVEN WITH THE SEED: THE CARDS: each row of YtncimnfhfomddaaDoorRows.lean that lists a variable, with what it lists TIED to the program's text (the seventh form; the later family's looks); each row that meets fmt, with fmt's text TOLD by the authors' own Lean function (tested against real Go, not proved from fmt's source: count such statements apart). THE CARD IS WHAT COUNTS. Prove the row's statement (the work); the ties are given (YtncimnfhfomddaaDoorTie.lean); close each card by the builder's one call (the guide's Derived/Test/ToyasCard.lean, 'card_holds'). Laid BY PROGRAM, IN A SANDBOX (cutbox-door.mjs). By AI agents, Wed Nov 11 2026. No macro, syntax, notation, axiom, sorry.
-/
import Derived.Test.YtncimnfhfomddaaDoorRows
import GoSem.ClaimSeven
namespace Go.Proofs.YtncimnfhfomddaaDoor
namespace Rows

/-- THE TIED CARD OF 'deliberationlaw21.EnforceChecks'. -/
def enforceChecksCard : Claim7 := { stood := { row := enforceChecksRow, standIns := [], harness := (true, "6813acac71d7432a7f7da196cd10824f5a4d058153964c0f6c8446a961eb1ae2"), looks := false }, kinds := [], alts := [], laidByText := true, laidKinds := [.data], laidTests := true, laidLooks := .later }
def EnforceChecksCardSaid : Prop := Claim7.holds Tryd.pinned (.plain (OpenSpec.ofChange enforceChecksSpec)) enforceChecksCard

/-- THE TIED CARD OF 'deliberationlaw21.EnforceUndone'. -/
def enforceUndoneCard : Claim7 := { stood := { row := enforceUndoneRow, standIns := [], harness := (true, "6813acac71d7432a7f7da196cd10824f5a4d058153964c0f6c8446a961eb1ae2"), looks := false }, kinds := [], alts := [], laidByText := true, laidKinds := [.data], laidTests := true, laidLooks := .later }
def EnforceUndoneCardSaid : Prop := Claim7.holds Tryd.pinned (.plain (OpenSpec.ofChange enforceUndoneSpec)) enforceUndoneCard

/-- THE TIED CARD OF 'deliberationlaw21.EnforceAnswers'. -/
def enforceAnswersCard : Claim7 := { stood := { row := enforceAnswersRow, standIns := [], harness := (true, "6813acac71d7432a7f7da196cd10824f5a4d058153964c0f6c8446a961eb1ae2"), looks := false }, kinds := [], alts := [], laidByText := true, laidKinds := [.data], laidTests := true, laidLooks := .later }
def EnforceAnswersCardSaid : Prop := Claim7.holds Tryd.pinned (.plain (OpenSpec.ofChange enforceAnswersSpec)) enforceAnswersCard

/-- THE TIED CARD OF 'deliberationlaw21.EnforceLeast'. -/
def enforceLeastCard : Claim7 := { stood := { row := enforceLeastRow, standIns := [], harness := (true, "6813acac71d7432a7f7da196cd10824f5a4d058153964c0f6c8446a961eb1ae2"), looks := false }, kinds := [], alts := [], laidByText := true, laidKinds := [.data], laidTests := true, laidLooks := .later }
def EnforceLeastCardSaid : Prop := Claim7.holds Tryd.pinned (.plain (OpenSpec.ofChange enforceLeastSpec)) enforceLeastCard

/-- THE TIED CARD OF 'deliberationlaw21.EnforceWorks'. -/
def enforceWorksCard : Claim7 := { stood := { row := enforceWorksRow, standIns := [], harness := (true, "6813acac71d7432a7f7da196cd10824f5a4d058153964c0f6c8446a961eb1ae2"), looks := false }, kinds := [], alts := [], laidByText := true, laidKinds := [.data], laidTests := true, laidLooks := .later }
def EnforceWorksCardSaid : Prop := Claim7.holds Tryd.pinned (.plain (OpenSpec.ofChange enforceWorksSpec)) enforceWorksCard

/-- THE TIED CARD OF 'deliberationlaw25.GameSolved'. -/
def gameSolvedCard : Claim7 := { stood := { row := gameSolvedRow, standIns := [], harness := (true, "6813acac71d7432a7f7da196cd10824f5a4d058153964c0f6c8446a961eb1ae2"), looks := false }, kinds := [], alts := [], laidByText := true, laidKinds := [.data], laidTests := true, laidLooks := .later }
def GameSolvedCardSaid : Prop := Claim7.holds Tryd.pinned (.plain (OpenSpec.ofChange gameSolvedSpec)) gameSolvedCard

/-- THE TIED CARD OF 'deliberationlaw25.GameExhausted'. -/
def gameExhaustedCard : Claim7 := { stood := { row := gameExhaustedRow, standIns := [], harness := (true, "6813acac71d7432a7f7da196cd10824f5a4d058153964c0f6c8446a961eb1ae2"), looks := false }, kinds := [], alts := [], laidByText := true, laidKinds := [.data], laidTests := true, laidLooks := .later }
def GameExhaustedCardSaid : Prop := Claim7.holds Tryd.pinned (.plain (OpenSpec.ofChange gameExhaustedSpec)) gameExhaustedCard

/-- THE TIED CARD OF 'deliberationlaw25.GamePlayed'. -/
def gamePlayedCard : Claim7 := { stood := { row := gamePlayedRow, standIns := [], harness := (true, "6813acac71d7432a7f7da196cd10824f5a4d058153964c0f6c8446a961eb1ae2"), looks := false }, kinds := [], alts := [], laidByText := true, laidKinds := [.data], laidTests := true, laidLooks := .later }
def GamePlayedCardSaid : Prop := Claim7.holds Tryd.pinned (.plain (OpenSpec.ofChange gamePlayedSpec)) gamePlayedCard

/-- THE SECOND FORM's CARD OF 'deliberationlaw21.EnforceChecks'. -/
def enforceChecksUptoCard : Claim7 := { stood := { row := enforceChecksUptoRow, standIns := [], harness := (true, "6813acac71d7432a7f7da196cd10824f5a4d058153964c0f6c8446a961eb1ae2"), looks := false }, kinds := [], alts := [], laidByText := true, laidKinds := [.data], laidTests := true, laidLooks := .later }
def EnforceChecksUptoCardSaid : Prop := Claim7.holds Tryd.pinned (.plain (OpenSpec.upto enforceChecksSpec)) enforceChecksUptoCard

/-- THE SECOND FORM's CARD OF 'deliberationlaw21.EnforceUndone'. -/
def enforceUndoneUptoCard : Claim7 := { stood := { row := enforceUndoneUptoRow, standIns := [], harness := (true, "6813acac71d7432a7f7da196cd10824f5a4d058153964c0f6c8446a961eb1ae2"), looks := false }, kinds := [], alts := [], laidByText := true, laidKinds := [.data], laidTests := true, laidLooks := .later }
def EnforceUndoneUptoCardSaid : Prop := Claim7.holds Tryd.pinned (.plain (OpenSpec.upto enforceUndoneSpec)) enforceUndoneUptoCard

/-- THE SECOND FORM's CARD OF 'deliberationlaw21.EnforceAnswers'. -/
def enforceAnswersUptoCard : Claim7 := { stood := { row := enforceAnswersUptoRow, standIns := [], harness := (true, "6813acac71d7432a7f7da196cd10824f5a4d058153964c0f6c8446a961eb1ae2"), looks := false }, kinds := [], alts := [], laidByText := true, laidKinds := [.data], laidTests := true, laidLooks := .later }
def EnforceAnswersUptoCardSaid : Prop := Claim7.holds Tryd.pinned (.plain (OpenSpec.upto enforceAnswersSpec)) enforceAnswersUptoCard

/-- THE SECOND FORM's CARD OF 'deliberationlaw21.EnforceLeast'. -/
def enforceLeastUptoCard : Claim7 := { stood := { row := enforceLeastUptoRow, standIns := [], harness := (true, "6813acac71d7432a7f7da196cd10824f5a4d058153964c0f6c8446a961eb1ae2"), looks := false }, kinds := [], alts := [], laidByText := true, laidKinds := [.data], laidTests := true, laidLooks := .later }
def EnforceLeastUptoCardSaid : Prop := Claim7.holds Tryd.pinned (.plain (OpenSpec.upto enforceLeastSpec)) enforceLeastUptoCard

/-- THE SECOND FORM's CARD OF 'deliberationlaw21.EnforceWorks'. -/
def enforceWorksUptoCard : Claim7 := { stood := { row := enforceWorksUptoRow, standIns := [], harness := (true, "6813acac71d7432a7f7da196cd10824f5a4d058153964c0f6c8446a961eb1ae2"), looks := false }, kinds := [], alts := [], laidByText := true, laidKinds := [.data], laidTests := true, laidLooks := .later }
def EnforceWorksUptoCardSaid : Prop := Claim7.holds Tryd.pinned (.plain (OpenSpec.upto enforceWorksSpec)) enforceWorksUptoCard

/-- THE SECOND FORM's CARD OF 'deliberationlaw25.GameSolved'. -/
def gameSolvedUptoCard : Claim7 := { stood := { row := gameSolvedUptoRow, standIns := [], harness := (true, "6813acac71d7432a7f7da196cd10824f5a4d058153964c0f6c8446a961eb1ae2"), looks := false }, kinds := [], alts := [], laidByText := true, laidKinds := [.data], laidTests := true, laidLooks := .later }
def GameSolvedUptoCardSaid : Prop := Claim7.holds Tryd.pinned (.plain (OpenSpec.upto gameSolvedSpec)) gameSolvedUptoCard

/-- THE SECOND FORM's CARD OF 'deliberationlaw25.GameExhausted'. -/
def gameExhaustedUptoCard : Claim7 := { stood := { row := gameExhaustedUptoRow, standIns := [], harness := (true, "6813acac71d7432a7f7da196cd10824f5a4d058153964c0f6c8446a961eb1ae2"), looks := false }, kinds := [], alts := [], laidByText := true, laidKinds := [.data], laidTests := true, laidLooks := .later }
def GameExhaustedUptoCardSaid : Prop := Claim7.holds Tryd.pinned (.plain (OpenSpec.upto gameExhaustedSpec)) gameExhaustedUptoCard

/-- THE SECOND FORM's CARD OF 'deliberationlaw25.GamePlayed'. -/
def gamePlayedUptoCard : Claim7 := { stood := { row := gamePlayedUptoRow, standIns := [], harness := (true, "6813acac71d7432a7f7da196cd10824f5a4d058153964c0f6c8446a961eb1ae2"), looks := false }, kinds := [], alts := [], laidByText := true, laidKinds := [.data], laidTests := true, laidLooks := .later }
def GamePlayedUptoCardSaid : Prop := Claim7.holds Tryd.pinned (.plain (OpenSpec.upto gamePlayedSpec)) gamePlayedUptoCard
end Rows
end Go.Proofs.YtncimnfhfomddaaDoor
