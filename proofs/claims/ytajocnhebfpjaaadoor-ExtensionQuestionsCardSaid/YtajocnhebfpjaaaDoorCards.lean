/-
  DERIVED. GIVEN WITH THE SEED: THE CARDS: each row of YtajocnhebfpjaaaDoorRows.lean that lists a variable, with what it lists TIED to the program's text (the seventh form; the later family's looks); each row that meets fmt, with fmt's text TOLD by the authors' own Lean function (tested against real Go, not proved from fmt's source: count such statements apart). THE CARD IS WHAT COUNTS. Prove the row's statement (the work); the ties are given (YtajocnhebfpjaaaDoorTie.lean); close each card by the builder's one call (the guide's Derived/Test/ToyasCard.lean, 'card_holds'). Laid BY PROGRAM, IN A SANDBOX (cutbox-door.mjs). By AI agents, Wed Nov 11 2026. No macro, syntax, notation, axiom, sorry.
-/
import Derived.Test.YtajocnhebfpjaaaDoorRows
import GoSem.ClaimSeven
namespace Go.Proofs.YtajocnhebfpjaaaDoor
namespace Rows

/-- THE TIED CARD OF 'deliberationlaw14.SearchLists'. -/
def searchListsCard : Claim7 := { stood := { row := searchListsRow, standIns := [], harness := (true, "08c14e3a6edfbb84df6eea5a30e88513e65c50bcdee6fc53485c089bf467b144"), looks := false }, kinds := [], alts := [], laidByText := true, laidKinds := [.data], laidTests := true, laidLooks := .later }
def SearchListsCardSaid : Prop := Claim7.holds Tryd.pinned (.plain (OpenSpec.ofChange searchListsSpec)) searchListsCard

/-- THE TIED CARD OF 'deliberationlaw14.SearchParts'. -/
def searchPartsCard : Claim7 := { stood := { row := searchPartsRow, standIns := [], harness := (true, "08c14e3a6edfbb84df6eea5a30e88513e65c50bcdee6fc53485c089bf467b144"), looks := false }, kinds := [], alts := [], laidByText := true, laidKinds := [.data], laidTests := true, laidLooks := .later }
def SearchPartsCardSaid : Prop := Claim7.holds Tryd.pinned (.plain (OpenSpec.ofChange searchPartsSpec)) searchPartsCard

/-- THE TIED CARD OF 'deliberationlaw14.SearchLimits'. -/
def searchLimitsCard : Claim7 := { stood := { row := searchLimitsRow, standIns := [], harness := (true, "08c14e3a6edfbb84df6eea5a30e88513e65c50bcdee6fc53485c089bf467b144"), looks := false }, kinds := [], alts := [], laidByText := true, laidKinds := [.data], laidTests := true, laidLooks := .later }
def SearchLimitsCardSaid : Prop := Claim7.holds Tryd.pinned (.plain (OpenSpec.ofChange searchLimitsSpec)) searchLimitsCard

/-- THE TIED CARD OF 'deliberationlaw14.SearchExact'. -/
def searchExactCard : Claim7 := { stood := { row := searchExactRow, standIns := [], harness := (true, "08c14e3a6edfbb84df6eea5a30e88513e65c50bcdee6fc53485c089bf467b144"), looks := false }, kinds := [], alts := [], laidByText := true, laidKinds := [.data], laidTests := true, laidLooks := .later }
def SearchExactCardSaid : Prop := Claim7.holds Tryd.pinned (.plain (OpenSpec.ofChange searchExactSpec)) searchExactCard

/-- THE TIED CARD OF 'deliberationlaw14.SearchLarge'. -/
def searchLargeCard : Claim7 := { stood := { row := searchLargeRow, standIns := [], harness := (true, "08c14e3a6edfbb84df6eea5a30e88513e65c50bcdee6fc53485c089bf467b144"), looks := false }, kinds := [], alts := [], laidByText := true, laidKinds := [.data], laidTests := true, laidLooks := .later }
def SearchLargeCardSaid : Prop := Claim7.holds Tryd.pinned (.plain (OpenSpec.ofChange searchLargeSpec)) searchLargeCard

/-- THE TIED CARD OF 'deliberationlaw14.SearchMeet'. -/
def searchMeetCard : Claim7 := { stood := { row := searchMeetRow, standIns := [], harness := (true, "08c14e3a6edfbb84df6eea5a30e88513e65c50bcdee6fc53485c089bf467b144"), looks := false }, kinds := [], alts := [], laidByText := true, laidKinds := [.data], laidTests := true, laidLooks := .later }
def SearchMeetCardSaid : Prop := Claim7.holds Tryd.pinned (.plain (OpenSpec.ofChange searchMeetSpec)) searchMeetCard

/-- THE TIED CARD OF 'deliberationlaw15.ExtensionLists'. -/
def extensionListsCard : Claim7 := { stood := { row := extensionListsRow, standIns := [], harness := (true, "08c14e3a6edfbb84df6eea5a30e88513e65c50bcdee6fc53485c089bf467b144"), looks := false }, kinds := [], alts := [], laidByText := true, laidKinds := [.data], laidTests := true, laidLooks := .later }
def ExtensionListsCardSaid : Prop := Claim7.holds Tryd.pinned (.plain (OpenSpec.ofChange extensionListsSpec)) extensionListsCard

/-- THE TIED CARD OF 'deliberationlaw15.ExtensionQuestions'. -/
def extensionQuestionsCard : Claim7 := { stood := { row := extensionQuestionsRow, standIns := [], harness := (true, "08c14e3a6edfbb84df6eea5a30e88513e65c50bcdee6fc53485c089bf467b144"), looks := false }, kinds := [], alts := [], laidByText := true, laidKinds := [.data], laidTests := true, laidLooks := .later }
def ExtensionQuestionsCardSaid : Prop := Claim7.holds Tryd.pinned (.plain (OpenSpec.ofChange extensionQuestionsSpec)) extensionQuestionsCard

/-- THE TIED CARD OF 'deliberationlaw15.ExtensionNested'. -/
def extensionNestedCard : Claim7 := { stood := { row := extensionNestedRow, standIns := [], harness := (true, "08c14e3a6edfbb84df6eea5a30e88513e65c50bcdee6fc53485c089bf467b144"), looks := false }, kinds := [], alts := [], laidByText := true, laidKinds := [.data], laidTests := true, laidLooks := .later }
def ExtensionNestedCardSaid : Prop := Claim7.holds Tryd.pinned (.plain (OpenSpec.ofChange extensionNestedSpec)) extensionNestedCard

/-- THE TIED CARD OF 'deliberationlaw15.ExtensionEven'. -/
def extensionEvenCard : Claim7 := { stood := { row := extensionEvenRow, standIns := [], harness := (true, "08c14e3a6edfbb84df6eea5a30e88513e65c50bcdee6fc53485c089bf467b144"), looks := false }, kinds := [], alts := [], laidByText := true, laidKinds := [.data], laidTests := true, laidLooks := .later }
def ExtensionEvenCardSaid : Prop := Claim7.holds Tryd.pinned (.plain (OpenSpec.ofChange extensionEvenSpec)) extensionEvenCard

/-- THE TIED CARD OF 'deliberationlaw15.ExtensionContains'. -/
def extensionContainsCard : Claim7 := { stood := { row := extensionContainsRow, standIns := [], harness := (true, "08c14e3a6edfbb84df6eea5a30e88513e65c50bcdee6fc53485c089bf467b144"), looks := false }, kinds := [], alts := [], laidByText := true, laidKinds := [.data], laidTests := true, laidLooks := .later }
def ExtensionContainsCardSaid : Prop := Claim7.holds Tryd.pinned (.plain (OpenSpec.ofChange extensionContainsSpec)) extensionContainsCard

/-- THE TIED CARD OF 'deliberationlaw15.ExtensionExact'. -/
def extensionExactCard : Claim7 := { stood := { row := extensionExactRow, standIns := [], harness := (true, "08c14e3a6edfbb84df6eea5a30e88513e65c50bcdee6fc53485c089bf467b144"), looks := false }, kinds := [], alts := [], laidByText := true, laidKinds := [.data], laidTests := true, laidLooks := .later }
def ExtensionExactCardSaid : Prop := Claim7.holds Tryd.pinned (.plain (OpenSpec.ofChange extensionExactSpec)) extensionExactCard

/-- THE SECOND FORM's CARD OF 'deliberationlaw14.SearchLists'. -/
def searchListsUptoCard : Claim7 := { stood := { row := searchListsUptoRow, standIns := [], harness := (true, "08c14e3a6edfbb84df6eea5a30e88513e65c50bcdee6fc53485c089bf467b144"), looks := false }, kinds := [], alts := [], laidByText := true, laidKinds := [.data], laidTests := true, laidLooks := .later }
def SearchListsUptoCardSaid : Prop := Claim7.holds Tryd.pinned (.plain (OpenSpec.upto searchListsSpec)) searchListsUptoCard

/-- THE SECOND FORM's CARD OF 'deliberationlaw14.SearchParts'. -/
def searchPartsUptoCard : Claim7 := { stood := { row := searchPartsUptoRow, standIns := [], harness := (true, "08c14e3a6edfbb84df6eea5a30e88513e65c50bcdee6fc53485c089bf467b144"), looks := false }, kinds := [], alts := [], laidByText := true, laidKinds := [.data], laidTests := true, laidLooks := .later }
def SearchPartsUptoCardSaid : Prop := Claim7.holds Tryd.pinned (.plain (OpenSpec.upto searchPartsSpec)) searchPartsUptoCard

/-- THE SECOND FORM's CARD OF 'deliberationlaw14.SearchLimits'. -/
def searchLimitsUptoCard : Claim7 := { stood := { row := searchLimitsUptoRow, standIns := [], harness := (true, "08c14e3a6edfbb84df6eea5a30e88513e65c50bcdee6fc53485c089bf467b144"), looks := false }, kinds := [], alts := [], laidByText := true, laidKinds := [.data], laidTests := true, laidLooks := .later }
def SearchLimitsUptoCardSaid : Prop := Claim7.holds Tryd.pinned (.plain (OpenSpec.upto searchLimitsSpec)) searchLimitsUptoCard

/-- THE SECOND FORM's CARD OF 'deliberationlaw14.SearchExact'. -/
def searchExactUptoCard : Claim7 := { stood := { row := searchExactUptoRow, standIns := [], harness := (true, "08c14e3a6edfbb84df6eea5a30e88513e65c50bcdee6fc53485c089bf467b144"), looks := false }, kinds := [], alts := [], laidByText := true, laidKinds := [.data], laidTests := true, laidLooks := .later }
def SearchExactUptoCardSaid : Prop := Claim7.holds Tryd.pinned (.plain (OpenSpec.upto searchExactSpec)) searchExactUptoCard

/-- THE SECOND FORM's CARD OF 'deliberationlaw14.SearchLarge'. -/
def searchLargeUptoCard : Claim7 := { stood := { row := searchLargeUptoRow, standIns := [], harness := (true, "08c14e3a6edfbb84df6eea5a30e88513e65c50bcdee6fc53485c089bf467b144"), looks := false }, kinds := [], alts := [], laidByText := true, laidKinds := [.data], laidTests := true, laidLooks := .later }
def SearchLargeUptoCardSaid : Prop := Claim7.holds Tryd.pinned (.plain (OpenSpec.upto searchLargeSpec)) searchLargeUptoCard

/-- THE SECOND FORM's CARD OF 'deliberationlaw14.SearchMeet'. -/
def searchMeetUptoCard : Claim7 := { stood := { row := searchMeetUptoRow, standIns := [], harness := (true, "08c14e3a6edfbb84df6eea5a30e88513e65c50bcdee6fc53485c089bf467b144"), looks := false }, kinds := [], alts := [], laidByText := true, laidKinds := [.data], laidTests := true, laidLooks := .later }
def SearchMeetUptoCardSaid : Prop := Claim7.holds Tryd.pinned (.plain (OpenSpec.upto searchMeetSpec)) searchMeetUptoCard

/-- THE SECOND FORM's CARD OF 'deliberationlaw15.ExtensionLists'. -/
def extensionListsUptoCard : Claim7 := { stood := { row := extensionListsUptoRow, standIns := [], harness := (true, "08c14e3a6edfbb84df6eea5a30e88513e65c50bcdee6fc53485c089bf467b144"), looks := false }, kinds := [], alts := [], laidByText := true, laidKinds := [.data], laidTests := true, laidLooks := .later }
def ExtensionListsUptoCardSaid : Prop := Claim7.holds Tryd.pinned (.plain (OpenSpec.upto extensionListsSpec)) extensionListsUptoCard

/-- THE SECOND FORM's CARD OF 'deliberationlaw15.ExtensionQuestions'. -/
def extensionQuestionsUptoCard : Claim7 := { stood := { row := extensionQuestionsUptoRow, standIns := [], harness := (true, "08c14e3a6edfbb84df6eea5a30e88513e65c50bcdee6fc53485c089bf467b144"), looks := false }, kinds := [], alts := [], laidByText := true, laidKinds := [.data], laidTests := true, laidLooks := .later }
def ExtensionQuestionsUptoCardSaid : Prop := Claim7.holds Tryd.pinned (.plain (OpenSpec.upto extensionQuestionsSpec)) extensionQuestionsUptoCard

/-- THE SECOND FORM's CARD OF 'deliberationlaw15.ExtensionNested'. -/
def extensionNestedUptoCard : Claim7 := { stood := { row := extensionNestedUptoRow, standIns := [], harness := (true, "08c14e3a6edfbb84df6eea5a30e88513e65c50bcdee6fc53485c089bf467b144"), looks := false }, kinds := [], alts := [], laidByText := true, laidKinds := [.data], laidTests := true, laidLooks := .later }
def ExtensionNestedUptoCardSaid : Prop := Claim7.holds Tryd.pinned (.plain (OpenSpec.upto extensionNestedSpec)) extensionNestedUptoCard

/-- THE SECOND FORM's CARD OF 'deliberationlaw15.ExtensionEven'. -/
def extensionEvenUptoCard : Claim7 := { stood := { row := extensionEvenUptoRow, standIns := [], harness := (true, "08c14e3a6edfbb84df6eea5a30e88513e65c50bcdee6fc53485c089bf467b144"), looks := false }, kinds := [], alts := [], laidByText := true, laidKinds := [.data], laidTests := true, laidLooks := .later }
def ExtensionEvenUptoCardSaid : Prop := Claim7.holds Tryd.pinned (.plain (OpenSpec.upto extensionEvenSpec)) extensionEvenUptoCard

/-- THE SECOND FORM's CARD OF 'deliberationlaw15.ExtensionContains'. -/
def extensionContainsUptoCard : Claim7 := { stood := { row := extensionContainsUptoRow, standIns := [], harness := (true, "08c14e3a6edfbb84df6eea5a30e88513e65c50bcdee6fc53485c089bf467b144"), looks := false }, kinds := [], alts := [], laidByText := true, laidKinds := [.data], laidTests := true, laidLooks := .later }
def ExtensionContainsUptoCardSaid : Prop := Claim7.holds Tryd.pinned (.plain (OpenSpec.upto extensionContainsSpec)) extensionContainsUptoCard

/-- THE SECOND FORM's CARD OF 'deliberationlaw15.ExtensionExact'. -/
def extensionExactUptoCard : Claim7 := { stood := { row := extensionExactUptoRow, standIns := [], harness := (true, "08c14e3a6edfbb84df6eea5a30e88513e65c50bcdee6fc53485c089bf467b144"), looks := false }, kinds := [], alts := [], laidByText := true, laidKinds := [.data], laidTests := true, laidLooks := .later }
def ExtensionExactUptoCardSaid : Prop := Claim7.holds Tryd.pinned (.plain (OpenSpec.upto extensionExactSpec)) extensionExactUptoCard
end Rows
end Go.Proofs.YtajocnhebfpjaaaDoor
