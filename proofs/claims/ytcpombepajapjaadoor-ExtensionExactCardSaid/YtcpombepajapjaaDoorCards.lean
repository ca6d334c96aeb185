/-
  DERIVED. GIVEN WITH THE SEED: THE CARDS: each row of YtcpombepajapjaaDoorRows.lean that lists a variable, with what it lists TIED to the program's text (the seventh form; the later family's looks); each row that meets fmt, with fmt's text TOLD by the authors' own Lean function (tested against real Go, not proved from fmt's source: count such statements apart). THE CARD IS WHAT COUNTS. Prove the row's statement (the work); the ties are given (YtcpombepajapjaaDoorTie.lean); close each card by the builder's one call (the guide's Derived/Test/ToyasCard.lean, 'card_holds'). Laid BY PROGRAM, IN A SANDBOX (cutbox-door.mjs). By AI agents, Wed Nov 11 2026. No macro, syntax, notation, axiom, sorry.
-/
import Derived.Test.YtcpombepajapjaaDoorRows
import GoSem.ClaimSeven
namespace Go.Proofs.YtcpombepajapjaaDoor
namespace Rows

/-- THE TIED CARD OF 'deliberationlaw15.ExtensionEven'. -/
def extensionEvenCard : Claim7 := { stood := { row := extensionEvenRow, standIns := [], harness := (true, "ee391a260ab7adf9676b6674e11b54d60dbdfd3c8800a853dad382e8bdd3d12f"), looks := false }, kinds := [], alts := [], laidByText := true, laidKinds := [.data], laidTests := true, laidLooks := .later }
def ExtensionEvenCardSaid : Prop := Claim7.holds Tryd.pinned (.plain (OpenSpec.ofChange extensionEvenSpec)) extensionEvenCard

/-- THE TIED CARD OF 'deliberationlaw15.ExtensionContains'. -/
def extensionContainsCard : Claim7 := { stood := { row := extensionContainsRow, standIns := [], harness := (true, "ee391a260ab7adf9676b6674e11b54d60dbdfd3c8800a853dad382e8bdd3d12f"), looks := false }, kinds := [], alts := [], laidByText := true, laidKinds := [.data], laidTests := true, laidLooks := .later }
def ExtensionContainsCardSaid : Prop := Claim7.holds Tryd.pinned (.plain (OpenSpec.ofChange extensionContainsSpec)) extensionContainsCard

/-- THE TIED CARD OF 'deliberationlaw15.ExtensionExact'. -/
def extensionExactCard : Claim7 := { stood := { row := extensionExactRow, standIns := [], harness := (true, "ee391a260ab7adf9676b6674e11b54d60dbdfd3c8800a853dad382e8bdd3d12f"), looks := false }, kinds := [], alts := [], laidByText := true, laidKinds := [.data], laidTests := true, laidLooks := .later }
def ExtensionExactCardSaid : Prop := Claim7.holds Tryd.pinned (.plain (OpenSpec.ofChange extensionExactSpec)) extensionExactCard

/-- THE TIED CARD OF 'deliberationlaw16.CoreSingle'. -/
def coreSingleCard : Claim7 := { stood := { row := coreSingleRow, standIns := [], harness := (true, "ee391a260ab7adf9676b6674e11b54d60dbdfd3c8800a853dad382e8bdd3d12f"), looks := false }, kinds := [], alts := [], laidByText := true, laidKinds := [.data], laidTests := true, laidLooks := .later }
def CoreSingleCardSaid : Prop := Claim7.holds Tryd.pinned (.plain (OpenSpec.ofChange coreSingleSpec)) coreSingleCard

/-- THE TIED CARD OF 'deliberationlaw16.CoreGreatest'. -/
def coreGreatestCard : Claim7 := { stood := { row := coreGreatestRow, standIns := [], harness := (true, "ee391a260ab7adf9676b6674e11b54d60dbdfd3c8800a853dad382e8bdd3d12f"), looks := false }, kinds := [], alts := [], laidByText := true, laidKinds := [.data], laidTests := true, laidLooks := .later }
def CoreGreatestCardSaid : Prop := Claim7.holds Tryd.pinned (.plain (OpenSpec.ofChange coreGreatestSpec)) coreGreatestCard

/-- THE TIED CARD OF 'deliberationlaw16.CoreOrder'. -/
def coreOrderCard : Claim7 := { stood := { row := coreOrderRow, standIns := [], harness := (true, "ee391a260ab7adf9676b6674e11b54d60dbdfd3c8800a853dad382e8bdd3d12f"), looks := false }, kinds := [], alts := [], laidByText := true, laidKinds := [.data], laidTests := true, laidLooks := .later }
def CoreOrderCardSaid : Prop := Claim7.holds Tryd.pinned (.plain (OpenSpec.ofChange coreOrderSpec)) coreOrderCard

/-- THE SECOND FORM's CARD OF 'deliberationlaw15.ExtensionEven'. -/
def extensionEvenUptoCard : Claim7 := { stood := { row := extensionEvenUptoRow, standIns := [], harness := (true, "ee391a260ab7adf9676b6674e11b54d60dbdfd3c8800a853dad382e8bdd3d12f"), looks := false }, kinds := [], alts := [], laidByText := true, laidKinds := [.data], laidTests := true, laidLooks := .later }
def ExtensionEvenUptoCardSaid : Prop := Claim7.holds Tryd.pinned (.plain (OpenSpec.upto extensionEvenSpec)) extensionEvenUptoCard

/-- THE SECOND FORM's CARD OF 'deliberationlaw15.ExtensionContains'. -/
def extensionContainsUptoCard : Claim7 := { stood := { row := extensionContainsUptoRow, standIns := [], harness := (true, "ee391a260ab7adf9676b6674e11b54d60dbdfd3c8800a853dad382e8bdd3d12f"), looks := false }, kinds := [], alts := [], laidByText := true, laidKinds := [.data], laidTests := true, laidLooks := .later }
def ExtensionContainsUptoCardSaid : Prop := Claim7.holds Tryd.pinned (.plain (OpenSpec.upto extensionContainsSpec)) extensionContainsUptoCard

/-- THE SECOND FORM's CARD OF 'deliberationlaw15.ExtensionExact'. -/
def extensionExactUptoCard : Claim7 := { stood := { row := extensionExactUptoRow, standIns := [], harness := (true, "ee391a260ab7adf9676b6674e11b54d60dbdfd3c8800a853dad382e8bdd3d12f"), looks := false }, kinds := [], alts := [], laidByText := true, laidKinds := [.data], laidTests := true, laidLooks := .later }
def ExtensionExactUptoCardSaid : Prop := Claim7.holds Tryd.pinned (.plain (OpenSpec.upto extensionExactSpec)) extensionExactUptoCard

/-- THE SECOND FORM's CARD OF 'deliberationlaw16.CoreSingle'. -/
def coreSingleUptoCard : Claim7 := { stood := { row := coreSingleUptoRow, standIns := [], harness := (true, "ee391a260ab7adf9676b6674e11b54d60dbdfd3c8800a853dad382e8bdd3d12f"), looks := false }, kinds := [], alts := [], laidByText := true, laidKinds := [.data], laidTests := true, laidLooks := .later }
def CoreSingleUptoCardSaid : Prop := Claim7.holds Tryd.pinned (.plain (OpenSpec.upto coreSingleSpec)) coreSingleUptoCard

/-- THE SECOND FORM's CARD OF 'deliberationlaw16.CoreGreatest'. -/
def coreGreatestUptoCard : Claim7 := { stood := { row := coreGreatestUptoRow, standIns := [], harness := (true, "ee391a260ab7adf9676b6674e11b54d60dbdfd3c8800a853dad382e8bdd3d12f"), looks := false }, kinds := [], alts := [], laidByText := true, laidKinds := [.data], laidTests := true, laidLooks := .later }
def CoreGreatestUptoCardSaid : Prop := Claim7.holds Tryd.pinned (.plain (OpenSpec.upto coreGreatestSpec)) coreGreatestUptoCard

/-- THE SECOND FORM's CARD OF 'deliberationlaw16.CoreOrder'. -/
def coreOrderUptoCard : Claim7 := { stood := { row := coreOrderUptoRow, standIns := [], harness := (true, "ee391a260ab7adf9676b6674e11b54d60dbdfd3c8800a853dad382e8bdd3d12f"), looks := false }, kinds := [], alts := [], laidByText := true, laidKinds := [.data], laidTests := true, laidLooks := .later }
def CoreOrderUptoCardSaid : Prop := Claim7.holds Tryd.pinned (.plain (OpenSpec.upto coreOrderSpec)) coreOrderUptoCard
end Rows
end Go.Proofs.YtcpombepajapjaaDoor
