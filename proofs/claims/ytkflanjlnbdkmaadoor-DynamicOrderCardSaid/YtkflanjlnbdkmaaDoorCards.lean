/-
  DERIVED. GIVEN WITH THE SEED: THE CARDS: each row of YtkflanjlnbdkmaaDoorRows.lean that lists a variable, with what it lists TIED to the program's text (the seventh form; the later family's looks); each row that meets fmt, with fmt's text TOLD by the authors' own Lean function (tested against real Go, not proved from fmt's source: count such statements apart). THE CARD IS WHAT COUNTS. Prove the row's statement (the work); the ties are given (YtkflanjlnbdkmaaDoorTie.lean); close each card by the builder's one call (the guide's Derived/Test/ToyasCard.lean, 'card_holds'). Laid BY PROGRAM, IN A SANDBOX (cutbox-door.mjs). By AI agents, Wed Nov 11 2026. No macro, syntax, notation, axiom, sorry.
-/
import Derived.Test.YtkflanjlnbdkmaaDoorRows
import GoSem.ClaimSeven
namespace Go.Proofs.YtkflanjlnbdkmaaDoor
namespace Rows

/-- THE TIED CARD OF 'deliberationlaw10.GraphParts'. -/
def graphPartsCard : Claim7 := { stood := { row := graphPartsRow, standIns := [], harness := (true, "22fe1269c753d428546a1192abebcb9b6b3e1e0109213f315ec705c723258176"), looks := false }, kinds := [], alts := [], laidByText := true, laidKinds := [.data], laidTests := true, laidLooks := .later }
def GraphPartsCardSaid : Prop := Claim7.holds Tryd.pinned (.plain (OpenSpec.ofChange graphPartsSpec)) graphPartsCard

/-- THE TIED CARD OF 'deliberationlaw10.GraphComponents'. -/
def graphComponentsCard : Claim7 := { stood := { row := graphComponentsRow, standIns := [], harness := (true, "22fe1269c753d428546a1192abebcb9b6b3e1e0109213f315ec705c723258176"), looks := false }, kinds := [], alts := [], laidByText := true, laidKinds := [.data], laidTests := true, laidLooks := .later }
def GraphComponentsCardSaid : Prop := Claim7.holds Tryd.pinned (.plain (OpenSpec.ofChange graphComponentsSpec)) graphComponentsCard

/-- THE TIED CARD OF 'deliberationlaw10.GraphInduces'. -/
def graphInducesCard : Claim7 := { stood := { row := graphInducesRow, standIns := [], harness := (true, "22fe1269c753d428546a1192abebcb9b6b3e1e0109213f315ec705c723258176"), looks := false }, kinds := [], alts := [], laidByText := true, laidKinds := [.data], laidTests := true, laidLooks := .later }
def GraphInducesCardSaid : Prop := Claim7.holds Tryd.pinned (.plain (OpenSpec.ofChange graphInducesSpec)) graphInducesCard

/-- THE TIED CARD OF 'deliberationlaw10.GraphReverses'. -/
def graphReversesCard : Claim7 := { stood := { row := graphReversesRow, standIns := [], harness := (true, "22fe1269c753d428546a1192abebcb9b6b3e1e0109213f315ec705c723258176"), looks := false }, kinds := [], alts := [], laidByText := true, laidKinds := [.data], laidTests := true, laidLooks := .later }
def GraphReversesCardSaid : Prop := Claim7.holds Tryd.pinned (.plain (OpenSpec.ofChange graphReversesSpec)) graphReversesCard

/-- THE TIED CARD OF 'deliberationlaw10.GraphValidates'. -/
def graphValidatesCard : Claim7 := { stood := { row := graphValidatesRow, standIns := [], harness := (true, "22fe1269c753d428546a1192abebcb9b6b3e1e0109213f315ec705c723258176"), looks := false }, kinds := [], alts := [], laidByText := true, laidKinds := [.data], laidTests := true, laidLooks := .later }
def GraphValidatesCardSaid : Prop := Claim7.holds Tryd.pinned (.plain (OpenSpec.ofChange graphValidatesSpec)) graphValidatesCard

/-- THE TIED CARD OF 'deliberationlaw19.DynamicAnew'. -/
def dynamicAnewCard : Claim7 := { stood := { row := dynamicAnewRow, standIns := [], harness := (true, "22fe1269c753d428546a1192abebcb9b6b3e1e0109213f315ec705c723258176"), looks := false }, kinds := [], alts := [], laidByText := true, laidKinds := [.data], laidTests := true, laidLooks := .later }
def DynamicAnewCardSaid : Prop := Claim7.holds Tryd.pinned (.plain (OpenSpec.ofChange dynamicAnewSpec)) dynamicAnewCard

/-- THE TIED CARD OF 'deliberationlaw19.DynamicBack'. -/
def dynamicBackCard : Claim7 := { stood := { row := dynamicBackRow, standIns := [], harness := (true, "22fe1269c753d428546a1192abebcb9b6b3e1e0109213f315ec705c723258176"), looks := false }, kinds := [], alts := [], laidByText := true, laidKinds := [.data], laidTests := true, laidLooks := .later }
def DynamicBackCardSaid : Prop := Claim7.holds Tryd.pinned (.plain (OpenSpec.ofChange dynamicBackSpec)) dynamicBackCard

/-- THE TIED CARD OF 'deliberationlaw19.DynamicOrder'. -/
def dynamicOrderCard : Claim7 := { stood := { row := dynamicOrderRow, standIns := [], harness := (true, "22fe1269c753d428546a1192abebcb9b6b3e1e0109213f315ec705c723258176"), looks := false }, kinds := [], alts := [], laidByText := true, laidKinds := [.data], laidTests := true, laidLooks := .later }
def DynamicOrderCardSaid : Prop := Claim7.holds Tryd.pinned (.plain (OpenSpec.ofChange dynamicOrderSpec)) dynamicOrderCard

/-- THE SECOND FORM's CARD OF 'deliberationlaw10.GraphParts'. -/
def graphPartsUptoCard : Claim7 := { stood := { row := graphPartsUptoRow, standIns := [], harness := (true, "22fe1269c753d428546a1192abebcb9b6b3e1e0109213f315ec705c723258176"), looks := false }, kinds := [], alts := [], laidByText := true, laidKinds := [.data], laidTests := true, laidLooks := .later }
def GraphPartsUptoCardSaid : Prop := Claim7.holds Tryd.pinned (.plain (OpenSpec.upto graphPartsSpec)) graphPartsUptoCard

/-- THE SECOND FORM's CARD OF 'deliberationlaw10.GraphComponents'. -/
def graphComponentsUptoCard : Claim7 := { stood := { row := graphComponentsUptoRow, standIns := [], harness := (true, "22fe1269c753d428546a1192abebcb9b6b3e1e0109213f315ec705c723258176"), looks := false }, kinds := [], alts := [], laidByText := true, laidKinds := [.data], laidTests := true, laidLooks := .later }
def GraphComponentsUptoCardSaid : Prop := Claim7.holds Tryd.pinned (.plain (OpenSpec.upto graphComponentsSpec)) graphComponentsUptoCard

/-- THE SECOND FORM's CARD OF 'deliberationlaw10.GraphInduces'. -/
def graphInducesUptoCard : Claim7 := { stood := { row := graphInducesUptoRow, standIns := [], harness := (true, "22fe1269c753d428546a1192abebcb9b6b3e1e0109213f315ec705c723258176"), looks := false }, kinds := [], alts := [], laidByText := true, laidKinds := [.data], laidTests := true, laidLooks := .later }
def GraphInducesUptoCardSaid : Prop := Claim7.holds Tryd.pinned (.plain (OpenSpec.upto graphInducesSpec)) graphInducesUptoCard

/-- THE SECOND FORM's CARD OF 'deliberationlaw10.GraphReverses'. -/
def graphReversesUptoCard : Claim7 := { stood := { row := graphReversesUptoRow, standIns := [], harness := (true, "22fe1269c753d428546a1192abebcb9b6b3e1e0109213f315ec705c723258176"), looks := false }, kinds := [], alts := [], laidByText := true, laidKinds := [.data], laidTests := true, laidLooks := .later }
def GraphReversesUptoCardSaid : Prop := Claim7.holds Tryd.pinned (.plain (OpenSpec.upto graphReversesSpec)) graphReversesUptoCard

/-- THE SECOND FORM's CARD OF 'deliberationlaw10.GraphValidates'. -/
def graphValidatesUptoCard : Claim7 := { stood := { row := graphValidatesUptoRow, standIns := [], harness := (true, "22fe1269c753d428546a1192abebcb9b6b3e1e0109213f315ec705c723258176"), looks := false }, kinds := [], alts := [], laidByText := true, laidKinds := [.data], laidTests := true, laidLooks := .later }
def GraphValidatesUptoCardSaid : Prop := Claim7.holds Tryd.pinned (.plain (OpenSpec.upto graphValidatesSpec)) graphValidatesUptoCard

/-- THE SECOND FORM's CARD OF 'deliberationlaw19.DynamicAnew'. -/
def dynamicAnewUptoCard : Claim7 := { stood := { row := dynamicAnewUptoRow, standIns := [], harness := (true, "22fe1269c753d428546a1192abebcb9b6b3e1e0109213f315ec705c723258176"), looks := false }, kinds := [], alts := [], laidByText := true, laidKinds := [.data], laidTests := true, laidLooks := .later }
def DynamicAnewUptoCardSaid : Prop := Claim7.holds Tryd.pinned (.plain (OpenSpec.upto dynamicAnewSpec)) dynamicAnewUptoCard

/-- THE SECOND FORM's CARD OF 'deliberationlaw19.DynamicBack'. -/
def dynamicBackUptoCard : Claim7 := { stood := { row := dynamicBackUptoRow, standIns := [], harness := (true, "22fe1269c753d428546a1192abebcb9b6b3e1e0109213f315ec705c723258176"), looks := false }, kinds := [], alts := [], laidByText := true, laidKinds := [.data], laidTests := true, laidLooks := .later }
def DynamicBackUptoCardSaid : Prop := Claim7.holds Tryd.pinned (.plain (OpenSpec.upto dynamicBackSpec)) dynamicBackUptoCard

/-- THE SECOND FORM's CARD OF 'deliberationlaw19.DynamicOrder'. -/
def dynamicOrderUptoCard : Claim7 := { stood := { row := dynamicOrderUptoRow, standIns := [], harness := (true, "22fe1269c753d428546a1192abebcb9b6b3e1e0109213f315ec705c723258176"), looks := false }, kinds := [], alts := [], laidByText := true, laidKinds := [.data], laidTests := true, laidLooks := .later }
def DynamicOrderUptoCardSaid : Prop := Claim7.holds Tryd.pinned (.plain (OpenSpec.upto dynamicOrderSpec)) dynamicOrderUptoCard
end Rows
end Go.Proofs.YtkflanjlnbdkmaaDoor
