/-
  DERIVED. GIVEN WITH THE SEED: THE CARDS: each row of YtplbnhfkndegaaaDoorRows.lean that lists a variable, with what it lists TIED to the program's text (the seventh form; the later family's looks); each row that meets fmt, with fmt's text TOLD by the authors' own Lean function (tested against real Go, not proved from fmt's source: count such statements apart). THE CARD IS WHAT COUNTS. Prove the row's statement (the work); the ties are given (YtplbnhfkndegaaaDoorTie.lean); close each card by the builder's one call (the guide's Derived/Test/ToyasCard.lean, 'card_holds'). Laid BY PROGRAM, IN A SANDBOX (cutbox-door.mjs). By AI agents, Wed Nov 11 2026. No macro, syntax, notation, axiom, sorry.
-/
import Derived.Test.YtplbnhfkndegaaaDoorRows
import GoSem.ClaimSeven
namespace Go.Proofs.YtplbnhfkndegaaaDoor
namespace Rows

/-- THE TIED CARD OF 'deliberationlaw13.AdmissibleUnion'. -/
def admissibleUnionCard : Claim7 := { stood := { row := admissibleUnionRow, standIns := [], harness := (true, "c3a75f188ca09e857cde53b7bf17ab94fe577bfe2e044f64109b16237aa8ce17"), looks := false }, kinds := [], alts := [], laidByText := true, laidKinds := [.data], laidTests := true, laidLooks := .later }
def AdmissibleUnionCardSaid : Prop := Claim7.holds Tryd.pinned (.plain (OpenSpec.ofChange admissibleUnionSpec)) admissibleUnionCard

/-- THE TIED CARD OF 'deliberationlaw13.AdmissibleLemma'. -/
def admissibleLemmaCard : Claim7 := { stood := { row := admissibleLemmaRow, standIns := [], harness := (true, "c3a75f188ca09e857cde53b7bf17ab94fe577bfe2e044f64109b16237aa8ce17"), looks := false }, kinds := [], alts := [], laidByText := true, laidKinds := [.data], laidTests := true, laidLooks := .later }
def AdmissibleLemmaCardSaid : Prop := Claim7.holds Tryd.pinned (.plain (OpenSpec.ofChange admissibleLemmaSpec)) admissibleLemmaCard

/-- THE TIED CARD OF 'deliberationlaw13.AdmissibleGrows'. -/
def admissibleGrowsCard : Claim7 := { stood := { row := admissibleGrowsRow, standIns := [], harness := (true, "c3a75f188ca09e857cde53b7bf17ab94fe577bfe2e044f64109b16237aa8ce17"), looks := false }, kinds := [], alts := [], laidByText := true, laidKinds := [.data], laidTests := true, laidLooks := .later }
def AdmissibleGrowsCardSaid : Prop := Claim7.holds Tryd.pinned (.plain (OpenSpec.ofChange admissibleGrowsSpec)) admissibleGrowsCard

/-- THE TIED CARD OF 'deliberationlaw13.AdmissibleLeast'. -/
def admissibleLeastCard : Claim7 := { stood := { row := admissibleLeastRow, standIns := [], harness := (true, "c3a75f188ca09e857cde53b7bf17ab94fe577bfe2e044f64109b16237aa8ce17"), looks := false }, kinds := [], alts := [], laidByText := true, laidKinds := [.data], laidTests := true, laidLooks := .later }
def AdmissibleLeastCardSaid : Prop := Claim7.holds Tryd.pinned (.plain (OpenSpec.ofChange admissibleLeastSpec)) admissibleLeastCard

/-- THE TIED CARD OF 'deliberationlaw13.AdmissibleSets'. -/
def admissibleSetsCard : Claim7 := { stood := { row := admissibleSetsRow, standIns := [], harness := (true, "c3a75f188ca09e857cde53b7bf17ab94fe577bfe2e044f64109b16237aa8ce17"), looks := false }, kinds := [], alts := [], laidByText := true, laidKinds := [.data], laidTests := true, laidLooks := .later }
def AdmissibleSetsCardSaid : Prop := Claim7.holds Tryd.pinned (.plain (OpenSpec.ofChange admissibleSetsSpec)) admissibleSetsCard

/-- THE SECOND FORM's CARD OF 'deliberationlaw13.AdmissibleUnion'. -/
def admissibleUnionUptoCard : Claim7 := { stood := { row := admissibleUnionUptoRow, standIns := [], harness := (true, "c3a75f188ca09e857cde53b7bf17ab94fe577bfe2e044f64109b16237aa8ce17"), looks := false }, kinds := [], alts := [], laidByText := true, laidKinds := [.data], laidTests := true, laidLooks := .later }
def AdmissibleUnionUptoCardSaid : Prop := Claim7.holds Tryd.pinned (.plain (OpenSpec.upto admissibleUnionSpec)) admissibleUnionUptoCard

/-- THE SECOND FORM's CARD OF 'deliberationlaw13.AdmissibleLemma'. -/
def admissibleLemmaUptoCard : Claim7 := { stood := { row := admissibleLemmaUptoRow, standIns := [], harness := (true, "c3a75f188ca09e857cde53b7bf17ab94fe577bfe2e044f64109b16237aa8ce17"), looks := false }, kinds := [], alts := [], laidByText := true, laidKinds := [.data], laidTests := true, laidLooks := .later }
def AdmissibleLemmaUptoCardSaid : Prop := Claim7.holds Tryd.pinned (.plain (OpenSpec.upto admissibleLemmaSpec)) admissibleLemmaUptoCard

/-- THE SECOND FORM's CARD OF 'deliberationlaw13.AdmissibleGrows'. -/
def admissibleGrowsUptoCard : Claim7 := { stood := { row := admissibleGrowsUptoRow, standIns := [], harness := (true, "c3a75f188ca09e857cde53b7bf17ab94fe577bfe2e044f64109b16237aa8ce17"), looks := false }, kinds := [], alts := [], laidByText := true, laidKinds := [.data], laidTests := true, laidLooks := .later }
def AdmissibleGrowsUptoCardSaid : Prop := Claim7.holds Tryd.pinned (.plain (OpenSpec.upto admissibleGrowsSpec)) admissibleGrowsUptoCard

/-- THE SECOND FORM's CARD OF 'deliberationlaw13.AdmissibleLeast'. -/
def admissibleLeastUptoCard : Claim7 := { stood := { row := admissibleLeastUptoRow, standIns := [], harness := (true, "c3a75f188ca09e857cde53b7bf17ab94fe577bfe2e044f64109b16237aa8ce17"), looks := false }, kinds := [], alts := [], laidByText := true, laidKinds := [.data], laidTests := true, laidLooks := .later }
def AdmissibleLeastUptoCardSaid : Prop := Claim7.holds Tryd.pinned (.plain (OpenSpec.upto admissibleLeastSpec)) admissibleLeastUptoCard

/-- THE SECOND FORM's CARD OF 'deliberationlaw13.AdmissibleSets'. -/
def admissibleSetsUptoCard : Claim7 := { stood := { row := admissibleSetsUptoRow, standIns := [], harness := (true, "c3a75f188ca09e857cde53b7bf17ab94fe577bfe2e044f64109b16237aa8ce17"), looks := false }, kinds := [], alts := [], laidByText := true, laidKinds := [.data], laidTests := true, laidLooks := .later }
def AdmissibleSetsUptoCardSaid : Prop := Claim7.holds Tryd.pinned (.plain (OpenSpec.upto admissibleSetsSpec)) admissibleSetsUptoCard
end Rows
end Go.Proofs.YtplbnhfkndegaaaDoor
