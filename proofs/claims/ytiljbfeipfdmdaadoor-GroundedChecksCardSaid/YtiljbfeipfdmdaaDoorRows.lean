/-
  NARROWER THAN 'FOR EVERY INPUT', by the rows' own cells (each row's printed sentence says how): LabellingLegal: laid · LabellingChanges: laid · LabellingSets: laid · LabellingComplete: laid · LabellingOrders: laid · LabellingLattice: laid · GroundedAcyclic: laid · GroundedLocal: laid · GroundedLeast: laid · GroundedChecks: laid · GroundedProves: laid · AdmissibleLabels: laid.
  DERIVED. THE GIVEN ROWS OF THIS SEAT. 12 by the template 'for every input the law returns true; each argument reads behind the call as it read before'; 0 by the template 'total and deterministic' (their statements: YtiljbfeipfdmdaaDoorTotals.lean).
  GIVEN WITH THE SEED: the statements are not yours to turn. If you find one false, say at which input.
  Laid BY PROGRAM, IN A SANDBOX (cutbox-rows.mjs): the forced cells as the released guide's own fill.sh prints them over the translation 81cbdb5ab2321f76… (all of the seat's roots in one cut). By AI agents, Wed Nov 11 2026. No macro, syntax, notation, axiom, sorry.
-/
import Derived.Test.YtiljbfeipfdmdaaDoorChecked
import GoSem.Claim
import GoSem.ClaimJoined
import GoSem.ClaimMapViews
import Derived.JoinedTies
import Derived.KernelRfl
namespace Go.Proofs.YtiljbfeipfdmdaaDoor
/- THE CELL 'sum', in the pinned program and in every row, IS THE sha256 OF THE DUMP (.gsa) THAT YtiljbfeipfdmdaaDoorProg.lean LOADS. Nothing in Lean hashes anything: it is a label: what it is worth is what the hold of that sum in a sandbox is worth. -/
noncomputable def Tryd.pinned : Pinned := { name := "ytiljbfeipfdmdaadoor", sum := "81cbdb5ab2321f76194d62bb38fd0fbbc9d11e814145307294abf406fbf5e116", checked := Tryd.checked }
namespace Rows
def none {H : Type} : Left H := { results := [], args := [] }

/- WHAT THE LISTED PACKAGE-LEVEL VARIABLES READ AS WHEN THE CALL BEGINS. Each datum BY PROGRAM (the guide's laid-datum.mjs) off the statement by which the dump's own 'gosem.cut.vars' lays the variable. In a bare row this is a premise. The card (YtiljbfeipfdmdaaDoorCards.lean) ties it to the program's text. -/
def laid_math_bits_deBruijn64tab {H : Type} : DataW H := .agg [.lit (.int .u8 0), .lit (.int .u8 1), .lit (.int .u8 56), .lit (.int .u8 2), .lit (.int .u8 57), .lit (.int .u8 49), .lit (.int .u8 28), .lit (.int .u8 3), .lit (.int .u8 61), .lit (.int .u8 58), .lit (.int .u8 42), .lit (.int .u8 50), .lit (.int .u8 38), .lit (.int .u8 29), .lit (.int .u8 17), .lit (.int .u8 4), .lit (.int .u8 62), .lit (.int .u8 47), .lit (.int .u8 59), .lit (.int .u8 36), .lit (.int .u8 45), .lit (.int .u8 43), .lit (.int .u8 51), .lit (.int .u8 22), .lit (.int .u8 53), .lit (.int .u8 39), .lit (.int .u8 33), .lit (.int .u8 30), .lit (.int .u8 24), .lit (.int .u8 18), .lit (.int .u8 12), .lit (.int .u8 5), .lit (.int .u8 63), .lit (.int .u8 55), .lit (.int .u8 48), .lit (.int .u8 27), .lit (.int .u8 60), .lit (.int .u8 41), .lit (.int .u8 37), .lit (.int .u8 16), .lit (.int .u8 46), .lit (.int .u8 35), .lit (.int .u8 44), .lit (.int .u8 21), .lit (.int .u8 52), .lit (.int .u8 32), .lit (.int .u8 23), .lit (.int .u8 11), .lit (.int .u8 54), .lit (.int .u8 26), .lit (.int .u8 40), .lit (.int .u8 15), .lit (.int .u8 34), .lit (.int .u8 20), .lit (.int .u8 31), .lit (.int .u8 10), .lit (.int .u8 25), .lit (.int .u8 14), .lit (.int .u8 19), .lit (.int .u8 9), .lit (.int .u8 13), .lit (.int .u8 8), .lit (.int .u8 7), .lit (.int .u8 6)]

/-- 'deliberationlaw11.LabellingLegal': WHATEVER THE INPUT: true; the input reads as it did. -/
def labellingLegalSpec : ChangeSpec := { name := "labellingLegal", fn := fun _ => fun
  | [d1, d2] => { results := [.lit (.bool true)], args := [d1, d2] }
  | _ => none }
def labellingLegalRow : OpenClaim := { program := "ytiljbfeipfdmdaadoor", sum := "81cbdb5ab2321f76194d62bb38fd0fbbc9d11e814145307294abf406fbf5e116", func := "deliberation/deliberationlaw11.LabellingLegal", spec := "labellingLegal", unfollowed := true, recurses := true, named := ["math/bits.deBruijn64tab"], apart := false, laid := [("math/bits.deBruijn64tab", laid_math_bits_deBruijn64tab)] }
def LabellingLegalSaid : Prop := labellingLegalRow.holds Tryd.pinned (OpenSpec.ofChange labellingLegalSpec)

/-- ITS FALSE NEIGHBOUR: 'it returns false'. Refute it at one input. -/
def labellingLegalWrong : ChangeSpec := { name := "labellingLegal", fn := fun _ => fun
  | [d1, d2] => { results := [.lit (.bool false)], args := [d1, d2] }
  | _ => none }
def LabellingLegalWrongFalsely : Prop := labellingLegalRow.holds Tryd.pinned (OpenSpec.ofChange labellingLegalWrong)

/-- 'deliberationlaw11.LabellingChanges': WHATEVER THE INPUT: true; the input reads as it did. -/
def labellingChangesSpec : ChangeSpec := { name := "labellingChanges", fn := fun _ => fun
  | [d] => { results := [.lit (.bool true)], args := [d] }
  | _ => none }
def labellingChangesRow : OpenClaim := { program := "ytiljbfeipfdmdaadoor", sum := "81cbdb5ab2321f76194d62bb38fd0fbbc9d11e814145307294abf406fbf5e116", func := "deliberation/deliberationlaw11.LabellingChanges", spec := "labellingChanges", unfollowed := true, recurses := true, named := ["math/bits.deBruijn64tab"], apart := false, laid := [("math/bits.deBruijn64tab", laid_math_bits_deBruijn64tab)] }
def LabellingChangesSaid : Prop := labellingChangesRow.holds Tryd.pinned (OpenSpec.ofChange labellingChangesSpec)

/-- ITS FALSE NEIGHBOUR: 'it returns false'. Refute it at one input. -/
def labellingChangesWrong : ChangeSpec := { name := "labellingChanges", fn := fun _ => fun
  | [d] => { results := [.lit (.bool false)], args := [d] }
  | _ => none }
def LabellingChangesWrongFalsely : Prop := labellingChangesRow.holds Tryd.pinned (OpenSpec.ofChange labellingChangesWrong)

/-- 'deliberationlaw11.LabellingSets': WHATEVER THE INPUT: true; the input reads as it did. -/
def labellingSetsSpec : ChangeSpec := { name := "labellingSets", fn := fun _ => fun
  | [d1, d2, d3, d4] => { results := [.lit (.bool true)], args := [d1, d2, d3, d4] }
  | _ => none }
def labellingSetsRow : OpenClaim := { program := "ytiljbfeipfdmdaadoor", sum := "81cbdb5ab2321f76194d62bb38fd0fbbc9d11e814145307294abf406fbf5e116", func := "deliberation/deliberationlaw11.LabellingSets", spec := "labellingSets", unfollowed := true, recurses := true, named := ["math/bits.deBruijn64tab"], apart := false, laid := [("math/bits.deBruijn64tab", laid_math_bits_deBruijn64tab)] }
def LabellingSetsSaid : Prop := labellingSetsRow.holds Tryd.pinned (OpenSpec.ofChange labellingSetsSpec)

/-- ITS FALSE NEIGHBOUR: 'it returns false'. Refute it at one input. -/
def labellingSetsWrong : ChangeSpec := { name := "labellingSets", fn := fun _ => fun
  | [d1, d2, d3, d4] => { results := [.lit (.bool false)], args := [d1, d2, d3, d4] }
  | _ => none }
def LabellingSetsWrongFalsely : Prop := labellingSetsRow.holds Tryd.pinned (OpenSpec.ofChange labellingSetsWrong)

/-- 'deliberationlaw11.LabellingComplete': WHATEVER THE INPUT: true; the input reads as it did. -/
def labellingCompleteSpec : ChangeSpec := { name := "labellingComplete", fn := fun _ => fun
  | [d] => { results := [.lit (.bool true)], args := [d] }
  | _ => none }
def labellingCompleteRow : OpenClaim := { program := "ytiljbfeipfdmdaadoor", sum := "81cbdb5ab2321f76194d62bb38fd0fbbc9d11e814145307294abf406fbf5e116", func := "deliberation/deliberationlaw11.LabellingComplete", spec := "labellingComplete", unfollowed := true, recurses := true, named := ["math/bits.deBruijn64tab"], apart := false, laid := [("math/bits.deBruijn64tab", laid_math_bits_deBruijn64tab)] }
def LabellingCompleteSaid : Prop := labellingCompleteRow.holds Tryd.pinned (OpenSpec.ofChange labellingCompleteSpec)

/-- ITS FALSE NEIGHBOUR: 'it returns false'. Refute it at one input. -/
def labellingCompleteWrong : ChangeSpec := { name := "labellingComplete", fn := fun _ => fun
  | [d] => { results := [.lit (.bool false)], args := [d] }
  | _ => none }
def LabellingCompleteWrongFalsely : Prop := labellingCompleteRow.holds Tryd.pinned (OpenSpec.ofChange labellingCompleteWrong)

/-- 'deliberationlaw11.LabellingOrders': WHATEVER THE INPUT: true; the input reads as it did. -/
def labellingOrdersSpec : ChangeSpec := { name := "labellingOrders", fn := fun _ => fun
  | [d1, d2, d3] => { results := [.lit (.bool true)], args := [d1, d2, d3] }
  | _ => none }
def labellingOrdersRow : OpenClaim := { program := "ytiljbfeipfdmdaadoor", sum := "81cbdb5ab2321f76194d62bb38fd0fbbc9d11e814145307294abf406fbf5e116", func := "deliberation/deliberationlaw11.LabellingOrders", spec := "labellingOrders", unfollowed := true, recurses := true, named := ["math/bits.deBruijn64tab"], apart := false, laid := [("math/bits.deBruijn64tab", laid_math_bits_deBruijn64tab)] }
def LabellingOrdersSaid : Prop := labellingOrdersRow.holds Tryd.pinned (OpenSpec.ofChange labellingOrdersSpec)

/-- ITS FALSE NEIGHBOUR: 'it returns false'. Refute it at one input. -/
def labellingOrdersWrong : ChangeSpec := { name := "labellingOrders", fn := fun _ => fun
  | [d1, d2, d3] => { results := [.lit (.bool false)], args := [d1, d2, d3] }
  | _ => none }
def LabellingOrdersWrongFalsely : Prop := labellingOrdersRow.holds Tryd.pinned (OpenSpec.ofChange labellingOrdersWrong)

/-- 'deliberationlaw11.LabellingLattice': WHATEVER THE INPUT: true; the input reads as it did. -/
def labellingLatticeSpec : ChangeSpec := { name := "labellingLattice", fn := fun _ => fun
  | [d] => { results := [.lit (.bool true)], args := [d] }
  | _ => none }
def labellingLatticeRow : OpenClaim := { program := "ytiljbfeipfdmdaadoor", sum := "81cbdb5ab2321f76194d62bb38fd0fbbc9d11e814145307294abf406fbf5e116", func := "deliberation/deliberationlaw11.LabellingLattice", spec := "labellingLattice", unfollowed := true, recurses := true, named := ["math/bits.deBruijn64tab"], apart := false, laid := [("math/bits.deBruijn64tab", laid_math_bits_deBruijn64tab)] }
def LabellingLatticeSaid : Prop := labellingLatticeRow.holds Tryd.pinned (OpenSpec.ofChange labellingLatticeSpec)

/-- ITS FALSE NEIGHBOUR: 'it returns false'. Refute it at one input. -/
def labellingLatticeWrong : ChangeSpec := { name := "labellingLattice", fn := fun _ => fun
  | [d] => { results := [.lit (.bool false)], args := [d] }
  | _ => none }
def LabellingLatticeWrongFalsely : Prop := labellingLatticeRow.holds Tryd.pinned (OpenSpec.ofChange labellingLatticeWrong)

/-- 'deliberationlaw12.GroundedAcyclic': WHATEVER THE INPUT: true; the input reads as it did. -/
def groundedAcyclicSpec : ChangeSpec := { name := "groundedAcyclic", fn := fun _ => fun
  | [d] => { results := [.lit (.bool true)], args := [d] }
  | _ => none }
def groundedAcyclicRow : OpenClaim := { program := "ytiljbfeipfdmdaadoor", sum := "81cbdb5ab2321f76194d62bb38fd0fbbc9d11e814145307294abf406fbf5e116", func := "deliberation/deliberationlaw12.GroundedAcyclic", spec := "groundedAcyclic", unfollowed := true, recurses := true, named := ["math/bits.deBruijn64tab"], apart := false, laid := [("math/bits.deBruijn64tab", laid_math_bits_deBruijn64tab)] }
def GroundedAcyclicSaid : Prop := groundedAcyclicRow.holds Tryd.pinned (OpenSpec.ofChange groundedAcyclicSpec)

/-- ITS FALSE NEIGHBOUR: 'it returns false'. Refute it at one input. -/
def groundedAcyclicWrong : ChangeSpec := { name := "groundedAcyclic", fn := fun _ => fun
  | [d] => { results := [.lit (.bool false)], args := [d] }
  | _ => none }
def GroundedAcyclicWrongFalsely : Prop := groundedAcyclicRow.holds Tryd.pinned (OpenSpec.ofChange groundedAcyclicWrong)

/-- 'deliberationlaw12.GroundedLocal': WHATEVER THE INPUT: true; the input reads as it did. -/
def groundedLocalSpec : ChangeSpec := { name := "groundedLocal", fn := fun _ => fun
  | [d] => { results := [.lit (.bool true)], args := [d] }
  | _ => none }
def groundedLocalRow : OpenClaim := { program := "ytiljbfeipfdmdaadoor", sum := "81cbdb5ab2321f76194d62bb38fd0fbbc9d11e814145307294abf406fbf5e116", func := "deliberation/deliberationlaw12.GroundedLocal", spec := "groundedLocal", unfollowed := true, recurses := true, named := ["math/bits.deBruijn64tab"], apart := false, laid := [("math/bits.deBruijn64tab", laid_math_bits_deBruijn64tab)] }
def GroundedLocalSaid : Prop := groundedLocalRow.holds Tryd.pinned (OpenSpec.ofChange groundedLocalSpec)

/-- ITS FALSE NEIGHBOUR: 'it returns false'. Refute it at one input. -/
def groundedLocalWrong : ChangeSpec := { name := "groundedLocal", fn := fun _ => fun
  | [d] => { results := [.lit (.bool false)], args := [d] }
  | _ => none }
def GroundedLocalWrongFalsely : Prop := groundedLocalRow.holds Tryd.pinned (OpenSpec.ofChange groundedLocalWrong)

/-- 'deliberationlaw12.GroundedLeast': WHATEVER THE INPUT: true; the input reads as it did. -/
def groundedLeastSpec : ChangeSpec := { name := "groundedLeast", fn := fun _ => fun
  | [d] => { results := [.lit (.bool true)], args := [d] }
  | _ => none }
def groundedLeastRow : OpenClaim := { program := "ytiljbfeipfdmdaadoor", sum := "81cbdb5ab2321f76194d62bb38fd0fbbc9d11e814145307294abf406fbf5e116", func := "deliberation/deliberationlaw12.GroundedLeast", spec := "groundedLeast", unfollowed := true, recurses := true, named := ["math/bits.deBruijn64tab"], apart := false, laid := [("math/bits.deBruijn64tab", laid_math_bits_deBruijn64tab)] }
def GroundedLeastSaid : Prop := groundedLeastRow.holds Tryd.pinned (OpenSpec.ofChange groundedLeastSpec)

/-- ITS FALSE NEIGHBOUR: 'it returns false'. Refute it at one input. -/
def groundedLeastWrong : ChangeSpec := { name := "groundedLeast", fn := fun _ => fun
  | [d] => { results := [.lit (.bool false)], args := [d] }
  | _ => none }
def GroundedLeastWrongFalsely : Prop := groundedLeastRow.holds Tryd.pinned (OpenSpec.ofChange groundedLeastWrong)

/-- 'deliberationlaw12.GroundedChecks': WHATEVER THE INPUT: true; the input reads as it did. -/
def groundedChecksSpec : ChangeSpec := { name := "groundedChecks", fn := fun _ => fun
  | [d1, d2, d3, d4] => { results := [.lit (.bool true)], args := [d1, d2, d3, d4] }
  | _ => none }
def groundedChecksRow : OpenClaim := { program := "ytiljbfeipfdmdaadoor", sum := "81cbdb5ab2321f76194d62bb38fd0fbbc9d11e814145307294abf406fbf5e116", func := "deliberation/deliberationlaw12.GroundedChecks", spec := "groundedChecks", unfollowed := true, recurses := true, named := ["math/bits.deBruijn64tab"], apart := false, laid := [("math/bits.deBruijn64tab", laid_math_bits_deBruijn64tab)] }
def GroundedChecksSaid : Prop := groundedChecksRow.holds Tryd.pinned (OpenSpec.ofChange groundedChecksSpec)

/-- ITS FALSE NEIGHBOUR: 'it returns false'. Refute it at one input. -/
def groundedChecksWrong : ChangeSpec := { name := "groundedChecks", fn := fun _ => fun
  | [d1, d2, d3, d4] => { results := [.lit (.bool false)], args := [d1, d2, d3, d4] }
  | _ => none }
def GroundedChecksWrongFalsely : Prop := groundedChecksRow.holds Tryd.pinned (OpenSpec.ofChange groundedChecksWrong)

/-- 'deliberationlaw12.GroundedProves': WHATEVER THE INPUT: true; the input reads as it did. -/
def groundedProvesSpec : ChangeSpec := { name := "groundedProves", fn := fun _ => fun
  | [d1, d2] => { results := [.lit (.bool true)], args := [d1, d2] }
  | _ => none }
def groundedProvesRow : OpenClaim := { program := "ytiljbfeipfdmdaadoor", sum := "81cbdb5ab2321f76194d62bb38fd0fbbc9d11e814145307294abf406fbf5e116", func := "deliberation/deliberationlaw12.GroundedProves", spec := "groundedProves", unfollowed := true, recurses := true, named := ["math/bits.deBruijn64tab"], apart := false, laid := [("math/bits.deBruijn64tab", laid_math_bits_deBruijn64tab)] }
def GroundedProvesSaid : Prop := groundedProvesRow.holds Tryd.pinned (OpenSpec.ofChange groundedProvesSpec)

/-- ITS FALSE NEIGHBOUR: 'it returns false'. Refute it at one input. -/
def groundedProvesWrong : ChangeSpec := { name := "groundedProves", fn := fun _ => fun
  | [d1, d2] => { results := [.lit (.bool false)], args := [d1, d2] }
  | _ => none }
def GroundedProvesWrongFalsely : Prop := groundedProvesRow.holds Tryd.pinned (OpenSpec.ofChange groundedProvesWrong)

/-- 'deliberationlaw13.AdmissibleLabels': WHATEVER THE INPUT: true; the input reads as it did. -/
def admissibleLabelsSpec : ChangeSpec := { name := "admissibleLabels", fn := fun _ => fun
  | [d] => { results := [.lit (.bool true)], args := [d] }
  | _ => none }
def admissibleLabelsRow : OpenClaim := { program := "ytiljbfeipfdmdaadoor", sum := "81cbdb5ab2321f76194d62bb38fd0fbbc9d11e814145307294abf406fbf5e116", func := "deliberation/deliberationlaw13.AdmissibleLabels", spec := "admissibleLabels", unfollowed := true, recurses := true, named := ["math/bits.deBruijn64tab"], apart := false, laid := [("math/bits.deBruijn64tab", laid_math_bits_deBruijn64tab)] }
def AdmissibleLabelsSaid : Prop := admissibleLabelsRow.holds Tryd.pinned (OpenSpec.ofChange admissibleLabelsSpec)

/-- ITS FALSE NEIGHBOUR: 'it returns false'. Refute it at one input. -/
def admissibleLabelsWrong : ChangeSpec := { name := "admissibleLabels", fn := fun _ => fun
  | [d] => { results := [.lit (.bool false)], args := [d] }
  | _ => none }
def AdmissibleLabelsWrongFalsely : Prop := admissibleLabelsRow.holds Tryd.pinned (OpenSpec.ofChange admissibleLabelsWrong)

/- THE SECOND FORM. 'bulk': how many values and letters a reading holds, each counted each time it is reached (what is shared counts as often as it is met; a slice's spare places count too). A statement '..UptoSaid' is the law's where the arguments, and the package variables that the reading takes, are together of bulk at most 1048576: NARROWER than '..Said'. Prove '..Said' where nothing that the law and all that it calls make is longer than what came in: it says more and counts as full. Else prove '..UptoSaid'. A law counts once. -/
mutual
def uptoBulk {H : Type} : DataW H → Nat
  | .lit (.string bytes) => bytes.length + 1
  | .lit _ => 1
  | .nil => 1
  | .ptr d => uptoBulk d + 1
  | .slice elems spare => uptoBulkAll elems + uptoBulkAll spare + 1
  | .agg parts => uptoBulkAll parts + 1
  | .iface _ d => uptoBulk d + 1
  | .map entries => uptoBulkEntries entries + 1
  | .held _ => 1
def uptoBulkAll {H : Type} : List (DataW H) → Nat
  | [] => 0
  | d :: r => uptoBulk d + uptoBulkAll r
def uptoBulkEntries {H : Type} : List (Lit × DataW H) → Nat
  | [] => 0
  | x :: r => uptoBulkEntry x + uptoBulkEntries r
def uptoBulkEntry {H : Type} : Lit × DataW H → Nat
  | (.string bytes, d) => bytes.length + uptoBulk d + 1
  | (_, d) => uptoBulk d + 1
 end
def uptoSmall : (H : Type) → List (DataW H) → Bool := fun _ ds => decide (uptoBulkAll ds ≤ 1048576)
def OpenSpec.upto (s : _root_.Go.ChangeSpec) : _root_.Go.OpenSpec := { _root_.Go.OpenSpec.ofChange s with cond := some uptoSmall }

/-- 'deliberationlaw11.LabellingLegal', WHERE WHAT IT READS IS OF BULK AT MOST 1048576: true; the input reads as it did. -/
def labellingLegalUptoRow : OpenClaim := { program := "ytiljbfeipfdmdaadoor", sum := "81cbdb5ab2321f76194d62bb38fd0fbbc9d11e814145307294abf406fbf5e116", func := "deliberation/deliberationlaw11.LabellingLegal", spec := "labellingLegal", unfollowed := true, recurses := true, named := ["math/bits.deBruijn64tab"], apart := false, laid := [("math/bits.deBruijn64tab", laid_math_bits_deBruijn64tab)], narrowed := true }
def LabellingLegalUptoSaid : Prop := labellingLegalUptoRow.holds Tryd.pinned (OpenSpec.upto labellingLegalSpec)

/-- 'deliberationlaw11.LabellingChanges', WHERE WHAT IT READS IS OF BULK AT MOST 1048576: true; the input reads as it did. -/
def labellingChangesUptoRow : OpenClaim := { program := "ytiljbfeipfdmdaadoor", sum := "81cbdb5ab2321f76194d62bb38fd0fbbc9d11e814145307294abf406fbf5e116", func := "deliberation/deliberationlaw11.LabellingChanges", spec := "labellingChanges", unfollowed := true, recurses := true, named := ["math/bits.deBruijn64tab"], apart := false, laid := [("math/bits.deBruijn64tab", laid_math_bits_deBruijn64tab)], narrowed := true }
def LabellingChangesUptoSaid : Prop := labellingChangesUptoRow.holds Tryd.pinned (OpenSpec.upto labellingChangesSpec)

/-- 'deliberationlaw11.LabellingSets', WHERE WHAT IT READS IS OF BULK AT MOST 1048576: true; the input reads as it did. -/
def labellingSetsUptoRow : OpenClaim := { program := "ytiljbfeipfdmdaadoor", sum := "81cbdb5ab2321f76194d62bb38fd0fbbc9d11e814145307294abf406fbf5e116", func := "deliberation/deliberationlaw11.LabellingSets", spec := "labellingSets", unfollowed := true, recurses := true, named := ["math/bits.deBruijn64tab"], apart := false, laid := [("math/bits.deBruijn64tab", laid_math_bits_deBruijn64tab)], narrowed := true }
def LabellingSetsUptoSaid : Prop := labellingSetsUptoRow.holds Tryd.pinned (OpenSpec.upto labellingSetsSpec)

/-- 'deliberationlaw11.LabellingComplete', WHERE WHAT IT READS IS OF BULK AT MOST 1048576: true; the input reads as it did. -/
def labellingCompleteUptoRow : OpenClaim := { program := "ytiljbfeipfdmdaadoor", sum := "81cbdb5ab2321f76194d62bb38fd0fbbc9d11e814145307294abf406fbf5e116", func := "deliberation/deliberationlaw11.LabellingComplete", spec := "labellingComplete", unfollowed := true, recurses := true, named := ["math/bits.deBruijn64tab"], apart := false, laid := [("math/bits.deBruijn64tab", laid_math_bits_deBruijn64tab)], narrowed := true }
def LabellingCompleteUptoSaid : Prop := labellingCompleteUptoRow.holds Tryd.pinned (OpenSpec.upto labellingCompleteSpec)

/-- 'deliberationlaw11.LabellingOrders', WHERE WHAT IT READS IS OF BULK AT MOST 1048576: true; the input reads as it did. -/
def labellingOrdersUptoRow : OpenClaim := { program := "ytiljbfeipfdmdaadoor", sum := "81cbdb5ab2321f76194d62bb38fd0fbbc9d11e814145307294abf406fbf5e116", func := "deliberation/deliberationlaw11.LabellingOrders", spec := "labellingOrders", unfollowed := true, recurses := true, named := ["math/bits.deBruijn64tab"], apart := false, laid := [("math/bits.deBruijn64tab", laid_math_bits_deBruijn64tab)], narrowed := true }
def LabellingOrdersUptoSaid : Prop := labellingOrdersUptoRow.holds Tryd.pinned (OpenSpec.upto labellingOrdersSpec)

/-- 'deliberationlaw11.LabellingLattice', WHERE WHAT IT READS IS OF BULK AT MOST 1048576: true; the input reads as it did. -/
def labellingLatticeUptoRow : OpenClaim := { program := "ytiljbfeipfdmdaadoor", sum := "81cbdb5ab2321f76194d62bb38fd0fbbc9d11e814145307294abf406fbf5e116", func := "deliberation/deliberationlaw11.LabellingLattice", spec := "labellingLattice", unfollowed := true, recurses := true, named := ["math/bits.deBruijn64tab"], apart := false, laid := [("math/bits.deBruijn64tab", laid_math_bits_deBruijn64tab)], narrowed := true }
def LabellingLatticeUptoSaid : Prop := labellingLatticeUptoRow.holds Tryd.pinned (OpenSpec.upto labellingLatticeSpec)

/-- 'deliberationlaw12.GroundedAcyclic', WHERE WHAT IT READS IS OF BULK AT MOST 1048576: true; the input reads as it did. -/
def groundedAcyclicUptoRow : OpenClaim := { program := "ytiljbfeipfdmdaadoor", sum := "81cbdb5ab2321f76194d62bb38fd0fbbc9d11e814145307294abf406fbf5e116", func := "deliberation/deliberationlaw12.GroundedAcyclic", spec := "groundedAcyclic", unfollowed := true, recurses := true, named := ["math/bits.deBruijn64tab"], apart := false, laid := [("math/bits.deBruijn64tab", laid_math_bits_deBruijn64tab)], narrowed := true }
def GroundedAcyclicUptoSaid : Prop := groundedAcyclicUptoRow.holds Tryd.pinned (OpenSpec.upto groundedAcyclicSpec)

/-- 'deliberationlaw12.GroundedLocal', WHERE WHAT IT READS IS OF BULK AT MOST 1048576: true; the input reads as it did. -/
def groundedLocalUptoRow : OpenClaim := { program := "ytiljbfeipfdmdaadoor", sum := "81cbdb5ab2321f76194d62bb38fd0fbbc9d11e814145307294abf406fbf5e116", func := "deliberation/deliberationlaw12.GroundedLocal", spec := "groundedLocal", unfollowed := true, recurses := true, named := ["math/bits.deBruijn64tab"], apart := false, laid := [("math/bits.deBruijn64tab", laid_math_bits_deBruijn64tab)], narrowed := true }
def GroundedLocalUptoSaid : Prop := groundedLocalUptoRow.holds Tryd.pinned (OpenSpec.upto groundedLocalSpec)

/-- 'deliberationlaw12.GroundedLeast', WHERE WHAT IT READS IS OF BULK AT MOST 1048576: true; the input reads as it did. -/
def groundedLeastUptoRow : OpenClaim := { program := "ytiljbfeipfdmdaadoor", sum := "81cbdb5ab2321f76194d62bb38fd0fbbc9d11e814145307294abf406fbf5e116", func := "deliberation/deliberationlaw12.GroundedLeast", spec := "groundedLeast", unfollowed := true, recurses := true, named := ["math/bits.deBruijn64tab"], apart := false, laid := [("math/bits.deBruijn64tab", laid_math_bits_deBruijn64tab)], narrowed := true }
def GroundedLeastUptoSaid : Prop := groundedLeastUptoRow.holds Tryd.pinned (OpenSpec.upto groundedLeastSpec)

/-- 'deliberationlaw12.GroundedChecks', WHERE WHAT IT READS IS OF BULK AT MOST 1048576: true; the input reads as it did. -/
def groundedChecksUptoRow : OpenClaim := { program := "ytiljbfeipfdmdaadoor", sum := "81cbdb5ab2321f76194d62bb38fd0fbbc9d11e814145307294abf406fbf5e116", func := "deliberation/deliberationlaw12.GroundedChecks", spec := "groundedChecks", unfollowed := true, recurses := true, named := ["math/bits.deBruijn64tab"], apart := false, laid := [("math/bits.deBruijn64tab", laid_math_bits_deBruijn64tab)], narrowed := true }
def GroundedChecksUptoSaid : Prop := groundedChecksUptoRow.holds Tryd.pinned (OpenSpec.upto groundedChecksSpec)

/-- 'deliberationlaw12.GroundedProves', WHERE WHAT IT READS IS OF BULK AT MOST 1048576: true; the input reads as it did. -/
def groundedProvesUptoRow : OpenClaim := { program := "ytiljbfeipfdmdaadoor", sum := "81cbdb5ab2321f76194d62bb38fd0fbbc9d11e814145307294abf406fbf5e116", func := "deliberation/deliberationlaw12.GroundedProves", spec := "groundedProves", unfollowed := true, recurses := true, named := ["math/bits.deBruijn64tab"], apart := false, laid := [("math/bits.deBruijn64tab", laid_math_bits_deBruijn64tab)], narrowed := true }
def GroundedProvesUptoSaid : Prop := groundedProvesUptoRow.holds Tryd.pinned (OpenSpec.upto groundedProvesSpec)

/-- 'deliberationlaw13.AdmissibleLabels', WHERE WHAT IT READS IS OF BULK AT MOST 1048576: true; the input reads as it did. -/
def admissibleLabelsUptoRow : OpenClaim := { program := "ytiljbfeipfdmdaadoor", sum := "81cbdb5ab2321f76194d62bb38fd0fbbc9d11e814145307294abf406fbf5e116", func := "deliberation/deliberationlaw13.AdmissibleLabels", spec := "admissibleLabels", unfollowed := true, recurses := true, named := ["math/bits.deBruijn64tab"], apart := false, laid := [("math/bits.deBruijn64tab", laid_math_bits_deBruijn64tab)], narrowed := true }
def AdmissibleLabelsUptoSaid : Prop := admissibleLabelsUptoRow.holds Tryd.pinned (OpenSpec.upto admissibleLabelsSpec)

end Rows
end Go.Proofs.YtiljbfeipfdmdaaDoor
