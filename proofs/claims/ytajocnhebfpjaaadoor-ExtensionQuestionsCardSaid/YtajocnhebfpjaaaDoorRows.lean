/-
  NARROWER THAN 'FOR EVERY INPUT', by the rows' own cells (each row's printed sentence says how): SearchLists: laid · SearchParts: laid · SearchLimits: laid · SearchExact: laid · SearchLarge: laid · SearchMeet: laid · ExtensionLists: laid · ExtensionQuestions: laid · ExtensionNested: laid · ExtensionEven: laid · ExtensionContains: laid · ExtensionExact: laid.
  DERIVED. THE GIVEN ROWS OF THIS SEAT. 12 by the template 'for every input the law returns true; each argument reads behind the call as it read before'; 0 by the template 'total and deterministic' (their statements: YtajocnhebfpjaaaDoorTotals.lean).
  GIVEN WITH THE SEED: the statements are not yours to turn. If you find one false, say at which input.
  Laid BY PROGRAM, IN A SANDBOX (cutbox-rows.mjs): the forced cells as the released guide's own fill.sh prints them over the translation 59c39aacdd60bbef… (all of the seat's roots in one cut). By AI agents, Wed Nov 11 2026. No macro, syntax, notation, axiom, sorry.
-/
import Derived.Test.YtajocnhebfpjaaaDoorChecked
import GoSem.Claim
import GoSem.ClaimJoined
import GoSem.ClaimMapViews
import Derived.JoinedTies
import Derived.KernelRfl
namespace Go.Proofs.YtajocnhebfpjaaaDoor
/- THE CELL 'sum', in the pinned program and in every row, IS THE sha256 OF THE DUMP (.gsa) THAT YtajocnhebfpjaaaDoorProg.lean LOADS. Nothing in Lean hashes anything: it is a label: what it is worth is what the hold of that sum in a sandbox is worth. -/
noncomputable def Tryd.pinned : Pinned := { name := "ytajocnhebfpjaaadoor", sum := "59c39aacdd60bbef55c3aca1ea949c8da3c0be61bb2fa25ddbd72025f82c6818", checked := Tryd.checked }
namespace Rows
def none {H : Type} : Left H := { results := [], args := [] }

/- WHAT THE LISTED PACKAGE-LEVEL VARIABLES READ AS WHEN THE CALL BEGINS. Each datum BY PROGRAM (the guide's laid-datum.mjs) off the statement by which the dump's own 'gosem.cut.vars' lays the variable. In a bare row this is a premise. The card (YtajocnhebfpjaaaDoorCards.lean) ties it to the program's text. -/
def laid_math_bits_deBruijn64tab {H : Type} : DataW H := .agg [.lit (.int .u8 0), .lit (.int .u8 1), .lit (.int .u8 56), .lit (.int .u8 2), .lit (.int .u8 57), .lit (.int .u8 49), .lit (.int .u8 28), .lit (.int .u8 3), .lit (.int .u8 61), .lit (.int .u8 58), .lit (.int .u8 42), .lit (.int .u8 50), .lit (.int .u8 38), .lit (.int .u8 29), .lit (.int .u8 17), .lit (.int .u8 4), .lit (.int .u8 62), .lit (.int .u8 47), .lit (.int .u8 59), .lit (.int .u8 36), .lit (.int .u8 45), .lit (.int .u8 43), .lit (.int .u8 51), .lit (.int .u8 22), .lit (.int .u8 53), .lit (.int .u8 39), .lit (.int .u8 33), .lit (.int .u8 30), .lit (.int .u8 24), .lit (.int .u8 18), .lit (.int .u8 12), .lit (.int .u8 5), .lit (.int .u8 63), .lit (.int .u8 55), .lit (.int .u8 48), .lit (.int .u8 27), .lit (.int .u8 60), .lit (.int .u8 41), .lit (.int .u8 37), .lit (.int .u8 16), .lit (.int .u8 46), .lit (.int .u8 35), .lit (.int .u8 44), .lit (.int .u8 21), .lit (.int .u8 52), .lit (.int .u8 32), .lit (.int .u8 23), .lit (.int .u8 11), .lit (.int .u8 54), .lit (.int .u8 26), .lit (.int .u8 40), .lit (.int .u8 15), .lit (.int .u8 34), .lit (.int .u8 20), .lit (.int .u8 31), .lit (.int .u8 10), .lit (.int .u8 25), .lit (.int .u8 14), .lit (.int .u8 19), .lit (.int .u8 9), .lit (.int .u8 13), .lit (.int .u8 8), .lit (.int .u8 7), .lit (.int .u8 6)]

/-- 'deliberationlaw14.SearchLists': WHATEVER THE INPUT: true; the input reads as it did. -/
def searchListsSpec : ChangeSpec := { name := "searchLists", fn := fun _ => fun
  | [d1, d2] => { results := [.lit (.bool true)], args := [d1, d2] }
  | _ => none }
def searchListsRow : OpenClaim := { program := "ytajocnhebfpjaaadoor", sum := "59c39aacdd60bbef55c3aca1ea949c8da3c0be61bb2fa25ddbd72025f82c6818", func := "deliberation/deliberationlaw14.SearchLists", spec := "searchLists", unfollowed := true, recurses := true, named := ["math/bits.deBruijn64tab"], apart := false, laid := [("math/bits.deBruijn64tab", laid_math_bits_deBruijn64tab)] }
def SearchListsSaid : Prop := searchListsRow.holds Tryd.pinned (OpenSpec.ofChange searchListsSpec)

/-- ITS FALSE NEIGHBOUR: 'it returns false'. Refute it at one input. -/
def searchListsWrong : ChangeSpec := { name := "searchLists", fn := fun _ => fun
  | [d1, d2] => { results := [.lit (.bool false)], args := [d1, d2] }
  | _ => none }
def SearchListsWrongFalsely : Prop := searchListsRow.holds Tryd.pinned (OpenSpec.ofChange searchListsWrong)

/-- 'deliberationlaw14.SearchParts': WHATEVER THE INPUT: true; the input reads as it did. -/
def searchPartsSpec : ChangeSpec := { name := "searchParts", fn := fun _ => fun
  | [d] => { results := [.lit (.bool true)], args := [d] }
  | _ => none }
def searchPartsRow : OpenClaim := { program := "ytajocnhebfpjaaadoor", sum := "59c39aacdd60bbef55c3aca1ea949c8da3c0be61bb2fa25ddbd72025f82c6818", func := "deliberation/deliberationlaw14.SearchParts", spec := "searchParts", unfollowed := true, recurses := true, named := ["math/bits.deBruijn64tab"], apart := false, laid := [("math/bits.deBruijn64tab", laid_math_bits_deBruijn64tab)] }
def SearchPartsSaid : Prop := searchPartsRow.holds Tryd.pinned (OpenSpec.ofChange searchPartsSpec)

/-- ITS FALSE NEIGHBOUR: 'it returns false'. Refute it at one input. -/
def searchPartsWrong : ChangeSpec := { name := "searchParts", fn := fun _ => fun
  | [d] => { results := [.lit (.bool false)], args := [d] }
  | _ => none }
def SearchPartsWrongFalsely : Prop := searchPartsRow.holds Tryd.pinned (OpenSpec.ofChange searchPartsWrong)

/-- 'deliberationlaw14.SearchLimits': WHATEVER THE INPUT: true; the input reads as it did. -/
def searchLimitsSpec : ChangeSpec := { name := "searchLimits", fn := fun _ => fun
  | [d] => { results := [.lit (.bool true)], args := [d] }
  | _ => none }
def searchLimitsRow : OpenClaim := { program := "ytajocnhebfpjaaadoor", sum := "59c39aacdd60bbef55c3aca1ea949c8da3c0be61bb2fa25ddbd72025f82c6818", func := "deliberation/deliberationlaw14.SearchLimits", spec := "searchLimits", unfollowed := true, recurses := true, named := ["math/bits.deBruijn64tab"], apart := false, laid := [("math/bits.deBruijn64tab", laid_math_bits_deBruijn64tab)] }
def SearchLimitsSaid : Prop := searchLimitsRow.holds Tryd.pinned (OpenSpec.ofChange searchLimitsSpec)

/-- ITS FALSE NEIGHBOUR: 'it returns false'. Refute it at one input. -/
def searchLimitsWrong : ChangeSpec := { name := "searchLimits", fn := fun _ => fun
  | [d] => { results := [.lit (.bool false)], args := [d] }
  | _ => none }
def SearchLimitsWrongFalsely : Prop := searchLimitsRow.holds Tryd.pinned (OpenSpec.ofChange searchLimitsWrong)

/-- 'deliberationlaw14.SearchExact': WHATEVER THE INPUT: true; the input reads as it did. -/
def searchExactSpec : ChangeSpec := { name := "searchExact", fn := fun _ => fun
  | [d] => { results := [.lit (.bool true)], args := [d] }
  | _ => none }
def searchExactRow : OpenClaim := { program := "ytajocnhebfpjaaadoor", sum := "59c39aacdd60bbef55c3aca1ea949c8da3c0be61bb2fa25ddbd72025f82c6818", func := "deliberation/deliberationlaw14.SearchExact", spec := "searchExact", unfollowed := true, recurses := true, named := ["math/bits.deBruijn64tab"], apart := false, laid := [("math/bits.deBruijn64tab", laid_math_bits_deBruijn64tab)] }
def SearchExactSaid : Prop := searchExactRow.holds Tryd.pinned (OpenSpec.ofChange searchExactSpec)

/-- ITS FALSE NEIGHBOUR: 'it returns false'. Refute it at one input. -/
def searchExactWrong : ChangeSpec := { name := "searchExact", fn := fun _ => fun
  | [d] => { results := [.lit (.bool false)], args := [d] }
  | _ => none }
def SearchExactWrongFalsely : Prop := searchExactRow.holds Tryd.pinned (OpenSpec.ofChange searchExactWrong)

/-- 'deliberationlaw14.SearchLarge': WHATEVER THE INPUT: true; the input reads as it did. -/
def searchLargeSpec : ChangeSpec := { name := "searchLarge", fn := fun _ => fun
  | [d] => { results := [.lit (.bool true)], args := [d] }
  | _ => none }
def searchLargeRow : OpenClaim := { program := "ytajocnhebfpjaaadoor", sum := "59c39aacdd60bbef55c3aca1ea949c8da3c0be61bb2fa25ddbd72025f82c6818", func := "deliberation/deliberationlaw14.SearchLarge", spec := "searchLarge", unfollowed := true, recurses := true, named := ["math/bits.deBruijn64tab"], apart := false, laid := [("math/bits.deBruijn64tab", laid_math_bits_deBruijn64tab)] }
def SearchLargeSaid : Prop := searchLargeRow.holds Tryd.pinned (OpenSpec.ofChange searchLargeSpec)

/-- ITS FALSE NEIGHBOUR: 'it returns false'. Refute it at one input. -/
def searchLargeWrong : ChangeSpec := { name := "searchLarge", fn := fun _ => fun
  | [d] => { results := [.lit (.bool false)], args := [d] }
  | _ => none }
def SearchLargeWrongFalsely : Prop := searchLargeRow.holds Tryd.pinned (OpenSpec.ofChange searchLargeWrong)

/-- 'deliberationlaw14.SearchMeet': WHATEVER THE INPUT: true; the input reads as it did. -/
def searchMeetSpec : ChangeSpec := { name := "searchMeet", fn := fun _ => fun
  | [d] => { results := [.lit (.bool true)], args := [d] }
  | _ => none }
def searchMeetRow : OpenClaim := { program := "ytajocnhebfpjaaadoor", sum := "59c39aacdd60bbef55c3aca1ea949c8da3c0be61bb2fa25ddbd72025f82c6818", func := "deliberation/deliberationlaw14.SearchMeet", spec := "searchMeet", unfollowed := true, recurses := true, named := ["math/bits.deBruijn64tab"], apart := false, laid := [("math/bits.deBruijn64tab", laid_math_bits_deBruijn64tab)] }
def SearchMeetSaid : Prop := searchMeetRow.holds Tryd.pinned (OpenSpec.ofChange searchMeetSpec)

/-- ITS FALSE NEIGHBOUR: 'it returns false'. Refute it at one input. -/
def searchMeetWrong : ChangeSpec := { name := "searchMeet", fn := fun _ => fun
  | [d] => { results := [.lit (.bool false)], args := [d] }
  | _ => none }
def SearchMeetWrongFalsely : Prop := searchMeetRow.holds Tryd.pinned (OpenSpec.ofChange searchMeetWrong)

/-- 'deliberationlaw15.ExtensionLists': WHATEVER THE INPUT: true; the input reads as it did. -/
def extensionListsSpec : ChangeSpec := { name := "extensionLists", fn := fun _ => fun
  | [d1, d2] => { results := [.lit (.bool true)], args := [d1, d2] }
  | _ => none }
def extensionListsRow : OpenClaim := { program := "ytajocnhebfpjaaadoor", sum := "59c39aacdd60bbef55c3aca1ea949c8da3c0be61bb2fa25ddbd72025f82c6818", func := "deliberation/deliberationlaw15.ExtensionLists", spec := "extensionLists", unfollowed := true, recurses := true, named := ["math/bits.deBruijn64tab"], apart := false, laid := [("math/bits.deBruijn64tab", laid_math_bits_deBruijn64tab)] }
def ExtensionListsSaid : Prop := extensionListsRow.holds Tryd.pinned (OpenSpec.ofChange extensionListsSpec)

/-- ITS FALSE NEIGHBOUR: 'it returns false'. Refute it at one input. -/
def extensionListsWrong : ChangeSpec := { name := "extensionLists", fn := fun _ => fun
  | [d1, d2] => { results := [.lit (.bool false)], args := [d1, d2] }
  | _ => none }
def ExtensionListsWrongFalsely : Prop := extensionListsRow.holds Tryd.pinned (OpenSpec.ofChange extensionListsWrong)

/-- 'deliberationlaw15.ExtensionQuestions': WHATEVER THE INPUT: true; the input reads as it did. -/
def extensionQuestionsSpec : ChangeSpec := { name := "extensionQuestions", fn := fun _ => fun
  | [d1, d2, d3] => { results := [.lit (.bool true)], args := [d1, d2, d3] }
  | _ => none }
def extensionQuestionsRow : OpenClaim := { program := "ytajocnhebfpjaaadoor", sum := "59c39aacdd60bbef55c3aca1ea949c8da3c0be61bb2fa25ddbd72025f82c6818", func := "deliberation/deliberationlaw15.ExtensionQuestions", spec := "extensionQuestions", unfollowed := true, recurses := true, named := ["math/bits.deBruijn64tab"], apart := false, laid := [("math/bits.deBruijn64tab", laid_math_bits_deBruijn64tab)] }
def ExtensionQuestionsSaid : Prop := extensionQuestionsRow.holds Tryd.pinned (OpenSpec.ofChange extensionQuestionsSpec)

/-- ITS FALSE NEIGHBOUR: 'it returns false'. Refute it at one input. -/
def extensionQuestionsWrong : ChangeSpec := { name := "extensionQuestions", fn := fun _ => fun
  | [d1, d2, d3] => { results := [.lit (.bool false)], args := [d1, d2, d3] }
  | _ => none }
def ExtensionQuestionsWrongFalsely : Prop := extensionQuestionsRow.holds Tryd.pinned (OpenSpec.ofChange extensionQuestionsWrong)

/-- 'deliberationlaw15.ExtensionNested': WHATEVER THE INPUT: true; the input reads as it did. -/
def extensionNestedSpec : ChangeSpec := { name := "extensionNested", fn := fun _ => fun
  | [d] => { results := [.lit (.bool true)], args := [d] }
  | _ => none }
def extensionNestedRow : OpenClaim := { program := "ytajocnhebfpjaaadoor", sum := "59c39aacdd60bbef55c3aca1ea949c8da3c0be61bb2fa25ddbd72025f82c6818", func := "deliberation/deliberationlaw15.ExtensionNested", spec := "extensionNested", unfollowed := true, recurses := true, named := ["math/bits.deBruijn64tab"], apart := false, laid := [("math/bits.deBruijn64tab", laid_math_bits_deBruijn64tab)] }
def ExtensionNestedSaid : Prop := extensionNestedRow.holds Tryd.pinned (OpenSpec.ofChange extensionNestedSpec)

/-- ITS FALSE NEIGHBOUR: 'it returns false'. Refute it at one input. -/
def extensionNestedWrong : ChangeSpec := { name := "extensionNested", fn := fun _ => fun
  | [d] => { results := [.lit (.bool false)], args := [d] }
  | _ => none }
def ExtensionNestedWrongFalsely : Prop := extensionNestedRow.holds Tryd.pinned (OpenSpec.ofChange extensionNestedWrong)

/-- 'deliberationlaw15.ExtensionEven': WHATEVER THE INPUT: true; the input reads as it did. -/
def extensionEvenSpec : ChangeSpec := { name := "extensionEven", fn := fun _ => fun
  | [d] => { results := [.lit (.bool true)], args := [d] }
  | _ => none }
def extensionEvenRow : OpenClaim := { program := "ytajocnhebfpjaaadoor", sum := "59c39aacdd60bbef55c3aca1ea949c8da3c0be61bb2fa25ddbd72025f82c6818", func := "deliberation/deliberationlaw15.ExtensionEven", spec := "extensionEven", unfollowed := true, recurses := true, named := ["math/bits.deBruijn64tab"], apart := false, laid := [("math/bits.deBruijn64tab", laid_math_bits_deBruijn64tab)] }
def ExtensionEvenSaid : Prop := extensionEvenRow.holds Tryd.pinned (OpenSpec.ofChange extensionEvenSpec)

/-- ITS FALSE NEIGHBOUR: 'it returns false'. Refute it at one input. -/
def extensionEvenWrong : ChangeSpec := { name := "extensionEven", fn := fun _ => fun
  | [d] => { results := [.lit (.bool false)], args := [d] }
  | _ => none }
def ExtensionEvenWrongFalsely : Prop := extensionEvenRow.holds Tryd.pinned (OpenSpec.ofChange extensionEvenWrong)

/-- 'deliberationlaw15.ExtensionContains': WHATEVER THE INPUT: true; the input reads as it did. -/
def extensionContainsSpec : ChangeSpec := { name := "extensionContains", fn := fun _ => fun
  | [d] => { results := [.lit (.bool true)], args := [d] }
  | _ => none }
def extensionContainsRow : OpenClaim := { program := "ytajocnhebfpjaaadoor", sum := "59c39aacdd60bbef55c3aca1ea949c8da3c0be61bb2fa25ddbd72025f82c6818", func := "deliberation/deliberationlaw15.ExtensionContains", spec := "extensionContains", unfollowed := true, recurses := true, named := ["math/bits.deBruijn64tab"], apart := false, laid := [("math/bits.deBruijn64tab", laid_math_bits_deBruijn64tab)] }
def ExtensionContainsSaid : Prop := extensionContainsRow.holds Tryd.pinned (OpenSpec.ofChange extensionContainsSpec)

/-- ITS FALSE NEIGHBOUR: 'it returns false'. Refute it at one input. -/
def extensionContainsWrong : ChangeSpec := { name := "extensionContains", fn := fun _ => fun
  | [d] => { results := [.lit (.bool false)], args := [d] }
  | _ => none }
def ExtensionContainsWrongFalsely : Prop := extensionContainsRow.holds Tryd.pinned (OpenSpec.ofChange extensionContainsWrong)

/-- 'deliberationlaw15.ExtensionExact': WHATEVER THE INPUT: true; the input reads as it did. -/
def extensionExactSpec : ChangeSpec := { name := "extensionExact", fn := fun _ => fun
  | [d] => { results := [.lit (.bool true)], args := [d] }
  | _ => none }
def extensionExactRow : OpenClaim := { program := "ytajocnhebfpjaaadoor", sum := "59c39aacdd60bbef55c3aca1ea949c8da3c0be61bb2fa25ddbd72025f82c6818", func := "deliberation/deliberationlaw15.ExtensionExact", spec := "extensionExact", unfollowed := true, recurses := true, named := ["math/bits.deBruijn64tab"], apart := false, laid := [("math/bits.deBruijn64tab", laid_math_bits_deBruijn64tab)] }
def ExtensionExactSaid : Prop := extensionExactRow.holds Tryd.pinned (OpenSpec.ofChange extensionExactSpec)

/-- ITS FALSE NEIGHBOUR: 'it returns false'. Refute it at one input. -/
def extensionExactWrong : ChangeSpec := { name := "extensionExact", fn := fun _ => fun
  | [d] => { results := [.lit (.bool false)], args := [d] }
  | _ => none }
def ExtensionExactWrongFalsely : Prop := extensionExactRow.holds Tryd.pinned (OpenSpec.ofChange extensionExactWrong)

/- THE SECOND FORM. 'bulk': how many values and letters a reading holds, each counted each time it is reached (what is shared counts as often as it is met; a slice's spare places count too). A statement '..UptoSaid' is the law's where the arguments, and the package variables that the reading takes, are together of bulk at most 1048576: NARROWER than '..Said'. Prove '..Said' where nothing that the law and all that it calls make is longer than what came in: it says more and counts as full. Else prove '..UptoSaid'. A law counts once. -/
mutual
def uptoBulk {H : Type} : DataW H → Nat
  | .lit (.string bytes) => bytes.length + 1
  | .lit _ => 1
  | .nil => 1
  | .ptr d => uptoBulk d + 1
  | .slice elems spare => uptoBulkAll elems + uptoBulkAll spare + 1
  | .agg parts => uptoBulkAll parts + 1
  | .iface _ d => uptoBulk d + 1
  | .map entries => uptoBulkEntries entries + 1
  | .held _ => 1
def uptoBulkAll {H : Type} : List (DataW H) → Nat
  | [] => 0
  | d :: r => uptoBulk d + uptoBulkAll r
def uptoBulkEntries {H : Type} : List (Lit × DataW H) → Nat
  | [] => 0
  | x :: r => uptoBulkEntry x + uptoBulkEntries r
def uptoBulkEntry {H : Type} : Lit × DataW H → Nat
  | (.string bytes, d) => bytes.length + uptoBulk d + 1
  | (_, d) => uptoBulk d + 1
 end
def uptoSmall : (H : Type) → List (DataW H) → Bool := fun _ ds => decide (uptoBulkAll ds ≤ 1048576)
def OpenSpec.upto (s : _root_.Go.ChangeSpec) : _root_.Go.OpenSpec := { _root_.Go.OpenSpec.ofChange s with cond := some uptoSmall }

/-- 'deliberationlaw14.SearchLists', WHERE WHAT IT READS IS OF BULK AT MOST 1048576: true; the input reads as it did. -/
def searchListsUptoRow : OpenClaim := { program := "ytajocnhebfpjaaadoor", sum := "59c39aacdd60bbef55c3aca1ea949c8da3c0be61bb2fa25ddbd72025f82c6818", func := "deliberation/deliberationlaw14.SearchLists", spec := "searchLists", unfollowed := true, recurses := true, named := ["math/bits.deBruijn64tab"], apart := false, laid := [("math/bits.deBruijn64tab", laid_math_bits_deBruijn64tab)], narrowed := true }
def SearchListsUptoSaid : Prop := searchListsUptoRow.holds Tryd.pinned (OpenSpec.upto searchListsSpec)

/-- 'deliberationlaw14.SearchParts', WHERE WHAT IT READS IS OF BULK AT MOST 1048576: true; the input reads as it did. -/
def searchPartsUptoRow : OpenClaim := { program := "ytajocnhebfpjaaadoor", sum := "59c39aacdd60bbef55c3aca1ea949c8da3c0be61bb2fa25ddbd72025f82c6818", func := "deliberation/deliberationlaw14.SearchParts", spec := "searchParts", unfollowed := true, recurses := true, named := ["math/bits.deBruijn64tab"], apart := false, laid := [("math/bits.deBruijn64tab", laid_math_bits_deBruijn64tab)], narrowed := true }
def SearchPartsUptoSaid : Prop := searchPartsUptoRow.holds Tryd.pinned (OpenSpec.upto searchPartsSpec)

/-- 'deliberationlaw14.SearchLimits', WHERE WHAT IT READS IS OF BULK AT MOST 1048576: true; the input reads as it did. -/
def searchLimitsUptoRow : OpenClaim := { program := "ytajocnhebfpjaaadoor", sum := "59c39aacdd60bbef55c3aca1ea949c8da3c0be61bb2fa25ddbd72025f82c6818", func := "deliberation/deliberationlaw14.SearchLimits", spec := "searchLimits", unfollowed := true, recurses := true, named := ["math/bits.deBruijn64tab"], apart := false, laid := [("math/bits.deBruijn64tab", laid_math_bits_deBruijn64tab)], narrowed := true }
def SearchLimitsUptoSaid : Prop := searchLimitsUptoRow.holds Tryd.pinned (OpenSpec.upto searchLimitsSpec)

/-- 'deliberationlaw14.SearchExact', WHERE WHAT IT READS IS OF BULK AT MOST 1048576: true; the input reads as it did. -/
def searchExactUptoRow : OpenClaim := { program := "ytajocnhebfpjaaadoor", sum := "59c39aacdd60bbef55c3aca1ea949c8da3c0be61bb2fa25ddbd72025f82c6818", func := "deliberation/deliberationlaw14.SearchExact", spec := "searchExact", unfollowed := true, recurses := true, named := ["math/bits.deBruijn64tab"], apart := false, laid := [("math/bits.deBruijn64tab", laid_math_bits_deBruijn64tab)], narrowed := true }
def SearchExactUptoSaid : Prop := searchExactUptoRow.holds Tryd.pinned (OpenSpec.upto searchExactSpec)

/-- 'deliberationlaw14.SearchLarge', WHERE WHAT IT READS IS OF BULK AT MOST 1048576: true; the input reads as it did. -/
def searchLargeUptoRow : OpenClaim := { program := "ytajocnhebfpjaaadoor", sum := "59c39aacdd60bbef55c3aca1ea949c8da3c0be61bb2fa25ddbd72025f82c6818", func := "deliberation/deliberationlaw14.SearchLarge", spec := "searchLarge", unfollowed := true, recurses := true, named := ["math/bits.deBruijn64tab"], apart := false, laid := [("math/bits.deBruijn64tab", laid_math_bits_deBruijn64tab)], narrowed := true }
def SearchLargeUptoSaid : Prop := searchLargeUptoRow.holds Tryd.pinned (OpenSpec.upto searchLargeSpec)

/-- 'deliberationlaw14.SearchMeet', WHERE WHAT IT READS IS OF BULK AT MOST 1048576: true; the input reads as it did. -/
def searchMeetUptoRow : OpenClaim := { program := "ytajocnhebfpjaaadoor", sum := "59c39aacdd60bbef55c3aca1ea949c8da3c0be61bb2fa25ddbd72025f82c6818", func := "deliberation/deliberationlaw14.SearchMeet", spec := "searchMeet", unfollowed := true, recurses := true, named := ["math/bits.deBruijn64tab"], apart := false, laid := [("math/bits.deBruijn64tab", laid_math_bits_deBruijn64tab)], narrowed := true }
def SearchMeetUptoSaid : Prop := searchMeetUptoRow.holds Tryd.pinned (OpenSpec.upto searchMeetSpec)

/-- 'deliberationlaw15.ExtensionLists', WHERE WHAT IT READS IS OF BULK AT MOST 1048576: true; the input reads as it did. -/
def extensionListsUptoRow : OpenClaim := { program := "ytajocnhebfpjaaadoor", sum := "59c39aacdd60bbef55c3aca1ea949c8da3c0be61bb2fa25ddbd72025f82c6818", func := "deliberation/deliberationlaw15.ExtensionLists", spec := "extensionLists", unfollowed := true, recurses := true, named := ["math/bits.deBruijn64tab"], apart := false, laid := [("math/bits.deBruijn64tab", laid_math_bits_deBruijn64tab)], narrowed := true }
def ExtensionListsUptoSaid : Prop := extensionListsUptoRow.holds Tryd.pinned (OpenSpec.upto extensionListsSpec)

/-- 'deliberationlaw15.ExtensionQuestions', WHERE WHAT IT READS IS OF BULK AT MOST 1048576: true; the input reads as it did. -/
def extensionQuestionsUptoRow : OpenClaim := { program := "ytajocnhebfpjaaadoor", sum := "59c39aacdd60bbef55c3aca1ea949c8da3c0be61bb2fa25ddbd72025f82c6818", func := "deliberation/deliberationlaw15.ExtensionQuestions", spec := "extensionQuestions", unfollowed := true, recurses := true, named := ["math/bits.deBruijn64tab"], apart := false, laid := [("math/bits.deBruijn64tab", laid_math_bits_deBruijn64tab)], narrowed := true }
def ExtensionQuestionsUptoSaid : Prop := extensionQuestionsUptoRow.holds Tryd.pinned (OpenSpec.upto extensionQuestionsSpec)

/-- 'deliberationlaw15.ExtensionNested', WHERE WHAT IT READS IS OF BULK AT MOST 1048576: true; the input reads as it did. -/
def extensionNestedUptoRow : OpenClaim := { program := "ytajocnhebfpjaaadoor", sum := "59c39aacdd60bbef55c3aca1ea949c8da3c0be61bb2fa25ddbd72025f82c6818", func := "deliberation/deliberationlaw15.ExtensionNested", spec := "extensionNested", unfollowed := true, recurses := true, named := ["math/bits.deBruijn64tab"], apart := false, laid := [("math/bits.deBruijn64tab", laid_math_bits_deBruijn64tab)], narrowed := true }
def ExtensionNestedUptoSaid : Prop := extensionNestedUptoRow.holds Tryd.pinned (OpenSpec.upto extensionNestedSpec)

/-- 'deliberationlaw15.ExtensionEven', WHERE WHAT IT READS IS OF BULK AT MOST 1048576: true; the input reads as it did. -/
def extensionEvenUptoRow : OpenClaim := { program := "ytajocnhebfpjaaadoor", sum := "59c39aacdd60bbef55c3aca1ea949c8da3c0be61bb2fa25ddbd72025f82c6818", func := "deliberation/deliberationlaw15.ExtensionEven", spec := "extensionEven", unfollowed := true, recurses := true, named := ["math/bits.deBruijn64tab"], apart := false, laid := [("math/bits.deBruijn64tab", laid_math_bits_deBruijn64tab)], narrowed := true }
def ExtensionEvenUptoSaid : Prop := extensionEvenUptoRow.holds Tryd.pinned (OpenSpec.upto extensionEvenSpec)

/-- 'deliberationlaw15.ExtensionContains', WHERE WHAT IT READS IS OF BULK AT MOST 1048576: true; the input reads as it did. -/
def extensionContainsUptoRow : OpenClaim := { program := "ytajocnhebfpjaaadoor", sum := "59c39aacdd60bbef55c3aca1ea949c8da3c0be61bb2fa25ddbd72025f82c6818", func := "deliberation/deliberationlaw15.ExtensionContains", spec := "extensionContains", unfollowed := true, recurses := true, named := ["math/bits.deBruijn64tab"], apart := false, laid := [("math/bits.deBruijn64tab", laid_math_bits_deBruijn64tab)], narrowed := true }
def ExtensionContainsUptoSaid : Prop := extensionContainsUptoRow.holds Tryd.pinned (OpenSpec.upto extensionContainsSpec)

/-- 'deliberationlaw15.ExtensionExact', WHERE WHAT IT READS IS OF BULK AT MOST 1048576: true; the input reads as it did. -/
def extensionExactUptoRow : OpenClaim := { program := "ytajocnhebfpjaaadoor", sum := "59c39aacdd60bbef55c3aca1ea949c8da3c0be61bb2fa25ddbd72025f82c6818", func := "deliberation/deliberationlaw15.ExtensionExact", spec := "extensionExact", unfollowed := true, recurses := true, named := ["math/bits.deBruijn64tab"], apart := false, laid := [("math/bits.deBruijn64tab", laid_math_bits_deBruijn64tab)], narrowed := true }
def ExtensionExactUptoSaid : Prop := extensionExactUptoRow.holds Tryd.pinned (OpenSpec.upto extensionExactSpec)

end Rows
end Go.Proofs.YtajocnhebfpjaaaDoor
