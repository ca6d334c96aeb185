/-
  NARROWER THAN 'FOR EVERY INPUT', by the rows' own cells (each row's printed sentence says how): GraphParts: laid · GraphComponents: laid · GraphInduces: laid · GraphReverses: laid · GraphValidates: laid · DynamicAnew: laid · DynamicBack: laid · DynamicOrder: laid.
  DERIVED. THE GIVEN ROWS OF THIS SEAT. 8 by the template 'for every input the law returns true; each argument reads behind the call as it read before'; 0 by the template 'total and deterministic' (their statements: YtkflanjlnbdkmaaDoorTotals.lean).
  GIVEN WITH THE SEED: the statements are not yours to turn. If you find one false, say at which input.
  Laid BY PROGRAM, IN A SANDBOX (cutbox-rows.mjs): the forced cells as the released guide's own fill.sh prints them over the translation b2f93fe3e00039df… (all of the seat's roots in one cut). By AI agents, Wed Nov 11 2026. No macro, syntax, notation, axiom, sorry.
-/
import Derived.Test.YtkflanjlnbdkmaaDoorChecked
import GoSem.Claim
import GoSem.ClaimJoined
import GoSem.ClaimMapViews
import Derived.JoinedTies
import Derived.KernelRfl
namespace Go.Proofs.YtkflanjlnbdkmaaDoor
/- THE CELL 'sum', in the pinned program and in every row, IS THE sha256 OF THE DUMP (.gsa) THAT YtkflanjlnbdkmaaDoorProg.lean LOADS. Nothing in Lean hashes anything: it is a label: what it is worth is what the hold of that sum in a sandbox is worth. -/
noncomputable def Tryd.pinned : Pinned := { name := "ytkflanjlnbdkmaadoor", sum := "b2f93fe3e00039df7bfc90e25277abe31917541967e7835057401b1bec0ec5ec", checked := Tryd.checked }
namespace Rows
def none {H : Type} : Left H := { results := [], args := [] }

/- WHAT THE LISTED PACKAGE-LEVEL VARIABLES READ AS WHEN THE CALL BEGINS. Each datum BY PROGRAM (the guide's laid-datum.mjs) off the statement by which the dump's own 'gosem.cut.vars' lays the variable. In a bare row this is a premise. The card (YtkflanjlnbdkmaaDoorCards.lean) ties it to the program's text. -/
def laid_math_bits_deBruijn64tab {H : Type} : DataW H := .agg [.lit (.int .u8 0), .lit (.int .u8 1), .lit (.int .u8 56), .lit (.int .u8 2), .lit (.int .u8 57), .lit (.int .u8 49), .lit (.int .u8 28), .lit (.int .u8 3), .lit (.int .u8 61), .lit (.int .u8 58), .lit (.int .u8 42), .lit (.int .u8 50), .lit (.int .u8 38), .lit (.int .u8 29), .lit (.int .u8 17), .lit (.int .u8 4), .lit (.int .u8 62), .lit (.int .u8 47), .lit (.int .u8 59), .lit (.int .u8 36), .lit (.int .u8 45), .lit (.int .u8 43), .lit (.int .u8 51), .lit (.int .u8 22), .lit (.int .u8 53), .lit (.int .u8 39), .lit (.int .u8 33), .lit (.int .u8 30), .lit (.int .u8 24), .lit (.int .u8 18), .lit (.int .u8 12), .lit (.int .u8 5), .lit (.int .u8 63), .lit (.int .u8 55), .lit (.int .u8 48), .lit (.int .u8 27), .lit (.int .u8 60), .lit (.int .u8 41), .lit (.int .u8 37), .lit (.int .u8 16), .lit (.int .u8 46), .lit (.int .u8 35), .lit (.int .u8 44), .lit (.int .u8 21), .lit (.int .u8 52), .lit (.int .u8 32), .lit (.int .u8 23), .lit (.int .u8 11), .lit (.int .u8 54), .lit (.int .u8 26), .lit (.int .u8 40), .lit (.int .u8 15), .lit (.int .u8 34), .lit (.int .u8 20), .lit (.int .u8 31), .lit (.int .u8 10), .lit (.int .u8 25), .lit (.int .u8 14), .lit (.int .u8 19), .lit (.int .u8 9), .lit (.int .u8 13), .lit (.int .u8 8), .lit (.int .u8 7), .lit (.int .u8 6)]

/-- 'deliberationlaw10.GraphParts': WHATEVER THE INPUT: true; the input reads as it did. -/
def graphPartsSpec : ChangeSpec := { name := "graphParts", fn := fun _ => fun
  | [d1, d2, d3] => { results := [.lit (.bool true)], args := [d1, d2, d3] }
  | _ => none }
def graphPartsRow : OpenClaim := { program := "ytkflanjlnbdkmaadoor", sum := "b2f93fe3e00039df7bfc90e25277abe31917541967e7835057401b1bec0ec5ec", func := "deliberation/deliberationlaw10.GraphParts", spec := "graphParts", unfollowed := true, recurses := true, named := ["math/bits.deBruijn64tab"], apart := false, laid := [("math/bits.deBruijn64tab", laid_math_bits_deBruijn64tab)] }
def GraphPartsSaid : Prop := graphPartsRow.holds Tryd.pinned (OpenSpec.ofChange graphPartsSpec)

/-- ITS FALSE NEIGHBOUR: 'it returns false'. Refute it at one input. -/
def graphPartsWrong : ChangeSpec := { name := "graphParts", fn := fun _ => fun
  | [d1, d2, d3] => { results := [.lit (.bool false)], args := [d1, d2, d3] }
  | _ => none }
def GraphPartsWrongFalsely : Prop := graphPartsRow.holds Tryd.pinned (OpenSpec.ofChange graphPartsWrong)

/-- 'deliberationlaw10.GraphComponents': WHATEVER THE INPUT: true; the input reads as it did. -/
def graphComponentsSpec : ChangeSpec := { name := "graphComponents", fn := fun _ => fun
  | [d] => { results := [.lit (.bool true)], args := [d] }
  | _ => none }
def graphComponentsRow : OpenClaim := { program := "ytkflanjlnbdkmaadoor", sum := "b2f93fe3e00039df7bfc90e25277abe31917541967e7835057401b1bec0ec5ec", func := "deliberation/deliberationlaw10.GraphComponents", spec := "graphComponents", unfollowed := true, recurses := true, named := ["math/bits.deBruijn64tab"], apart := false, laid := [("math/bits.deBruijn64tab", laid_math_bits_deBruijn64tab)] }
def GraphComponentsSaid : Prop := graphComponentsRow.holds Tryd.pinned (OpenSpec.ofChange graphComponentsSpec)

/-- ITS FALSE NEIGHBOUR: 'it returns false'. Refute it at one input. -/
def graphComponentsWrong : ChangeSpec := { name := "graphComponents", fn := fun _ => fun
  | [d] => { results := [.lit (.bool false)], args := [d] }
  | _ => none }
def GraphComponentsWrongFalsely : Prop := graphComponentsRow.holds Tryd.pinned (OpenSpec.ofChange graphComponentsWrong)

/-- 'deliberationlaw10.GraphInduces': WHATEVER THE INPUT: true; the input reads as it did. -/
def graphInducesSpec : ChangeSpec := { name := "graphInduces", fn := fun _ => fun
  | [d] => { results := [.lit (.bool true)], args := [d] }
  | _ => none }
def graphInducesRow : OpenClaim := { program := "ytkflanjlnbdkmaadoor", sum := "b2f93fe3e00039df7bfc90e25277abe31917541967e7835057401b1bec0ec5ec", func := "deliberation/deliberationlaw10.GraphInduces", spec := "graphInduces", unfollowed := true, recurses := true, named := ["math/bits.deBruijn64tab"], apart := false, laid := [("math/bits.deBruijn64tab", laid_math_bits_deBruijn64tab)] }
def GraphInducesSaid : Prop := graphInducesRow.holds Tryd.pinned (OpenSpec.ofChange graphInducesSpec)

/-- ITS FALSE NEIGHBOUR: 'it returns false'. Refute it at one input. -/
def graphInducesWrong : ChangeSpec := { name := "graphInduces", fn := fun _ => fun
  | [d] => { results := [.lit (.bool false)], args := [d] }
  | _ => none }
def GraphInducesWrongFalsely : Prop := graphInducesRow.holds Tryd.pinned (OpenSpec.ofChange graphInducesWrong)

/-- 'deliberationlaw10.GraphReverses': WHATEVER THE INPUT: true; the input reads as it did. -/
def graphReversesSpec : ChangeSpec := { name := "graphReverses", fn := fun _ => fun
  | [d] => { results := [.lit (.bool true)], args := [d] }
  | _ => none }
def graphReversesRow : OpenClaim := { program := "ytkflanjlnbdkmaadoor", sum := "b2f93fe3e00039df7bfc90e25277abe31917541967e7835057401b1bec0ec5ec", func := "deliberation/deliberationlaw10.GraphReverses", spec := "graphReverses", unfollowed := true, recurses := true, named := ["math/bits.deBruijn64tab"], apart := false, laid := [("math/bits.deBruijn64tab", laid_math_bits_deBruijn64tab)] }
def GraphReversesSaid : Prop := graphReversesRow.holds Tryd.pinned (OpenSpec.ofChange graphReversesSpec)

/-- ITS FALSE NEIGHBOUR: 'it returns false'. Refute it at one input. -/
def graphReversesWrong : ChangeSpec := { name := "graphReverses", fn := fun _ => fun
  | [d] => { results := [.lit (.bool false)], args := [d] }
  | _ => none }
def GraphReversesWrongFalsely : Prop := graphReversesRow.holds Tryd.pinned (OpenSpec.ofChange graphReversesWrong)

/-- 'deliberationlaw10.GraphValidates': WHATEVER THE INPUT: true; the input reads as it did. -/
def graphValidatesSpec : ChangeSpec := { name := "graphValidates", fn := fun _ => fun
  | [d1, d2, d3, d4, d5] => { results := [.lit (.bool true)], args := [d1, d2, d3, d4, d5] }
  | _ => none }
def graphValidatesRow : OpenClaim := { program := "ytkflanjlnbdkmaadoor", sum := "b2f93fe3e00039df7bfc90e25277abe31917541967e7835057401b1bec0ec5ec", func := "deliberation/deliberationlaw10.GraphValidates", spec := "graphValidates", unfollowed := true, recurses := true, named := ["math/bits.deBruijn64tab"], apart := false, laid := [("math/bits.deBruijn64tab", laid_math_bits_deBruijn64tab)] }
def GraphValidatesSaid : Prop := graphValidatesRow.holds Tryd.pinned (OpenSpec.ofChange graphValidatesSpec)

/-- ITS FALSE NEIGHBOUR: 'it returns false'. Refute it at one input. -/
def graphValidatesWrong : ChangeSpec := { name := "graphValidates", fn := fun _ => fun
  | [d1, d2, d3, d4, d5] => { results := [.lit (.bool false)], args := [d1, d2, d3, d4, d5] }
  | _ => none }
def GraphValidatesWrongFalsely : Prop := graphValidatesRow.holds Tryd.pinned (OpenSpec.ofChange graphValidatesWrong)

/-- 'deliberationlaw19.DynamicAnew': WHATEVER THE INPUT: true; the input reads as it did. -/
def dynamicAnewSpec : ChangeSpec := { name := "dynamicAnew", fn := fun _ => fun
  | [d] => { results := [.lit (.bool true)], args := [d] }
  | _ => none }
def dynamicAnewRow : OpenClaim := { program := "ytkflanjlnbdkmaadoor", sum := "b2f93fe3e00039df7bfc90e25277abe31917541967e7835057401b1bec0ec5ec", func := "deliberation/deliberationlaw19.DynamicAnew", spec := "dynamicAnew", inPlace := ["slices.overlaps[deliberation/api.Pair]"], unfollowed := true, recurses := true, named := ["math/bits.deBruijn64tab"], apart := false, laid := [("math/bits.deBruijn64tab", laid_math_bits_deBruijn64tab)] }
def DynamicAnewSaid : Prop := dynamicAnewRow.holds Tryd.pinned (OpenSpec.ofChange dynamicAnewSpec)

/-- ITS FALSE NEIGHBOUR: 'it returns false'. Refute it at one input. -/
def dynamicAnewWrong : ChangeSpec := { name := "dynamicAnew", fn := fun _ => fun
  | [d] => { results := [.lit (.bool false)], args := [d] }
  | _ => none }
def DynamicAnewWrongFalsely : Prop := dynamicAnewRow.holds Tryd.pinned (OpenSpec.ofChange dynamicAnewWrong)

/-- 'deliberationlaw19.DynamicBack': WHATEVER THE INPUT: true; the input reads as it did. -/
def dynamicBackSpec : ChangeSpec := { name := "dynamicBack", fn := fun _ => fun
  | [d] => { results := [.lit (.bool true)], args := [d] }
  | _ => none }
def dynamicBackRow : OpenClaim := { program := "ytkflanjlnbdkmaadoor", sum := "b2f93fe3e00039df7bfc90e25277abe31917541967e7835057401b1bec0ec5ec", func := "deliberation/deliberationlaw19.DynamicBack", spec := "dynamicBack", inPlace := ["slices.overlaps[deliberation/api.Pair]"], unfollowed := true, recurses := true, named := ["math/bits.deBruijn64tab"], apart := false, laid := [("math/bits.deBruijn64tab", laid_math_bits_deBruijn64tab)] }
def DynamicBackSaid : Prop := dynamicBackRow.holds Tryd.pinned (OpenSpec.ofChange dynamicBackSpec)

/-- ITS FALSE NEIGHBOUR: 'it returns false'. Refute it at one input. -/
def dynamicBackWrong : ChangeSpec := { name := "dynamicBack", fn := fun _ => fun
  | [d] => { results := [.lit (.bool false)], args := [d] }
  | _ => none }
def DynamicBackWrongFalsely : Prop := dynamicBackRow.holds Tryd.pinned (OpenSpec.ofChange dynamicBackWrong)

/-- 'deliberationlaw19.DynamicOrder': WHATEVER THE INPUT: true; the input reads as it did. -/
def dynamicOrderSpec : ChangeSpec := { name := "dynamicOrder", fn := fun _ => fun
  | [d] => { results := [.lit (.bool true)], args := [d] }
  | _ => none }
def dynamicOrderRow : OpenClaim := { program := "ytkflanjlnbdkmaadoor", sum := "b2f93fe3e00039df7bfc90e25277abe31917541967e7835057401b1bec0ec5ec", func := "deliberation/deliberationlaw19.DynamicOrder", spec := "dynamicOrder", inPlace := ["slices.overlaps[deliberation/api.Pair]"], unfollowed := true, recurses := true, named := ["math/bits.deBruijn64tab"], apart := false, laid := [("math/bits.deBruijn64tab", laid_math_bits_deBruijn64tab)] }
def DynamicOrderSaid : Prop := dynamicOrderRow.holds Tryd.pinned (OpenSpec.ofChange dynamicOrderSpec)

/-- ITS FALSE NEIGHBOUR: 'it returns false'. Refute it at one input. -/
def dynamicOrderWrong : ChangeSpec := { name := "dynamicOrder", fn := fun _ => fun
  | [d] => { results := [.lit (.bool false)], args := [d] }
  | _ => none }
def DynamicOrderWrongFalsely : Prop := dynamicOrderRow.holds Tryd.pinned (OpenSpec.ofChange dynamicOrderWrong)

/- THE SECOND FORM. 'bulk': how many values and letters a reading holds, each counted each time it is reached (what is shared counts as often as it is met; a slice's spare places count too). A statement '..UptoSaid' is the law's where the arguments, and the package variables that the reading takes, are together of bulk at most 1048576: NARROWER than '..Said'. Prove '..Said' where nothing that the law and all that it calls make is longer than what came in: it says more and counts as full. Else prove '..UptoSaid'. A law counts once. -/
mutual
def uptoBulk {H : Type} : DataW H → Nat
  | .lit (.string bytes) => bytes.length + 1
  | .lit _ => 1
  | .nil => 1
  | .ptr d => uptoBulk d + 1
  | .slice elems spare => uptoBulkAll elems + uptoBulkAll spare + 1
  | .agg parts => uptoBulkAll parts + 1
  | .iface _ d => uptoBulk d + 1
  | .map entries => uptoBulkEntries entries + 1
  | .held _ => 1
def uptoBulkAll {H : Type} : List (DataW H) → Nat
  | [] => 0
  | d :: r => uptoBulk d + uptoBulkAll r
def uptoBulkEntries {H : Type} : List (Lit × DataW H) → Nat
  | [] => 0
  | x :: r => uptoBulkEntry x + uptoBulkEntries r
def uptoBulkEntry {H : Type} : Lit × DataW H → Nat
  | (.string bytes, d) => bytes.length + uptoBulk d + 1
  | (_, d) => uptoBulk d + 1
 end
def uptoSmall : (H : Type) → List (DataW H) → Bool := fun _ ds => decide (uptoBulkAll ds ≤ 1048576)
def OpenSpec.upto (s : _root_.Go.ChangeSpec) : _root_.Go.OpenSpec := { _root_.Go.OpenSpec.ofChange s with cond := some uptoSmall }

/-- 'deliberationlaw10.GraphParts', WHERE WHAT IT READS IS OF BULK AT MOST 1048576: true; the input reads as it did. -/
def graphPartsUptoRow : OpenClaim := { program := "ytkflanjlnbdkmaadoor", sum := "b2f93fe3e00039df7bfc90e25277abe31917541967e7835057401b1bec0ec5ec", func := "deliberation/deliberationlaw10.GraphParts", spec := "graphParts", unfollowed := true, recurses := true, named := ["math/bits.deBruijn64tab"], apart := false, laid := [("math/bits.deBruijn64tab", laid_math_bits_deBruijn64tab)], narrowed := true }
def GraphPartsUptoSaid : Prop := graphPartsUptoRow.holds Tryd.pinned (OpenSpec.upto graphPartsSpec)

/-- 'deliberationlaw10.GraphComponents', WHERE WHAT IT READS IS OF BULK AT MOST 1048576: true; the input reads as it did. -/
def graphComponentsUptoRow : OpenClaim := { program := "ytkflanjlnbdkmaadoor", sum := "b2f93fe3e00039df7bfc90e25277abe31917541967e7835057401b1bec0ec5ec", func := "deliberation/deliberationlaw10.GraphComponents", spec := "graphComponents", unfollowed := true, recurses := true, named := ["math/bits.deBruijn64tab"], apart := false, laid := [("math/bits.deBruijn64tab", laid_math_bits_deBruijn64tab)], narrowed := true }
def GraphComponentsUptoSaid : Prop := graphComponentsUptoRow.holds Tryd.pinned (OpenSpec.upto graphComponentsSpec)

/-- 'deliberationlaw10.GraphInduces', WHERE WHAT IT READS IS OF BULK AT MOST 1048576: true; the input reads as it did. -/
def graphInducesUptoRow : OpenClaim := { program := "ytkflanjlnbdkmaadoor", sum := "b2f93fe3e00039df7bfc90e25277abe31917541967e7835057401b1bec0ec5ec", func := "deliberation/deliberationlaw10.GraphInduces", spec := "graphInduces", unfollowed := true, recurses := true, named := ["math/bits.deBruijn64tab"], apart := false, laid := [("math/bits.deBruijn64tab", laid_math_bits_deBruijn64tab)], narrowed := true }
def GraphInducesUptoSaid : Prop := graphInducesUptoRow.holds Tryd.pinned (OpenSpec.upto graphInducesSpec)

/-- 'deliberationlaw10.GraphReverses', WHERE WHAT IT READS IS OF BULK AT MOST 1048576: true; the input reads as it did. -/
def graphReversesUptoRow : OpenClaim := { program := "ytkflanjlnbdkmaadoor", sum := "b2f93fe3e00039df7bfc90e25277abe31917541967e7835057401b1bec0ec5ec", func := "deliberation/deliberationlaw10.GraphReverses", spec := "graphReverses", unfollowed := true, recurses := true, named := ["math/bits.deBruijn64tab"], apart := false, laid := [("math/bits.deBruijn64tab", laid_math_bits_deBruijn64tab)], narrowed := true }
def GraphReversesUptoSaid : Prop := graphReversesUptoRow.holds Tryd.pinned (OpenSpec.upto graphReversesSpec)

/-- 'deliberationlaw10.GraphValidates', WHERE WHAT IT READS IS OF BULK AT MOST 1048576: true; the input reads as it did. -/
def graphValidatesUptoRow : OpenClaim := { program := "ytkflanjlnbdkmaadoor", sum := "b2f93fe3e00039df7bfc90e25277abe31917541967e7835057401b1bec0ec5ec", func := "deliberation/deliberationlaw10.GraphValidates", spec := "graphValidates", unfollowed := true, recurses := true, named := ["math/bits.deBruijn64tab"], apart := false, laid := [("math/bits.deBruijn64tab", laid_math_bits_deBruijn64tab)], narrowed := true }
def GraphValidatesUptoSaid : Prop := graphValidatesUptoRow.holds Tryd.pinned (OpenSpec.upto graphValidatesSpec)

/-- 'deliberationlaw19.DynamicAnew', WHERE WHAT IT READS IS OF BULK AT MOST 1048576: true; the input reads as it did. -/
def dynamicAnewUptoRow : OpenClaim := { program := "ytkflanjlnbdkmaadoor", sum := "b2f93fe3e00039df7bfc90e25277abe31917541967e7835057401b1bec0ec5ec", func := "deliberation/deliberationlaw19.DynamicAnew", spec := "dynamicAnew", inPlace := ["slices.overlaps[deliberation/api.Pair]"], unfollowed := true, recurses := true, named := ["math/bits.deBruijn64tab"], apart := false, laid := [("math/bits.deBruijn64tab", laid_math_bits_deBruijn64tab)], narrowed := true }
def DynamicAnewUptoSaid : Prop := dynamicAnewUptoRow.holds Tryd.pinned (OpenSpec.upto dynamicAnewSpec)

/-- 'deliberationlaw19.DynamicBack', WHERE WHAT IT READS IS OF BULK AT MOST 1048576: true; the input reads as it did. -/
def dynamicBackUptoRow : OpenClaim := { program := "ytkflanjlnbdkmaadoor", sum := "b2f93fe3e00039df7bfc90e25277abe31917541967e7835057401b1bec0ec5ec", func := "deliberation/deliberationlaw19.DynamicBack", spec := "dynamicBack", inPlace := ["slices.overlaps[deliberation/api.Pair]"], unfollowed := true, recurses := true, named := ["math/bits.deBruijn64tab"], apart := false, laid := [("math/bits.deBruijn64tab", laid_math_bits_deBruijn64tab)], narrowed := true }
def DynamicBackUptoSaid : Prop := dynamicBackUptoRow.holds Tryd.pinned (OpenSpec.upto dynamicBackSpec)

/-- 'deliberationlaw19.DynamicOrder', WHERE WHAT IT READS IS OF BULK AT MOST 1048576: true; the input reads as it did. -/
def dynamicOrderUptoRow : OpenClaim := { program := "ytkflanjlnbdkmaadoor", sum := "b2f93fe3e00039df7bfc90e25277abe31917541967e7835057401b1bec0ec5ec", func := "deliberation/deliberationlaw19.DynamicOrder", spec := "dynamicOrder", inPlace := ["slices.overlaps[deliberation/api.Pair]"], unfollowed := true, recurses := true, named := ["math/bits.deBruijn64tab"], apart := false, laid := [("math/bits.deBruijn64tab", laid_math_bits_deBruijn64tab)], narrowed := true }
def DynamicOrderUptoSaid : Prop := dynamicOrderUptoRow.holds Tryd.pinned (OpenSpec.upto dynamicOrderSpec)

end Rows
end Go.Proofs.YtkflanjlnbdkmaaDoor
