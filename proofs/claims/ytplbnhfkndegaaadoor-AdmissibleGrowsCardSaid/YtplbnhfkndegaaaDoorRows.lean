/-
  NARROWER THAN 'FOR EVERY INPUT', by the rows' own cells (each row's printed sentence says how): AdmissibleUnion: laid · AdmissibleLemma: laid · AdmissibleGrows: laid · AdmissibleLeast: laid · AdmissibleSets: laid.
  DERIVED. THE GIVEN ROWS OF THIS SEAT. 5 by the template 'for every input the law returns true; each argument reads behind the call as it read before'; 0 by the template 'total and deterministic' (their statements: YtplbnhfkndegaaaDoorTotals.lean).
  GIVEN WITH THE SEED: the statements are not yours to turn. If you find one false, say at which input.
  Laid BY PROGRAM, IN A SANDBOX (cutbox-rows.mjs): the forced cells as the released guide's own fill.sh prints them over the translation 54d6bbb338ecf8e0… (all of the seat's roots in one cut). By AI agents, Wed Nov 11 2026. No macro, syntax, notation, axiom, sorry.
-/
import Derived.Test.YtplbnhfkndegaaaDoorChecked
import GoSem.Claim
import GoSem.ClaimJoined
import GoSem.ClaimMapViews
import Derived.JoinedTies
import Derived.KernelRfl
namespace Go.Proofs.YtplbnhfkndegaaaDoor
/- THE CELL 'sum', in the pinned program and in every row, IS THE sha256 OF THE DUMP (.gsa) THAT YtplbnhfkndegaaaDoorProg.lean LOADS. Nothing in Lean hashes anything: it is a label: what it is worth is what the hold of that sum in a sandbox is worth. -/
noncomputable def Tryd.pinned : Pinned := { name := "ytplbnhfkndegaaadoor", sum := "54d6bbb338ecf8e06abec4f19dbf8133be925cbe2ebdf7244349201c343ebf1b", checked := Tryd.checked }
namespace Rows
def none {H : Type} : Left H := { results := [], args := [] }

/- WHAT THE LISTED PACKAGE-LEVEL VARIABLES READ AS WHEN THE CALL BEGINS. Each datum BY PROGRAM (the guide's laid-datum.mjs) off the statement by which the dump's own 'gosem.cut.vars' lays the variable. In a bare row this is a premise. The card (YtplbnhfkndegaaaDoorCards.lean) ties it to the program's text. -/
def laid_math_bits_deBruijn64tab {H : Type} : DataW H := .agg [.lit (.int .u8 0), .lit (.int .u8 1), .lit (.int .u8 56), .lit (.int .u8 2), .lit (.int .u8 57), .lit (.int .u8 49), .lit (.int .u8 28), .lit (.int .u8 3), .lit (.int .u8 61), .lit (.int .u8 58), .lit (.int .u8 42), .lit (.int .u8 50), .lit (.int .u8 38), .lit (.int .u8 29), .lit (.int .u8 17), .lit (.int .u8 4), .lit (.int .u8 62), .lit (.int .u8 47), .lit (.int .u8 59), .lit (.int .u8 36), .lit (.int .u8 45), .lit (.int .u8 43), .lit (.int .u8 51), .lit (.int .u8 22), .lit (.int .u8 53), .lit (.int .u8 39), .lit (.int .u8 33), .lit (.int .u8 30), .lit (.int .u8 24), .lit (.int .u8 18), .lit (.int .u8 12), .lit (.int .u8 5), .lit (.int .u8 63), .lit (.int .u8 55), .lit (.int .u8 48), .lit (.int .u8 27), .lit (.int .u8 60), .lit (.int .u8 41), .lit (.int .u8 37), .lit (.int .u8 16), .lit (.int .u8 46), .lit (.int .u8 35), .lit (.int .u8 44), .lit (.int .u8 21), .lit (.int .u8 52), .lit (.int .u8 32), .lit (.int .u8 23), .lit (.int .u8 11), .lit (.int .u8 54), .lit (.int .u8 26), .lit (.int .u8 40), .lit (.int .u8 15), .lit (.int .u8 34), .lit (.int .u8 20), .lit (.int .u8 31), .lit (.int .u8 10), .lit (.int .u8 25), .lit (.int .u8 14), .lit (.int .u8 19), .lit (.int .u8 9), .lit (.int .u8 13), .lit (.int .u8 8), .lit (.int .u8 7), .lit (.int .u8 6)]

/-- 'deliberationlaw13.AdmissibleUnion': WHATEVER THE INPUT: true; the input reads as it did. -/
def admissibleUnionSpec : ChangeSpec := { name := "admissibleUnion", fn := fun _ => fun
  | [d] => { results := [.lit (.bool true)], args := [d] }
  | _ => none }
def admissibleUnionRow : OpenClaim := { program := "ytplbnhfkndegaaadoor", sum := "54d6bbb338ecf8e06abec4f19dbf8133be925cbe2ebdf7244349201c343ebf1b", func := "deliberation/deliberationlaw13.AdmissibleUnion", spec := "admissibleUnion", unfollowed := true, recurses := true, named := ["math/bits.deBruijn64tab"], apart := false, laid := [("math/bits.deBruijn64tab", laid_math_bits_deBruijn64tab)] }
def AdmissibleUnionSaid : Prop := admissibleUnionRow.holds Tryd.pinned (OpenSpec.ofChange admissibleUnionSpec)

/-- ITS FALSE NEIGHBOUR: 'it returns false'. Refute it at one input. -/
def admissibleUnionWrong : ChangeSpec := { name := "admissibleUnion", fn := fun _ => fun
  | [d] => { results := [.lit (.bool false)], args := [d] }
  | _ => none }
def AdmissibleUnionWrongFalsely : Prop := admissibleUnionRow.holds Tryd.pinned (OpenSpec.ofChange admissibleUnionWrong)

/-- 'deliberationlaw13.AdmissibleLemma': WHATEVER THE INPUT: true; the input reads as it did. -/
def admissibleLemmaSpec : ChangeSpec := { name := "admissibleLemma", fn := fun _ => fun
  | [d] => { results := [.lit (.bool true)], args := [d] }
  | _ => none }
def admissibleLemmaRow : OpenClaim := { program := "ytplbnhfkndegaaadoor", sum := "54d6bbb338ecf8e06abec4f19dbf8133be925cbe2ebdf7244349201c343ebf1b", func := "deliberation/deliberationlaw13.AdmissibleLemma", spec := "admissibleLemma", unfollowed := true, recurses := true, named := ["math/bits.deBruijn64tab"], apart := false, laid := [("math/bits.deBruijn64tab", laid_math_bits_deBruijn64tab)] }
def AdmissibleLemmaSaid : Prop := admissibleLemmaRow.holds Tryd.pinned (OpenSpec.ofChange admissibleLemmaSpec)

/-- ITS FALSE NEIGHBOUR: 'it returns false'. Refute it at one input. -/
def admissibleLemmaWrong : ChangeSpec := { name := "admissibleLemma", fn := fun _ => fun
  | [d] => { results := [.lit (.bool false)], args := [d] }
  | _ => none }
def AdmissibleLemmaWrongFalsely : Prop := admissibleLemmaRow.holds Tryd.pinned (OpenSpec.ofChange admissibleLemmaWrong)

/-- 'deliberationlaw13.AdmissibleGrows': WHATEVER THE INPUT: true; the input reads as it did. -/
def admissibleGrowsSpec : ChangeSpec := { name := "admissibleGrows", fn := fun _ => fun
  | [d1, d2] => { results := [.lit (.bool true)], args := [d1, d2] }
  | _ => none }
def admissibleGrowsRow : OpenClaim := { program := "ytplbnhfkndegaaadoor", sum := "54d6bbb338ecf8e06abec4f19dbf8133be925cbe2ebdf7244349201c343ebf1b", func := "deliberation/deliberationlaw13.AdmissibleGrows", spec := "admissibleGrows", unfollowed := true, recurses := true, named := ["math/bits.deBruijn64tab"], apart := false, laid := [("math/bits.deBruijn64tab", laid_math_bits_deBruijn64tab)] }
def AdmissibleGrowsSaid : Prop := admissibleGrowsRow.holds Tryd.pinned (OpenSpec.ofChange admissibleGrowsSpec)

/-- ITS FALSE NEIGHBOUR: 'it returns false'. Refute it at one input. -/
def admissibleGrowsWrong : ChangeSpec := { name := "admissibleGrows", fn := fun _ => fun
  | [d1, d2] => { results := [.lit (.bool false)], args := [d1, d2] }
  | _ => none }
def AdmissibleGrowsWrongFalsely : Prop := admissibleGrowsRow.holds Tryd.pinned (OpenSpec.ofChange admissibleGrowsWrong)

/-- 'deliberationlaw13.AdmissibleLeast': WHATEVER THE INPUT: true; the input reads as it did. -/
def admissibleLeastSpec : ChangeSpec := { name := "admissibleLeast", fn := fun _ => fun
  | [d] => { results := [.lit (.bool true)], args := [d] }
  | _ => none }
def admissibleLeastRow : OpenClaim := { program := "ytplbnhfkndegaaadoor", sum := "54d6bbb338ecf8e06abec4f19dbf8133be925cbe2ebdf7244349201c343ebf1b", func := "deliberation/deliberationlaw13.AdmissibleLeast", spec := "admissibleLeast", unfollowed := true, recurses := true, named := ["math/bits.deBruijn64tab"], apart := false, laid := [("math/bits.deBruijn64tab", laid_math_bits_deBruijn64tab)] }
def AdmissibleLeastSaid : Prop := admissibleLeastRow.holds Tryd.pinned (OpenSpec.ofChange admissibleLeastSpec)

/-- ITS FALSE NEIGHBOUR: 'it returns false'. Refute it at one input. -/
def admissibleLeastWrong : ChangeSpec := { name := "admissibleLeast", fn := fun _ => fun
  | [d] => { results := [.lit (.bool false)], args := [d] }
  | _ => none }
def AdmissibleLeastWrongFalsely : Prop := admissibleLeastRow.holds Tryd.pinned (OpenSpec.ofChange admissibleLeastWrong)

/-- 'deliberationlaw13.AdmissibleSets': WHATEVER THE INPUT: true; the input reads as it did. -/
def admissibleSetsSpec : ChangeSpec := { name := "admissibleSets", fn := fun _ => fun
  | [d1, d2, d3] => { results := [.lit (.bool true)], args := [d1, d2, d3] }
  | _ => none }
def admissibleSetsRow : OpenClaim := { program := "ytplbnhfkndegaaadoor", sum := "54d6bbb338ecf8e06abec4f19dbf8133be925cbe2ebdf7244349201c343ebf1b", func := "deliberation/deliberationlaw13.AdmissibleSets", spec := "admissibleSets", unfollowed := true, recurses := true, named := ["math/bits.deBruijn64tab"], apart := false, laid := [("math/bits.deBruijn64tab", laid_math_bits_deBruijn64tab)] }
def AdmissibleSetsSaid : Prop := admissibleSetsRow.holds Tryd.pinned (OpenSpec.ofChange admissibleSetsSpec)

/-- ITS FALSE NEIGHBOUR: 'it returns false'. Refute it at one input. -/
def admissibleSetsWrong : ChangeSpec := { name := "admissibleSets", fn := fun _ => fun
  | [d1, d2, d3] => { results := [.lit (.bool false)], args := [d1, d2, d3] }
  | _ => none }
def AdmissibleSetsWrongFalsely : Prop := admissibleSetsRow.holds Tryd.pinned (OpenSpec.ofChange admissibleSetsWrong)

/- THE SECOND FORM. 'bulk': how many values and letters a reading holds, each counted each time it is reached (what is shared counts as often as it is met; a slice's spare places count too). A statement '..UptoSaid' is the law's where the arguments, and the package variables that the reading takes, are together of bulk at most 1048576: NARROWER than '..Said'. Prove '..Said' where nothing that the law and all that it calls make is longer than what came in: it says more and counts as full. Else prove '..UptoSaid'. A law counts once. -/
mutual
def uptoBulk {H : Type} : DataW H → Nat
  | .lit (.string bytes) => bytes.length + 1
  | .lit _ => 1
  | .nil => 1
  | .ptr d => uptoBulk d + 1
  | .slice elems spare => uptoBulkAll elems + uptoBulkAll spare + 1
  | .agg parts => uptoBulkAll parts + 1
  | .iface _ d => uptoBulk d + 1
  | .map entries => uptoBulkEntries entries + 1
  | .held _ => 1
def uptoBulkAll {H : Type} : List (DataW H) → Nat
  | [] => 0
  | d :: r => uptoBulk d + uptoBulkAll r
def uptoBulkEntries {H : Type} : List (Lit × DataW H) → Nat
  | [] => 0
  | x :: r => uptoBulkEntry x + uptoBulkEntries r
def uptoBulkEntry {H : Type} : Lit × DataW H → Nat
  | (.string bytes, d) => bytes.length + uptoBulk d + 1
  | (_, d) => uptoBulk d + 1
 end
def uptoSmall : (H : Type) → List (DataW H) → Bool := fun _ ds => decide (uptoBulkAll ds ≤ 1048576)
def OpenSpec.upto (s : _root_.Go.ChangeSpec) : _root_.Go.OpenSpec := { _root_.Go.OpenSpec.ofChange s with cond := some uptoSmall }

/-- 'deliberationlaw13.AdmissibleUnion', WHERE WHAT IT READS IS OF BULK AT MOST 1048576: true; the input reads as it did. -/
def admissibleUnionUptoRow : OpenClaim := { program := "ytplbnhfkndegaaadoor", sum := "54d6bbb338ecf8e06abec4f19dbf8133be925cbe2ebdf7244349201c343ebf1b", func := "deliberation/deliberationlaw13.AdmissibleUnion", spec := "admissibleUnion", unfollowed := true, recurses := true, named := ["math/bits.deBruijn64tab"], apart := false, laid := [("math/bits.deBruijn64tab", laid_math_bits_deBruijn64tab)], narrowed := true }
def AdmissibleUnionUptoSaid : Prop := admissibleUnionUptoRow.holds Tryd.pinned (OpenSpec.upto admissibleUnionSpec)

/-- 'deliberationlaw13.AdmissibleLemma', WHERE WHAT IT READS IS OF BULK AT MOST 1048576: true; the input reads as it did. -/
def admissibleLemmaUptoRow : OpenClaim := { program := "ytplbnhfkndegaaadoor", sum := "54d6bbb338ecf8e06abec4f19dbf8133be925cbe2ebdf7244349201c343ebf1b", func := "deliberation/deliberationlaw13.AdmissibleLemma", spec := "admissibleLemma", unfollowed := true, recurses := true, named := ["math/bits.deBruijn64tab"], apart := false, laid := [("math/bits.deBruijn64tab", laid_math_bits_deBruijn64tab)], narrowed := true }
def AdmissibleLemmaUptoSaid : Prop := admissibleLemmaUptoRow.holds Tryd.pinned (OpenSpec.upto admissibleLemmaSpec)

/-- 'deliberationlaw13.AdmissibleGrows', WHERE WHAT IT READS IS OF BULK AT MOST 1048576: true; the input reads as it did. -/
def admissibleGrowsUptoRow : OpenClaim := { program := "ytplbnhfkndegaaadoor", sum := "54d6bbb338ecf8e06abec4f19dbf8133be925cbe2ebdf7244349201c343ebf1b", func := "deliberation/deliberationlaw13.AdmissibleGrows", spec := "admissibleGrows", unfollowed := true, recurses := true, named := ["math/bits.deBruijn64tab"], apart := false, laid := [("math/bits.deBruijn64tab", laid_math_bits_deBruijn64tab)], narrowed := true }
def AdmissibleGrowsUptoSaid : Prop := admissibleGrowsUptoRow.holds Tryd.pinned (OpenSpec.upto admissibleGrowsSpec)

/-- 'deliberationlaw13.AdmissibleLeast', WHERE WHAT IT READS IS OF BULK AT MOST 1048576: true; the input reads as it did. -/
def admissibleLeastUptoRow : OpenClaim := { program := "ytplbnhfkndegaaadoor", sum := "54d6bbb338ecf8e06abec4f19dbf8133be925cbe2ebdf7244349201c343ebf1b", func := "deliberation/deliberationlaw13.AdmissibleLeast", spec := "admissibleLeast", unfollowed := true, recurses := true, named := ["math/bits.deBruijn64tab"], apart := false, laid := [("math/bits.deBruijn64tab", laid_math_bits_deBruijn64tab)], narrowed := true }
def AdmissibleLeastUptoSaid : Prop := admissibleLeastUptoRow.holds Tryd.pinned (OpenSpec.upto admissibleLeastSpec)

/-- 'deliberationlaw13.AdmissibleSets', WHERE WHAT IT READS IS OF BULK AT MOST 1048576: true; the input reads as it did. -/
def admissibleSetsUptoRow : OpenClaim := { program := "ytplbnhfkndegaaadoor", sum := "54d6bbb338ecf8e06abec4f19dbf8133be925cbe2ebdf7244349201c343ebf1b", func := "deliberation/deliberationlaw13.AdmissibleSets", spec := "admissibleSets", unfollowed := true, recurses := true, named := ["math/bits.deBruijn64tab"], apart := false, laid := [("math/bits.deBruijn64tab", laid_math_bits_deBruijn64tab)], narrowed := true }
def AdmissibleSetsUptoSaid : Prop := admissibleSetsUptoRow.holds Tryd.pinned (OpenSpec.upto admissibleSetsSpec)

end Rows
end Go.Proofs.YtplbnhfkndegaaaDoor
