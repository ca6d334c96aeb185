/-
  NARROWER THAN 'FOR EVERY INPUT', by the rows' own cells (each row's printed sentence says how): EnforceChecks: laid · EnforceUndone: laid · EnforceAnswers: laid · EnforceLeast: laid · EnforceWorks: laid · GameSolved: laid · GameExhausted: laid · GamePlayed: laid.
  DERIVED. THE GIVEN ROWS OF THIS SEAT. 8 by the template 'for every input the law returns true; each argument reads behind the call as it read before'; 0 by the template 'total and deterministic' (their statements: YtncimnfhfomddaaDoorTotals.lean).
  GIVEN WITH THE SEED: the statements are not yours to turn. If you find one false, say at which input.
  Laid BY PROGRAM, IN A SANDBOX (cutbox-rows.mjs): the forced cells as the released guide's own fill.sh prints them over the translation 0d1617684a75e80f… (all of the seat's roots in one cut). By AI agents, Wed Nov 11 2026. No macro, syntax, notation, axiom, sorry.
-/
import Derived.Test.YtncimnfhfomddaaDoorChecked
import GoSem.Claim
import GoSem.ClaimJoined
import GoSem.ClaimMapViews
import Derived.JoinedTies
import Derived.KernelRfl
namespace Go.Proofs.YtncimnfhfomddaaDoor
/- THE CELL 'sum', in the pinned program and in every row, IS THE sha256 OF THE DUMP (.gsa) THAT YtncimnfhfomddaaDoorProg.lean LOADS. Nothing in Lean hashes anything: it is a label: what it is worth is what the hold of that sum in a sandbox is worth. -/
noncomputable def Tryd.pinned : Pinned := { name := "ytncimnfhfomddaadoor", sum := "0d1617684a75e80f8b8c77ecba29053bb1fc3e1f8ef7f89b20f037c9ddba8955", checked := Tryd.checked }
namespace Rows
def none {H : Type} : Left H := { results := [], args := [] }

/- WHAT THE LISTED PACKAGE-LEVEL VARIABLES READ AS WHEN THE CALL BEGINS. Each datum BY PROGRAM (the guide's laid-datum.mjs) off the statement by which the dump's own 'gosem.cut.vars' lays the variable. In a bare row this is a premise. The card (YtncimnfhfomddaaDoorCards.lean) ties it to the program's text. -/
def laid_math_bits_deBruijn64tab {H : Type} : DataW H := .agg [.lit (.int .u8 0), .lit (.int .u8 1), .lit (.int .u8 56), .lit (.int .u8 2), .lit (.int .u8 57), .lit (.int .u8 49), .lit (.int .u8 28), .lit (.int .u8 3), .lit (.int .u8 61), .lit (.int .u8 58), .lit (.int .u8 42), .lit (.int .u8 50), .lit (.int .u8 38), .lit (.int .u8 29), .lit (.int .u8 17), .lit (.int .u8 4), .lit (.int .u8 62), .lit (.int .u8 47), .lit (.int .u8 59), .lit (.int .u8 36), .lit (.int .u8 45), .lit (.int .u8 43), .lit (.int .u8 51), .lit (.int .u8 22), .lit (.int .u8 53), .lit (.int .u8 39), .lit (.int .u8 33), .lit (.int .u8 30), .lit (.int .u8 24), .lit (.int .u8 18), .lit (.int .u8 12), .lit (.int .u8 5), .lit (.int .u8 63), .lit (.int .u8 55), .lit (.int .u8 48), .lit (.int .u8 27), .lit (.int .u8 60), .lit (.int .u8 41), .lit (.int .u8 37), .lit (.int .u8 16), .lit (.int .u8 46), .lit (.int .u8 35), .lit (.int .u8 44), .lit (.int .u8 21), .lit (.int .u8 52), .lit (.int .u8 32), .lit (.int .u8 23), .lit (.int .u8 11), .lit (.int .u8 54), .lit (.int .u8 26), .lit (.int .u8 40), .lit (.int .u8 15), .lit (.int .u8 34), .lit (.int .u8 20), .lit (.int .u8 31), .lit (.int .u8 10), .lit (.int .u8 25), .lit (.int .u8 14), .lit (.int .u8 19), .lit (.int .u8 9), .lit (.int .u8 13), .lit (.int .u8 8), .lit (.int .u8 7), .lit (.int .u8 6)]

/-- 'deliberationlaw21.EnforceChecks': WHATEVER THE INPUT: true; the input reads as it did. -/
def enforceChecksSpec : ChangeSpec := { name := "enforceChecks", fn := fun _ => fun
  | [d1, d2, d3, d4] => { results := [.lit (.bool true)], args := [d1, d2, d3, d4] }
  | _ => none }
def enforceChecksRow : OpenClaim := { program := "ytncimnfhfomddaadoor", sum := "0d1617684a75e80f8b8c77ecba29053bb1fc3e1f8ef7f89b20f037c9ddba8955", func := "deliberation/deliberationlaw21.EnforceChecks", spec := "enforceChecks", unfollowed := true, recurses := true, named := ["math/bits.deBruijn64tab"], plainKeys := false, apart := false, laid := [("math/bits.deBruijn64tab", laid_math_bits_deBruijn64tab)] }
def EnforceChecksSaid : Prop := enforceChecksRow.holds Tryd.pinned (OpenSpec.ofChange enforceChecksSpec)

/-- ITS FALSE NEIGHBOUR: 'it returns false'. Refute it at one input. -/
def enforceChecksWrong : ChangeSpec := { name := "enforceChecks", fn := fun _ => fun
  | [d1, d2, d3, d4] => { results := [.lit (.bool false)], args := [d1, d2, d3, d4] }
  | _ => none }
def EnforceChecksWrongFalsely : Prop := enforceChecksRow.holds Tryd.pinned (OpenSpec.ofChange enforceChecksWrong)

/-- 'deliberationlaw21.EnforceUndone': WHATEVER THE INPUT: true; the input reads as it did. -/
def enforceUndoneSpec : ChangeSpec := { name := "enforceUndone", fn := fun _ => fun
  | [d] => { results := [.lit (.bool true)], args := [d] }
  | _ => none }
def enforceUndoneRow : OpenClaim := { program := "ytncimnfhfomddaadoor", sum := "0d1617684a75e80f8b8c77ecba29053bb1fc3e1f8ef7f89b20f037c9ddba8955", func := "deliberation/deliberationlaw21.EnforceUndone", spec := "enforceUndone", unfollowed := true, recurses := true, named := ["math/bits.deBruijn64tab"], plainKeys := false, apart := false, laid := [("math/bits.deBruijn64tab", laid_math_bits_deBruijn64tab)] }
def EnforceUndoneSaid : Prop := enforceUndoneRow.holds Tryd.pinned (OpenSpec.ofChange enforceUndoneSpec)

/-- ITS FALSE NEIGHBOUR: 'it returns false'. Refute it at one input. -/
def enforceUndoneWrong : ChangeSpec := { name := "enforceUndone", fn := fun _ => fun
  | [d] => { results := [.lit (.bool false)], args := [d] }
  | _ => none }
def EnforceUndoneWrongFalsely : Prop := enforceUndoneRow.holds Tryd.pinned (OpenSpec.ofChange enforceUndoneWrong)

/-- 'deliberationlaw21.EnforceAnswers': WHATEVER THE INPUT: true; the input reads as it did. -/
def enforceAnswersSpec : ChangeSpec := { name := "enforceAnswers", fn := fun _ => fun
  | [d1, d2, d3, d4, d5] => { results := [.lit (.bool true)], args := [d1, d2, d3, d4, d5] }
  | _ => none }
def enforceAnswersRow : OpenClaim := { program := "ytncimnfhfomddaadoor", sum := "0d1617684a75e80f8b8c77ecba29053bb1fc3e1f8ef7f89b20f037c9ddba8955", func := "deliberation/deliberationlaw21.EnforceAnswers", spec := "enforceAnswers", unfollowed := true, recurses := true, named := ["math/bits.deBruijn64tab"], plainKeys := false, apart := false, laid := [("math/bits.deBruijn64tab", laid_math_bits_deBruijn64tab)] }
def EnforceAnswersSaid : Prop := enforceAnswersRow.holds Tryd.pinned (OpenSpec.ofChange enforceAnswersSpec)

/-- ITS FALSE NEIGHBOUR: 'it returns false'. Refute it at one input. -/
def enforceAnswersWrong : ChangeSpec := { name := "enforceAnswers", fn := fun _ => fun
  | [d1, d2, d3, d4, d5] => { results := [.lit (.bool false)], args := [d1, d2, d3, d4, d5] }
  | _ => none }
def EnforceAnswersWrongFalsely : Prop := enforceAnswersRow.holds Tryd.pinned (OpenSpec.ofChange enforceAnswersWrong)

/-- 'deliberationlaw21.EnforceLeast': WHATEVER THE INPUT: true; the input reads as it did. -/
def enforceLeastSpec : ChangeSpec := { name := "enforceLeast", fn := fun _ => fun
  | [d1, d2] => { results := [.lit (.bool true)], args := [d1, d2] }
  | _ => none }
def enforceLeastRow : OpenClaim := { program := "ytncimnfhfomddaadoor", sum := "0d1617684a75e80f8b8c77ecba29053bb1fc3e1f8ef7f89b20f037c9ddba8955", func := "deliberation/deliberationlaw21.EnforceLeast", spec := "enforceLeast", unfollowed := true, recurses := true, named := ["math/bits.deBruijn64tab"], plainKeys := false, apart := false, laid := [("math/bits.deBruijn64tab", laid_math_bits_deBruijn64tab)] }
def EnforceLeastSaid : Prop := enforceLeastRow.holds Tryd.pinned (OpenSpec.ofChange enforceLeastSpec)

/-- ITS FALSE NEIGHBOUR: 'it returns false'. Refute it at one input. -/
def enforceLeastWrong : ChangeSpec := { name := "enforceLeast", fn := fun _ => fun
  | [d1, d2] => { results := [.lit (.bool false)], args := [d1, d2] }
  | _ => none }
def EnforceLeastWrongFalsely : Prop := enforceLeastRow.holds Tryd.pinned (OpenSpec.ofChange enforceLeastWrong)

/-- 'deliberationlaw21.EnforceWorks': WHATEVER THE INPUT: true; the input reads as it did. -/
def enforceWorksSpec : ChangeSpec := { name := "enforceWorks", fn := fun _ => fun
  | [d1, d2] => { results := [.lit (.bool true)], args := [d1, d2] }
  | _ => none }
def enforceWorksRow : OpenClaim := { program := "ytncimnfhfomddaadoor", sum := "0d1617684a75e80f8b8c77ecba29053bb1fc3e1f8ef7f89b20f037c9ddba8955", func := "deliberation/deliberationlaw21.EnforceWorks", spec := "enforceWorks", unfollowed := true, recurses := true, named := ["math/bits.deBruijn64tab"], plainKeys := false, apart := false, laid := [("math/bits.deBruijn64tab", laid_math_bits_deBruijn64tab)] }
def EnforceWorksSaid : Prop := enforceWorksRow.holds Tryd.pinned (OpenSpec.ofChange enforceWorksSpec)

/-- ITS FALSE NEIGHBOUR: 'it returns false'. Refute it at one input. -/
def enforceWorksWrong : ChangeSpec := { name := "enforceWorks", fn := fun _ => fun
  | [d1, d2] => { results := [.lit (.bool false)], args := [d1, d2] }
  | _ => none }
def EnforceWorksWrongFalsely : Prop := enforceWorksRow.holds Tryd.pinned (OpenSpec.ofChange enforceWorksWrong)

/-- 'deliberationlaw25.GameSolved': WHATEVER THE INPUT: true; the input reads as it did. -/
def gameSolvedSpec : ChangeSpec := { name := "gameSolved", fn := fun _ => fun
  | [d1, d2, d3, d4] => { results := [.lit (.bool true)], args := [d1, d2, d3, d4] }
  | _ => none }
def gameSolvedRow : OpenClaim := { program := "ytncimnfhfomddaadoor", sum := "0d1617684a75e80f8b8c77ecba29053bb1fc3e1f8ef7f89b20f037c9ddba8955", func := "deliberation/deliberationlaw25.GameSolved", spec := "gameSolved", unfollowed := true, recurses := true, named := ["math/bits.deBruijn64tab"], plainKeys := false, apart := false, laid := [("math/bits.deBruijn64tab", laid_math_bits_deBruijn64tab)] }
def GameSolvedSaid : Prop := gameSolvedRow.holds Tryd.pinned (OpenSpec.ofChange gameSolvedSpec)

/-- ITS FALSE NEIGHBOUR: 'it returns false'. Refute it at one input. -/
def gameSolvedWrong : ChangeSpec := { name := "gameSolved", fn := fun _ => fun
  | [d1, d2, d3, d4] => { results := [.lit (.bool false)], args := [d1, d2, d3, d4] }
  | _ => none }
def GameSolvedWrongFalsely : Prop := gameSolvedRow.holds Tryd.pinned (OpenSpec.ofChange gameSolvedWrong)

/-- 'deliberationlaw25.GameExhausted': WHATEVER THE INPUT: true; the input reads as it did. -/
def gameExhaustedSpec : ChangeSpec := { name := "gameExhausted", fn := fun _ => fun
  | [d] => { results := [.lit (.bool true)], args := [d] }
  | _ => none }
def gameExhaustedRow : OpenClaim := { program := "ytncimnfhfomddaadoor", sum := "0d1617684a75e80f8b8c77ecba29053bb1fc3e1f8ef7f89b20f037c9ddba8955", func := "deliberation/deliberationlaw25.GameExhausted", spec := "gameExhausted", unfollowed := true, recurses := true, named := ["math/bits.deBruijn64tab"], plainKeys := false, apart := false, laid := [("math/bits.deBruijn64tab", laid_math_bits_deBruijn64tab)] }
def GameExhaustedSaid : Prop := gameExhaustedRow.holds Tryd.pinned (OpenSpec.ofChange gameExhaustedSpec)

/-- ITS FALSE NEIGHBOUR: 'it returns false'. Refute it at one input. -/
def gameExhaustedWrong : ChangeSpec := { name := "gameExhausted", fn := fun _ => fun
  | [d] => { results := [.lit (.bool false)], args := [d] }
  | _ => none }
def GameExhaustedWrongFalsely : Prop := gameExhaustedRow.holds Tryd.pinned (OpenSpec.ofChange gameExhaustedWrong)

/-- 'deliberationlaw25.GamePlayed': WHATEVER THE INPUT: true; the input reads as it did. -/
def gamePlayedSpec : ChangeSpec := { name := "gamePlayed", fn := fun _ => fun
  | [d1, d2] => { results := [.lit (.bool true)], args := [d1, d2] }
  | _ => none }
def gamePlayedRow : OpenClaim := { program := "ytncimnfhfomddaadoor", sum := "0d1617684a75e80f8b8c77ecba29053bb1fc3e1f8ef7f89b20f037c9ddba8955", func := "deliberation/deliberationlaw25.GamePlayed", spec := "gamePlayed", unfollowed := true, recurses := true, named := ["math/bits.deBruijn64tab"], plainKeys := false, apart := false, laid := [("math/bits.deBruijn64tab", laid_math_bits_deBruijn64tab)] }
def GamePlayedSaid : Prop := gamePlayedRow.holds Tryd.pinned (OpenSpec.ofChange gamePlayedSpec)

/-- ITS FALSE NEIGHBOUR: 'it returns false'. Refute it at one input. -/
def gamePlayedWrong : ChangeSpec := { name := "gamePlayed", fn := fun _ => fun
  | [d1, d2] => { results := [.lit (.bool false)], args := [d1, d2] }
  | _ => none }
def GamePlayedWrongFalsely : Prop := gamePlayedRow.holds Tryd.pinned (OpenSpec.ofChange gamePlayedWrong)

/- THE SECOND FORM. 'bulk': how many values and letters a reading holds, each counted each time it is reached (what is shared counts as often as it is met; a slice's spare places count too). A statement '..UptoSaid' is the law's where the arguments, and the package variables that the reading takes, are together of bulk at most 1048576: NARROWER than '..Said'. Prove '..Said' where nothing that the law and all that it calls make is longer than what came in: it says more and counts as full. Else prove '..UptoSaid'. A law counts once. -/
mutual
def uptoBulk {H : Type} : DataW H → Nat
  | .lit (.string bytes) => bytes.length + 1
  | .lit _ => 1
  | .nil => 1
  | .ptr d => uptoBulk d + 1
  | .slice elems spare => uptoBulkAll elems + uptoBulkAll spare + 1
  | .agg parts => uptoBulkAll parts + 1
  | .iface _ d => uptoBulk d + 1
  | .map entries => uptoBulkEntries entries + 1
  | .held _ => 1
def uptoBulkAll {H : Type} : List (DataW H) → Nat
  | [] => 0
  | d :: r => uptoBulk d + uptoBulkAll r
def uptoBulkEntries {H : Type} : List (Lit × DataW H) → Nat
  | [] => 0
  | x :: r => uptoBulkEntry x + uptoBulkEntries r
def uptoBulkEntry {H : Type} : Lit × DataW H → Nat
  | (.string bytes, d) => bytes.length + uptoBulk d + 1
  | (_, d) => uptoBulk d + 1
 end
def uptoSmall : (H : Type) → List (DataW H) → Bool := fun _ ds => decide (uptoBulkAll ds ≤ 1048576)
def OpenSpec.upto (s : _root_.Go.ChangeSpec) : _root_.Go.OpenSpec := { _root_.Go.OpenSpec.ofChange s with cond := some uptoSmall }

/-- 'deliberationlaw21.EnforceChecks', WHERE WHAT IT READS IS OF BULK AT MOST 1048576: true; the input reads as it did. -/
def enforceChecksUptoRow : OpenClaim := { program := "ytncimnfhfomddaadoor", sum := "0d1617684a75e80f8b8c77ecba29053bb1fc3e1f8ef7f89b20f037c9ddba8955", func := "deliberation/deliberationlaw21.EnforceChecks", spec := "enforceChecks", unfollowed := true, recurses := true, named := ["math/bits.deBruijn64tab"], plainKeys := false, apart := false, laid := [("math/bits.deBruijn64tab", laid_math_bits_deBruijn64tab)], narrowed := true }
def EnforceChecksUptoSaid : Prop := enforceChecksUptoRow.holds Tryd.pinned (OpenSpec.upto enforceChecksSpec)

/-- 'deliberationlaw21.EnforceUndone', WHERE WHAT IT READS IS OF BULK AT MOST 1048576: true; the input reads as it did. -/
def enforceUndoneUptoRow : OpenClaim := { program := "ytncimnfhfomddaadoor", sum := "0d1617684a75e80f8b8c77ecba29053bb1fc3e1f8ef7f89b20f037c9ddba8955", func := "deliberation/deliberationlaw21.EnforceUndone", spec := "enforceUndone", unfollowed := true, recurses := true, named := ["math/bits.deBruijn64tab"], plainKeys := false, apart := false, laid := [("math/bits.deBruijn64tab", laid_math_bits_deBruijn64tab)], narrowed := true }
def EnforceUndoneUptoSaid : Prop := enforceUndoneUptoRow.holds Tryd.pinned (OpenSpec.upto enforceUndoneSpec)

/-- 'deliberationlaw21.EnforceAnswers', WHERE WHAT IT READS IS OF BULK AT MOST 1048576: true; the input reads as it did. -/
def enforceAnswersUptoRow : OpenClaim := { program := "ytncimnfhfomddaadoor", sum := "0d1617684a75e80f8b8c77ecba29053bb1fc3e1f8ef7f89b20f037c9ddba8955", func := "deliberation/deliberationlaw21.EnforceAnswers", spec := "enforceAnswers", unfollowed := true, recurses := true, named := ["math/bits.deBruijn64tab"], plainKeys := false, apart := false, laid := [("math/bits.deBruijn64tab", laid_math_bits_deBruijn64tab)], narrowed := true }
def EnforceAnswersUptoSaid : Prop := enforceAnswersUptoRow.holds Tryd.pinned (OpenSpec.upto enforceAnswersSpec)

/-- 'deliberationlaw21.EnforceLeast', WHERE WHAT IT READS IS OF BULK AT MOST 1048576: true; the input reads as it did. -/
def enforceLeastUptoRow : OpenClaim := { program := "ytncimnfhfomddaadoor", sum := "0d1617684a75e80f8b8c77ecba29053bb1fc3e1f8ef7f89b20f037c9ddba8955", func := "deliberation/deliberationlaw21.EnforceLeast", spec := "enforceLeast", unfollowed := true, recurses := true, named := ["math/bits.deBruijn64tab"], plainKeys := false, apart := false, laid := [("math/bits.deBruijn64tab", laid_math_bits_deBruijn64tab)], narrowed := true }
def EnforceLeastUptoSaid : Prop := enforceLeastUptoRow.holds Tryd.pinned (OpenSpec.upto enforceLeastSpec)

/-- 'deliberationlaw21.EnforceWorks', WHERE WHAT IT READS IS OF BULK AT MOST 1048576: true; the input reads as it did. -/
def enforceWorksUptoRow : OpenClaim := { program := "ytncimnfhfomddaadoor", sum := "0d1617684a75e80f8b8c77ecba29053bb1fc3e1f8ef7f89b20f037c9ddba8955", func := "deliberation/deliberationlaw21.EnforceWorks", spec := "enforceWorks", unfollowed := true, recurses := true, named := ["math/bits.deBruijn64tab"], plainKeys := false, apart := false, laid := [("math/bits.deBruijn64tab", laid_math_bits_deBruijn64tab)], narrowed := true }
def EnforceWorksUptoSaid : Prop := enforceWorksUptoRow.holds Tryd.pinned (OpenSpec.upto enforceWorksSpec)

/-- 'deliberationlaw25.GameSolved', WHERE WHAT IT READS IS OF BULK AT MOST 1048576: true; the input reads as it did. -/
def gameSolvedUptoRow : OpenClaim := { program := "ytncimnfhfomddaadoor", sum := "0d1617684a75e80f8b8c77ecba29053bb1fc3e1f8ef7f89b20f037c9ddba8955", func := "deliberation/deliberationlaw25.GameSolved", spec := "gameSolved", unfollowed := true, recurses := true, named := ["math/bits.deBruijn64tab"], plainKeys := false, apart := false, laid := [("math/bits.deBruijn64tab", laid_math_bits_deBruijn64tab)], narrowed := true }
def GameSolvedUptoSaid : Prop := gameSolvedUptoRow.holds Tryd.pinned (OpenSpec.upto gameSolvedSpec)

/-- 'deliberationlaw25.GameExhausted', WHERE WHAT IT READS IS OF BULK AT MOST 1048576: true; the input reads as it did. -/
def gameExhaustedUptoRow : OpenClaim := { program := "ytncimnfhfomddaadoor", sum := "0d1617684a75e80f8b8c77ecba29053bb1fc3e1f8ef7f89b20f037c9ddba8955", func := "deliberation/deliberationlaw25.GameExhausted", spec := "gameExhausted", unfollowed := true, recurses := true, named := ["math/bits.deBruijn64tab"], plainKeys := false, apart := false, laid := [("math/bits.deBruijn64tab", laid_math_bits_deBruijn64tab)], narrowed := true }
def GameExhaustedUptoSaid : Prop := gameExhaustedUptoRow.holds Tryd.pinned (OpenSpec.upto gameExhaustedSpec)

/-- 'deliberationlaw25.GamePlayed', WHERE WHAT IT READS IS OF BULK AT MOST 1048576: true; the input reads as it did. -/
def gamePlayedUptoRow : OpenClaim := { program := "ytncimnfhfomddaadoor", sum := "0d1617684a75e80f8b8c77ecba29053bb1fc3e1f8ef7f89b20f037c9ddba8955", func := "deliberation/deliberationlaw25.GamePlayed", spec := "gamePlayed", unfollowed := true, recurses := true, named := ["math/bits.deBruijn64tab"], plainKeys := false, apart := false, laid := [("math/bits.deBruijn64tab", laid_math_bits_deBruijn64tab)], narrowed := true }
def GamePlayedUptoSaid : Prop := gamePlayedUptoRow.holds Tryd.pinned (OpenSpec.upto gamePlayedSpec)

end Rows
end Go.Proofs.YtncimnfhfomddaaDoor
