/-
  NARROWER THAN 'FOR EVERY INPUT', by the rows' own cells (each row's printed sentence says how): ExtensionEven: laid · ExtensionContains: laid · ExtensionExact: laid · CoreSingle: laid · CoreGreatest: laid · CoreOrder: laid.
  DERIVED. THE GIVEN ROWS OF THIS SEAT. 6 by the template 'for every input the law returns true; each argument reads behind the call as it read before'; 0 by the template 'total and deterministic' (their statements: YtcpombepajapjaaDoorTotals.lean).
  GIVEN WITH THE SEED: the statements are not yours to turn. If you find one false, say at which input.
  Laid BY PROGRAM, IN A SANDBOX (cutbox-rows.mjs): the forced cells as the released guide's own fill.sh prints them over the translation 56233a10289ff3a4… (all of the seat's roots in one cut). By AI agents, Wed Nov 11 2026. No macro, syntax, notation, axiom, sorry.
-/
import Derived.Test.YtcpombepajapjaaDoorChecked
import GoSem.Claim
import GoSem.ClaimJoined
import GoSem.ClaimMapViews
import Derived.JoinedTies
import Derived.KernelRfl
namespace Go.Proofs.YtcpombepajapjaaDoor
/- THE CELL 'sum', in the pinned program and in every row, IS THE sha256 OF THE DUMP (.gsa) THAT YtcpombepajapjaaDoorProg.lean LOADS. Nothing in Lean hashes anything: it is a label: what it is worth is what the hold of that sum in a sandbox is worth. -/
noncomputable def Tryd.pinned : Pinned := { name := "ytcpombepajapjaadoor", sum := "56233a10289ff3a4efde7fa14dd8d6a7314abfe05f2825ec03f4d807e76a24cd", checked := Tryd.checked }
namespace Rows
def none {H : Type} : Left H := { results := [], args := [] }

/- WHAT THE LISTED PACKAGE-LEVEL VARIABLES READ AS WHEN THE CALL BEGINS. Each datum BY PROGRAM (the guide's laid-datum.mjs) off the statement by which the dump's own 'gosem.cut.vars' lays the variable. In a bare row this is a premise. The card (YtcpombepajapjaaDoorCards.lean) ties it to the program's text. -/
def laid_math_bits_deBruijn64tab {H : Type} : DataW H := .agg [.lit (.int .u8 0), .lit (.int .u8 1), .lit (.int .u8 56), .lit (.int .u8 2), .lit (.int .u8 57), .lit (.int .u8 49), .lit (.int .u8 28), .lit (.int .u8 3), .lit (.int .u8 61), .lit (.int .u8 58), .lit (.int .u8 42), .lit (.int .u8 50), .lit (.int .u8 38), .lit (.int .u8 29), .lit (.int .u8 17), .lit (.int .u8 4), .lit (.int .u8 62), .lit (.int .u8 47), .lit (.int .u8 59), .lit (.int .u8 36), .lit (.int .u8 45), .lit (.int .u8 43), .lit (.int .u8 51), .lit (.int .u8 22), .lit (.int .u8 53), .lit (.int .u8 39), .lit (.int .u8 33), .lit (.int .u8 30), .lit (.int .u8 24), .lit (.int .u8 18), .lit (.int .u8 12), .lit (.int .u8 5), .lit (.int .u8 63), .lit (.int .u8 55), .lit (.int .u8 48), .lit (.int .u8 27), .lit (.int .u8 60), .lit (.int .u8 41), .lit (.int .u8 37), .lit (.int .u8 16), .lit (.int .u8 46), .lit (.int .u8 35), .lit (.int .u8 44), .lit (.int .u8 21), .lit (.int .u8 52), .lit (.int .u8 32), .lit (.int .u8 23), .lit (.int .u8 11), .lit (.int .u8 54), .lit (.int .u8 26), .lit (.int .u8 40), .lit (.int .u8 15), .lit (.int .u8 34), .lit (.int .u8 20), .lit (.int .u8 31), .lit (.int .u8 10), .lit (.int .u8 25), .lit (.int .u8 14), .lit (.int .u8 19), .lit (.int .u8 9), .lit (.int .u8 13), .lit (.int .u8 8), .lit (.int .u8 7), .lit (.int .u8 6)]

/-- 'deliberationlaw15.ExtensionEven': WHATEVER THE INPUT: true; the input reads as it did. -/
def extensionEvenSpec : ChangeSpec := { name := "extensionEven", fn := fun _ => fun
  | [d] => { results := [.lit (.bool true)], args := [d] }
  | _ => none }
def extensionEvenRow : OpenClaim := { program := "ytcpombepajapjaadoor", sum := "56233a10289ff3a4efde7fa14dd8d6a7314abfe05f2825ec03f4d807e76a24cd", func := "deliberation/deliberationlaw15.ExtensionEven", spec := "extensionEven", unfollowed := true, recurses := true, named := ["math/bits.deBruijn64tab"], apart := false, laid := [("math/bits.deBruijn64tab", laid_math_bits_deBruijn64tab)] }
def ExtensionEvenSaid : Prop := extensionEvenRow.holds Tryd.pinned (OpenSpec.ofChange extensionEvenSpec)

/-- ITS FALSE NEIGHBOUR: 'it returns false'. Refute it at one input. -/
def extensionEvenWrong : ChangeSpec := { name := "extensionEven", fn := fun _ => fun
  | [d] => { results := [.lit (.bool false)], args := [d] }
  | _ => none }
def ExtensionEvenWrongFalsely : Prop := extensionEvenRow.holds Tryd.pinned (OpenSpec.ofChange extensionEvenWrong)

/-- 'deliberationlaw15.ExtensionContains': WHATEVER THE INPUT: true; the input reads as it did. -/
def extensionContainsSpec : ChangeSpec := { name := "extensionContains", fn := fun _ => fun
  | [d] => { results := [.lit (.bool true)], args := [d] }
  | _ => none }
def extensionContainsRow : OpenClaim := { program := "ytcpombepajapjaadoor", sum := "56233a10289ff3a4efde7fa14dd8d6a7314abfe05f2825ec03f4d807e76a24cd", func := "deliberation/deliberationlaw15.ExtensionContains", spec := "extensionContains", unfollowed := true, recurses := true, named := ["math/bits.deBruijn64tab"], apart := false, laid := [("math/bits.deBruijn64tab", laid_math_bits_deBruijn64tab)] }
def ExtensionContainsSaid : Prop := extensionContainsRow.holds Tryd.pinned (OpenSpec.ofChange extensionContainsSpec)

/-- ITS FALSE NEIGHBOUR: 'it returns false'. Refute it at one input. -/
def extensionContainsWrong : ChangeSpec := { name := "extensionContains", fn := fun _ => fun
  | [d] => { results := [.lit (.bool false)], args := [d] }
  | _ => none }
def ExtensionContainsWrongFalsely : Prop := extensionContainsRow.holds Tryd.pinned (OpenSpec.ofChange extensionContainsWrong)

/-- 'deliberationlaw15.ExtensionExact': WHATEVER THE INPUT: true; the input reads as it did. -/
def extensionExactSpec : ChangeSpec := { name := "extensionExact", fn := fun _ => fun
  | [d] => { results := [.lit (.bool true)], args := [d] }
  | _ => none }
def extensionExactRow : OpenClaim := { program := "ytcpombepajapjaadoor", sum := "56233a10289ff3a4efde7fa14dd8d6a7314abfe05f2825ec03f4d807e76a24cd", func := "deliberation/deliberationlaw15.ExtensionExact", spec := "extensionExact", unfollowed := true, recurses := true, named := ["math/bits.deBruijn64tab"], apart := false, laid := [("math/bits.deBruijn64tab", laid_math_bits_deBruijn64tab)] }
def ExtensionExactSaid : Prop := extensionExactRow.holds Tryd.pinned (OpenSpec.ofChange extensionExactSpec)

/-- ITS FALSE NEIGHBOUR: 'it returns false'. Refute it at one input. -/
def extensionExactWrong : ChangeSpec := { name := "extensionExact", fn := fun _ => fun
  | [d] => { results := [.lit (.bool false)], args := [d] }
  | _ => none }
def ExtensionExactWrongFalsely : Prop := extensionExactRow.holds Tryd.pinned (OpenSpec.ofChange extensionExactWrong)

/-- 'deliberationlaw16.CoreSingle': WHATEVER THE INPUT: true; the input reads as it did. -/
def coreSingleSpec : ChangeSpec := { name := "coreSingle", fn := fun _ => fun
  | [d] => { results := [.lit (.bool true)], args := [d] }
  | _ => none }
def coreSingleRow : OpenClaim := { program := "ytcpombepajapjaadoor", sum := "56233a10289ff3a4efde7fa14dd8d6a7314abfe05f2825ec03f4d807e76a24cd", func := "deliberation/deliberationlaw16.CoreSingle", spec := "coreSingle", unfollowed := true, recurses := true, named := ["math/bits.deBruijn64tab"], apart := false, laid := [("math/bits.deBruijn64tab", laid_math_bits_deBruijn64tab)] }
def CoreSingleSaid : Prop := coreSingleRow.holds Tryd.pinned (OpenSpec.ofChange coreSingleSpec)

/-- ITS FALSE NEIGHBOUR: 'it returns false'. Refute it at one input. -/
def coreSingleWrong : ChangeSpec := { name := "coreSingle", fn := fun _ => fun
  | [d] => { results := [.lit (.bool false)], args := [d] }
  | _ => none }
def CoreSingleWrongFalsely : Prop := coreSingleRow.holds Tryd.pinned (OpenSpec.ofChange coreSingleWrong)

/-- 'deliberationlaw16.CoreGreatest': WHATEVER THE INPUT: true; the input reads as it did. -/
def coreGreatestSpec : ChangeSpec := { name := "coreGreatest", fn := fun _ => fun
  | [d] => { results := [.lit (.bool true)], args := [d] }
  | _ => none }
def coreGreatestRow : OpenClaim := { program := "ytcpombepajapjaadoor", sum := "56233a10289ff3a4efde7fa14dd8d6a7314abfe05f2825ec03f4d807e76a24cd", func := "deliberation/deliberationlaw16.CoreGreatest", spec := "coreGreatest", unfollowed := true, recurses := true, named := ["math/bits.deBruijn64tab"], apart := false, laid := [("math/bits.deBruijn64tab", laid_math_bits_deBruijn64tab)] }
def CoreGreatestSaid : Prop := coreGreatestRow.holds Tryd.pinned (OpenSpec.ofChange coreGreatestSpec)

/-- ITS FALSE NEIGHBOUR: 'it returns false'. Refute it at one input. -/
def coreGreatestWrong : ChangeSpec := { name := "coreGreatest", fn := fun _ => fun
  | [d] => { results := [.lit (.bool false)], args := [d] }
  | _ => none }
def CoreGreatestWrongFalsely : Prop := coreGreatestRow.holds Tryd.pinned (OpenSpec.ofChange coreGreatestWrong)

/-- 'deliberationlaw16.CoreOrder': WHATEVER THE INPUT: true; the input reads as it did. -/
def coreOrderSpec : ChangeSpec := { name := "coreOrder", fn := fun _ => fun
  | [d] => { results := [.lit (.bool true)], args := [d] }
  | _ => none }
def coreOrderRow : OpenClaim := { program := "ytcpombepajapjaadoor", sum := "56233a10289ff3a4efde7fa14dd8d6a7314abfe05f2825ec03f4d807e76a24cd", func := "deliberation/deliberationlaw16.CoreOrder", spec := "coreOrder", unfollowed := true, recurses := true, named := ["math/bits.deBruijn64tab"], apart := false, laid := [("math/bits.deBruijn64tab", laid_math_bits_deBruijn64tab)] }
def CoreOrderSaid : Prop := coreOrderRow.holds Tryd.pinned (OpenSpec.ofChange coreOrderSpec)

/-- ITS FALSE NEIGHBOUR: 'it returns false'. Refute it at one input. -/
def coreOrderWrong : ChangeSpec := { name := "coreOrder", fn := fun _ => fun
  | [d] => { results := [.lit (.bool false)], args := [d] }
  | _ => none }
def CoreOrderWrongFalsely : Prop := coreOrderRow.holds Tryd.pinned (OpenSpec.ofChange coreOrderWrong)

/- THE SECOND FORM. 'bulk': how many values and letters a reading holds, each counted each time it is reached (what is shared counts as often as it is met; a slice's spare places count too). A statement '..UptoSaid' is the law's where the arguments, and the package variables that the reading takes, are together of bulk at most 1048576: NARROWER than '..Said'. Prove '..Said' where nothing that the law and all that it calls make is longer than what came in: it says more and counts as full. Else prove '..UptoSaid'. A law counts once. -/
mutual
def uptoBulk {H : Type} : DataW H → Nat
  | .lit (.string bytes) => bytes.length + 1
  | .lit _ => 1
  | .nil => 1
  | .ptr d => uptoBulk d + 1
  | .slice elems spare => uptoBulkAll elems + uptoBulkAll spare + 1
  | .agg parts => uptoBulkAll parts + 1
  | .iface _ d => uptoBulk d + 1
  | .map entries => uptoBulkEntries entries + 1
  | .held _ => 1
def uptoBulkAll {H : Type} : List (DataW H) → Nat
  | [] => 0
  | d :: r => uptoBulk d + uptoBulkAll r
def uptoBulkEntries {H : Type} : List (Lit × DataW H) → Nat
  | [] => 0
  | x :: r => uptoBulkEntry x + uptoBulkEntries r
def uptoBulkEntry {H : Type} : Lit × DataW H → Nat
  | (.string bytes, d) => bytes.length + uptoBulk d + 1
  | (_, d) => uptoBulk d + 1
 end
def uptoSmall : (H : Type) → List (DataW H) → Bool := fun _ ds => decide (uptoBulkAll ds ≤ 1048576)
def OpenSpec.upto (s : _root_.Go.ChangeSpec) : _root_.Go.OpenSpec := { _root_.Go.OpenSpec.ofChange s with cond := some uptoSmall }

/-- 'deliberationlaw15.ExtensionEven', WHERE WHAT IT READS IS OF BULK AT MOST 1048576: true; the input reads as it did. -/
def extensionEvenUptoRow : OpenClaim := { program := "ytcpombepajapjaadoor", sum := "56233a10289ff3a4efde7fa14dd8d6a7314abfe05f2825ec03f4d807e76a24cd", func := "deliberation/deliberationlaw15.ExtensionEven", spec := "extensionEven", unfollowed := true, recurses := true, named := ["math/bits.deBruijn64tab"], apart := false, laid := [("math/bits.deBruijn64tab", laid_math_bits_deBruijn64tab)], narrowed := true }
def ExtensionEvenUptoSaid : Prop := extensionEvenUptoRow.holds Tryd.pinned (OpenSpec.upto extensionEvenSpec)

/-- 'deliberationlaw15.ExtensionContains', WHERE WHAT IT READS IS OF BULK AT MOST 1048576: true; the input reads as it did. -/
def extensionContainsUptoRow : OpenClaim := { program := "ytcpombepajapjaadoor", sum := "56233a10289ff3a4efde7fa14dd8d6a7314abfe05f2825ec03f4d807e76a24cd", func := "deliberation/deliberationlaw15.ExtensionContains", spec := "extensionContains", unfollowed := true, recurses := true, named := ["math/bits.deBruijn64tab"], apart := false, laid := [("math/bits.deBruijn64tab", laid_math_bits_deBruijn64tab)], narrowed := true }
def ExtensionContainsUptoSaid : Prop := extensionContainsUptoRow.holds Tryd.pinned (OpenSpec.upto extensionContainsSpec)

/-- 'deliberationlaw15.ExtensionExact', WHERE WHAT IT READS IS OF BULK AT MOST 1048576: true; the input reads as it did. -/
def extensionExactUptoRow : OpenClaim := { program := "ytcpombepajapjaadoor", sum := "56233a10289ff3a4efde7fa14dd8d6a7314abfe05f2825ec03f4d807e76a24cd", func := "deliberation/deliberationlaw15.ExtensionExact", spec := "extensionExact", unfollowed := true, recurses := true, named := ["math/bits.deBruijn64tab"], apart := false, laid := [("math/bits.deBruijn64tab", laid_math_bits_deBruijn64tab)], narrowed := true }
def ExtensionExactUptoSaid : Prop := extensionExactUptoRow.holds Tryd.pinned (OpenSpec.upto extensionExactSpec)

/-- 'deliberationlaw16.CoreSingle', WHERE WHAT IT READS IS OF BULK AT MOST 1048576: true; the input reads as it did. -/
def coreSingleUptoRow : OpenClaim := { program := "ytcpombepajapjaadoor", sum := "56233a10289ff3a4efde7fa14dd8d6a7314abfe05f2825ec03f4d807e76a24cd", func := "deliberation/deliberationlaw16.CoreSingle", spec := "coreSingle", unfollowed := true, recurses := true, named := ["math/bits.deBruijn64tab"], apart := false, laid := [("math/bits.deBruijn64tab", laid_math_bits_deBruijn64tab)], narrowed := true }
def CoreSingleUptoSaid : Prop := coreSingleUptoRow.holds Tryd.pinned (OpenSpec.upto coreSingleSpec)

/-- 'deliberationlaw16.CoreGreatest', WHERE WHAT IT READS IS OF BULK AT MOST 1048576: true; the input reads as it did. -/
def coreGreatestUptoRow : OpenClaim := { program := "ytcpombepajapjaadoor", sum := "56233a10289ff3a4efde7fa14dd8d6a7314abfe05f2825ec03f4d807e76a24cd", func := "deliberation/deliberationlaw16.CoreGreatest", spec := "coreGreatest", unfollowed := true, recurses := true, named := ["math/bits.deBruijn64tab"], apart := false, laid := [("math/bits.deBruijn64tab", laid_math_bits_deBruijn64tab)], narrowed := true }
def CoreGreatestUptoSaid : Prop := coreGreatestUptoRow.holds Tryd.pinned (OpenSpec.upto coreGreatestSpec)

/-- 'deliberationlaw16.CoreOrder', WHERE WHAT IT READS IS OF BULK AT MOST 1048576: true; the input reads as it did. -/
def coreOrderUptoRow : OpenClaim := { program := "ytcpombepajapjaadoor", sum := "56233a10289ff3a4efde7fa14dd8d6a7314abfe05f2825ec03f4d807e76a24cd", func := "deliberation/deliberationlaw16.CoreOrder", spec := "coreOrder", unfollowed := true, recurses := true, named := ["math/bits.deBruijn64tab"], apart := false, laid := [("math/bits.deBruijn64tab", laid_math_bits_deBruijn64tab)], narrowed := true }
def CoreOrderUptoSaid : Prop := coreOrderUptoRow.holds Tryd.pinned (OpenSpec.upto coreOrderSpec)

end Rows
end Go.Proofs.YtcpombepajapjaaDoor
