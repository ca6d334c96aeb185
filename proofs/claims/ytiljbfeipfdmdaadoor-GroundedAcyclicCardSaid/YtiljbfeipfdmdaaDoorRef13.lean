/- The reference of layers 11 and 13: In, inside, Valid, hit, ConflictFree. -/
import Derived.Test.YtiljbfeipfdmdaaDoorRef10c
import Derived.Test.YtiljbfeipfdmdaaDoorAdm
namespace Go.Proofs.YtiljbfeipfdmdaaDoor
open Go.ChangeShapes Go.WideShapes Go.ChangeAt Go.RowKit

set_option maxHeartbeats 400000 in
theorem r11In_any (A : Option Addr) (l : List Int) (c : Nat) (x : Int) (w : World) (hn : l.length ≤ 4611686018427387904) (hr : RI w A l) :
    Calls Tryd.prog 67 #[.slice A l.length c, .int .i64 x] w (Ret (.bool (inB l x)) w) := by
  go_enter Tryd.func67, Tryd.ntmps67
  go_wp2
  go_loop [5] (fun i => ∃ k : Nat, k ≤ l.length ∧ i = .int .i64 k ∧ inB (l.take k) x = false) (fun i => l.length - (intOf i).toNat)
  case atStart => exact ⟨0, by omega, rfl, by simp [inB]⟩
  case round =>
    obtain ⟨k, hk, rfl, hno⟩ := hrel
    have Hno := Lib.hid hno; clear hno
    by_cases hlt : k < l.length
    · obtain ⟨b, o, rfl, hc⟩ := hr.at_ hlt
      go_wp2
      · go_ret
        exact ⟨rb (inB_hit l x k hlt (by assumption)).symm, rfl⟩
      · go_round
        case rel => exact ⟨k + 1, by omega, by go_num, inB_take_succ l x k hlt Hno.out (by assumption)⟩
        case measure => simp [intOf]; omega
    · go_wp2
      go_ret
      exact ⟨rb (inB_all l x k hlt Hno.out).symm, rfl⟩


/-- an element of x attacks i -/
def hitB (l : List (Int × Int)) (x : List Int) (i : Int) : Bool := x.any (fun a => hasB l a i)
theorem hitB_hit {l : List (Int × Int)} {x : List Int} {i : Int} {k : Nat} (h : k < x.length) (hx : hasB l x[k] i = true) : hitB l x i = true := List.any_eq_true.2 ⟨_, List.getElem_mem h, hx⟩
theorem hitB_next {l : List (Int × Int)} {x : List Int} {i : Int} {k : Nat} (h : k < x.length) (h0 : hitB l (x.take k) i = false) (hx : hasB l x[k] i = false) : hitB l (x.take (k + 1)) i = false := by
  unfold hitB at *; rw [List.take_succ_eq_append_getElem h, List.any_append, h0]; simp [hx]

end Go.Proofs.YtiljbfeipfdmdaaDoor
