/- admissible: free, sound, the other properties, holds, and what it is called for. -/
import Derived.Test.YtkfocifejoogaaaDoorAdm3
import Derived.Test.YtkfocifejoogaaaDoorTxt
namespace Go.Proofs.YtkfocifejoogaaaDoor
open Go.ChangeShapes Go.WideShapes Go.ChangeAt Go.RowKit

def freeB (l : List (Int × Int)) (m : Nat) : Bool := (attN l m &&& m) == 0
def soundB (n : Nat) (l : List (Int × Int)) (m : Nat) : Bool := freeB l m && minusN m (stepN n l m) == 0
def complB (n : Nat) (l : List (Int × Int)) (m : Nat) : Bool := soundB n l m && stepN n l m == m
def stabB (n : Nat) (l : List (Int × Int)) (m : Nat) : Bool := freeB l m && (m ||| attN l m) == allN n
theorem natBeq (a b : Nat) : (((a : Int)) == ((b : Int))) = (a == b) := by rw [Bool.eq_iff_iff]; simp; omega
theorem natBeq0 (a : Nat) : (((a : Int)) == 0) = (a == 0) := natBeq a 0
theorem stepN_u64 {n : Nat} (_hn : n ≤ 40) (l : List (Int × Int)) (m : Nat) : stepN n l m < 2 ^ n := Nat.lt_of_le_of_lt (minusN_le _ _) (allN_lt n)

set_option maxHeartbeats 400000 in
theorem free_any (A : Option Addr) (n : Nat) (l : List (Int × Int)) (c : Nat) (m : Nat) (w : World) (hr : RP w A l) (hv : InR n l) (hm : m < 18446744073709551616) :
    Calls Tryd.prog 45 #[.agg #[.int .i64 (n : Int), .slice A l.length c], .int .u64 (m : Int)] w (RetB (.bool (freeB l m)) w) := by
  have e1 := u64_and_nat (attN l m) m (u64_of hv.1 (attN_u64 hv m)) hm
  have e2 := natBeq0 (attN l m &&& m)
  have E1 := Lib.hid e1; have E2 := Lib.hid e2; clear e1 e2
  go_enter Tryd.func45, Tryd.ntmps45
  go_wp2_with fail
  refine (attacked_any _ _ _ _ _ _ (hr.below ((Below.refl _ _).alloc (Nat.le_refl _) _)) hv hm).mono ?_
  rintro e w1 ⟨rfl, hb⟩
  go_wp2_with fail
  go_ret
  refine ⟨rb ?_, ((Below.refl _ _).alloc (Nat.le_refl _) _).trans (hb.mono (by simp))⟩
  show (bits BinOp.and IntKind.u64 ↑(attN l m) ↑m == 0) = _
  rw [E1.out, E2.out]
  rfl

set_option maxHeartbeats 1000000 in
theorem sound_any (A : Option Addr) (n : Nat) (l : List (Int × Int)) (c : Nat) (m : Nat) (w : World) (hr : RP w A l) (hv : InR n l) (hm : m < 18446744073709551616) :
    Calls Tryd.prog 40 #[.agg #[.int .i64 (n : Int), .slice A l.length c], .int .u64 (m : Int)] w (RetB (.bool (soundB n l m)) w) := by
  go_enter Tryd.func40, Tryd.ntmps40
  go_wp2_with fail
  obtain ⟨W0, hW, c0, c1, hb0, hlt0⟩ := boxed w 27 (.int .i64 (n : Int)) (.slice A l.length c)
  rw [hW]
  have hr0 := hr.below hb0
  clear hW hr
  go_wp2_with fail
  refine (free_any _ _ _ _ _ _ hr0 hv hm).mono ?_
  rintro e w1 ⟨rfl, hb1⟩
  obtain ⟨d0, d1, hbb⟩ := keepC c0 c1 (Below.refl _ _) hb1
  cases hf : freeB l m
  · go_wp2_with fail
    go_ret
    refine ⟨rb ?_, endB hb0 hbb⟩
    simp [soundB, hf]
  · have Hf := Lib.hid hf; clear hf
    go_wp2_with fail
    refine (step_any _ _ _ _ _ _ (hr0.below hbb) hv hm).mono ?_
    rintro e w2 ⟨rfl, hb2⟩
    go_wp2_with fail
    go_ret
    refine ⟨rb ?_, endB hb0 (hbb.trans (hb2.mono hbb.size))⟩
    have e1 := u64_minus m (stepN n l m) hm (u64_of hv.1 (stepN_u64 hv.1 l m))
    show (bits BinOp.andNot IntKind.u64 ↑m ↑(stepN n l m) == 0) = _
    rw [e1, natBeq0, soundB, Hf.out]
    rfl

set_option maxHeartbeats 1000000 in
theorem compl1_any (A : Option Addr) (n : Nat) (l : List (Int × Int)) (c : Nat) (m : Nat) (w : World) (hr : RP w A l) (hv : InR n l) (hm : m < 18446744073709551616) :
    Calls Tryd.prog 46 #[.agg #[.int .i64 (n : Int), .slice A l.length c], .int .u64 (m : Int)] w (RetB (.bool (complB n l m)) w) := by
  go_enter Tryd.func46, Tryd.ntmps46
  go_wp2_with fail
  obtain ⟨W0, hW, c0, c1, hb0, hlt0⟩ := boxed w 27 (.int .i64 (n : Int)) (.slice A l.length c)
  rw [hW]
  have hr0 := hr.below hb0
  clear hW hr
  go_wp2_with fail
  refine (sound_any _ _ _ _ _ _ hr0 hv hm).mono ?_
  rintro e w1 ⟨rfl, hb1⟩
  obtain ⟨d0, d1, hbb⟩ := keepC c0 c1 (Below.refl _ _) hb1
  cases hf : soundB n l m
  · go_wp2_with fail
    go_ret
    refine ⟨rb ?_, endB hb0 hbb⟩
    simp [complB, hf]
  · have Hf := Lib.hid hf; clear hf
    go_wp2_with fail
    refine (step_any _ _ _ _ _ _ (hr0.below hbb) hv hm).mono ?_
    rintro e w2 ⟨rfl, hb2⟩
    go_wp2_with fail
    go_ret
    refine ⟨rb ?_, endB hb0 (hbb.trans (hb2.mono hbb.size))⟩
    rw [complB, Hf.out, ← natBeq]
    rfl

set_option maxHeartbeats 1000000 in
theorem stab1_any (A : Option Addr) (n : Nat) (l : List (Int × Int)) (c : Nat) (m : Nat) (w : World) (hr : RP w A l) (hv : InR n l) (hm : m < 18446744073709551616) :
    Calls Tryd.prog 44 #[.agg #[.int .i64 (n : Int), .slice A l.length c], .int .u64 (m : Int)] w (RetB (.bool (stabB n l m)) w) := by
  have hn := hv.1
  have e1 := u64_or_nat m (attN l m) hm (u64_of hv.1 (attN_u64 hv m))
  cases hf : freeB l m
  all_goals
    have Hf := Lib.hid hf; clear hf
    go_enter Tryd.func44, Tryd.ntmps44
    go_wp2_with fail
    obtain ⟨W0, hW, c0, c1, hb0, hlt0⟩ := boxed w 27 (.int .i64 (n : Int)) (.slice A l.length c)
    rw [hW]
    have hr0 := hr.below hb0
    clear hW hr
    refine wp_region_text (S := fun w' => Below W0.heap.size W0 w') (by kernel_rfl) (by kernel_rfl) (Below.refl _ _).drew ?_
    repeat (first
      | (refine TxtL.skip (by rfl) ?_; simp only [Act.put, List.setIfInBounds_toArray, List.set_cons_zero, List.set_cons_succ])
      | (refine TxtL.take' (by rfl) ?_; apply Exists.intro; refine ⟨fun w1 hS1 => ?_, ?_⟩; (focus ((have d0 := (hS1.cell (lt_of_cell c0)).trans c0); (have d1 := (hS1.cell (lt_of_cell c1)).trans c1); go_simp; with_reducible rfl)); simp only [Act.put, List.setIfInBounds_toArray, List.set_cons_zero, List.set_cons_succ])
      | (refine TxtL.call' (by rfl) ?_; apply Exists.intro; apply Exists.intro; refine ⟨fun w1 hS1 => ?_, ?_⟩; (focus (go_simp; first | with_reducible rfl | exact ⟨rfl, rfl⟩)); apply Exists.intro; refine ⟨fun w1 hS1 => ?_, ?_⟩; (focus ((have d0 := (hS1.cell (lt_of_cell c0)).trans c0); (have d1 := (hS1.cell (lt_of_cell c1)).trans c1); first | (go_at_call 45; refine (free_any _ _ _ _ _ _ (hr0.below hS1) hv hm).mono ?_; rintro e w' ⟨rfl, hbb⟩; exact ⟨by rw [Hf.out], hS1.trans (hbb.mono hS1.size)⟩) | (go_at_call 38; refine (whole_any _ _ _ _ _ hn).mono ?_; rintro e w' ⟨rfl, hbb⟩; exact ⟨rfl, hS1.trans (hbb.mono hS1.size)⟩) | (go_at_call 39; refine (attacked_any _ _ _ _ _ _ (hr0.below hS1) hv hm).mono ?_; rintro e w' ⟨rfl, hbb⟩; exact ⟨rfl, hS1.trans (hbb.mono hS1.size)⟩))); simp only [Act.put, List.setIfInBounds_toArray, List.set_cons_zero, List.set_cons_succ]))
    refine TxtL.nil (fun w1 hS1 => ?_)
    go_wp2
    go_ret
    refine ⟨rb ?_, endB hb0 hS1⟩
  · simp [stabB, Hf.out]
  · rw [stabB, Hf.out, ← natBeq]
    rfl
end Go.Proofs.YtkfocifejoogaaaDoor
