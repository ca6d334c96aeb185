/- admissible: until, Grow, Shrink. -/
import Derived.Test.YtkfocifejoogaaaDoorAdm6
namespace Go.Proofs.YtkfocifejoogaaaDoor
open Go.ChangeShapes Go.WideShapes Go.ChangeAt Go.RowKit

/-- a captured graph: the block that holds it -/
def Cap (w : World) (p : Nat) (n : Nat) (A : Option Addr) (L c : Nat) : Prop := w.cell? ⟨p, 0, none⟩ = some (.int .i64 (n : Int)) ∧ w.cell? ⟨p, 1, none⟩ = some (.slice A L c)
theorem Cap.below {w w' : World} {p n : Nat} {A : Option Addr} {L c : Nat} (h : Cap w p n A L c) (hb : Below w.heap.size w w') : Cap w' p n A L c :=
  ⟨(hb.cell (lt_of_cell h.1)).trans h.1, (hb.cell (lt_of_cell h.2)).trans h.2⟩

set_option maxHeartbeats 1000000 in
theorem grow1_any (p : Nat) (A : Option Addr) (n : Nat) (l : List (Int × Int)) (c m : Nat) (w : World) (hc : Cap w p n A l.length c) (hr : RP w A l) (hv : InR n l) (hm : m < 18446744073709551616) :
    Calls Tryd.prog 42 #[.int .u64 (m : Int), .pointer (some ⟨p, 0, none⟩)] w (RetB (.int .u64 (stepN n l m : Nat)) w) := by
  obtain ⟨c0, c1⟩ := hc
  go_enter Tryd.func42, Tryd.ntmps42
  go_wp2_with fail
  refine (step_any _ _ _ _ _ _ hr hv hm).mono ?_
  rintro e w1 ⟨rfl, hb⟩
  go_wp2_with fail
  go_ret
  exact ⟨rfl, hb⟩

set_option maxHeartbeats 1000000 in
theorem until_grow (p : Nat) (A : Option Addr) (n : Nat) (l : List (Int × Int)) (c m : Nat) (w : World) (hc : Cap w p n A l.length c) (hr : RP w A l) (hv : InR n l) (hm : m < 2 ^ n) (hs : sub m (stepN n l m)) :
    Calls Tryd.prog 41 #[.int .u64 (m : Int), .func (.func 42) #[] #[.pointer (some ⟨p, 0, none⟩)]] w (RetB (.int .u64 (growN n l m : Nat)) w) := by
  have Hm := Lib.hid hm; have Hs := Lib.hid hs; clear hm hs
  go_enter Tryd.func41, Tryd.ntmps41
  go_wp2_with fail
  go_loopw [0] (fun v wr => ∃ k z : Nat, v = .int .u64 (z : Nat) ∧ itN (stepN n l) k m = z ∧ k ≤ z ∧ z < 2 ^ n ∧ sub z (stepN n l z) ∧ Below w.heap.size w wr) (fun v _ => 2 ^ n - (intOf v).toNat)
  case atStart => exact ⟨0, m, rfl, rfl, by omega, Hm.out, Hs.out, Below.refl _ _⟩
  case round =>
    obtain ⟨k, z, rfl, hz, hkz, hzn, hsub, hbl⟩ := hrel
    have Hz := Lib.hid hz; have Hzn := Lib.hid hzn; have Hsub := Lib.hid hsub; clear hz hzn hsub
    have hzu := u64_of hv.1 Hzn.out
    go_wp2_with fail
    refine (grow1_any p A n l c z wr (hc.below hbl) (hr.below hbl) hv hzu).mono ?_
    rintro e w1 ⟨rfl, hb1⟩
    by_cases hf : stepN n l z = z
    · have hd : (((stepN n l z : Nat) : Int) == (z : Int)) = true := by simp [hf]
      have Hf := Lib.hid hf; clear hf
      go_wp2_with fail
      go_ret
      refine ⟨?_, hbl.trans (hb1.mono hbl.size)⟩
      have : growN n l m = z := by
        unfold growN
        rw [itN_at (k := k) (by rw [Hz.out]; exact Hf.out) (by have := Hzn.out; omega), Hz.out]
      rw [this]
      rfl
    · have hd : (((stepN n l z : Nat) : Int) == (z : Int)) = false := by rw [beq_eq_false_iff_ne]; omega
      have Hf := Lib.hid hf; clear hf
      go_wp2_with fail
      have hle := sub_le Hsub.out
      have hne := Hf.out
      have hlt := stepN_lt n l z
      go_roundw
      case rel => exact ⟨k + 1, stepN n l z, rfl, by show stepN n l (itN _ k m) = _; rw [Hz.out], by omega, hlt, stepN_mono hv Hsub.out, hbl.trans (hb1.mono hbl.size)⟩
      case measure => have := Hzn.out; simp [intOf]; omega

end Go.Proofs.YtkfocifejoogaaaDoor
