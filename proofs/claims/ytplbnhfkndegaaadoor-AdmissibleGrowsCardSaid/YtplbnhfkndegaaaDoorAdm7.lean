/- admissible: until, Grow, Shrink. -/
import Derived.Test.YtplbnhfkndegaaaDoorAdm6
namespace Go.Proofs.YtplbnhfkndegaaaDoor
open Go.ChangeShapes Go.WideShapes Go.ChangeAt Go.RowKit

/-- a captured graph: the block that holds it -/
def Cap (w : World) (p : Nat) (n : Nat) (A : Option Addr) (L c : Nat) : Prop := w.cell? ⟨p, 0, none⟩ = some (.int .i64 (n : Int)) ∧ w.cell? ⟨p, 1, none⟩ = some (.slice A L c)
theorem Cap.below {w w' : World} {p n : Nat} {A : Option Addr} {L c : Nat} (h : Cap w p n A L c) (hb : Below w.heap.size w w') : Cap w' p n A L c :=
  ⟨(hb.cell (lt_of_cell h.1)).trans h.1, (hb.cell (lt_of_cell h.2)).trans h.2⟩

set_option maxHeartbeats 1000000 in
theorem grow1_any (p : Nat) (A : Option Addr) (n : Nat) (l : List (Int × Int)) (c m : Nat) (w : World) (hc : Cap w p n A l.length c) (hr : RP w A l) (hv : InR n l) (hm : m < 18446744073709551616) :
    Calls Tryd.prog 52 #[.int .u64 (m : Int), .pointer (some ⟨p, 0, none⟩)] w (RetB (.int .u64 (stepN n l m : Nat)) w) := by
  obtain ⟨c0, c1⟩ := hc
  go_enter Tryd.func52, Tryd.ntmps52
  go_wp2_with fail
  refine (step_any _ _ _ _ _ _ hr hv hm).mono ?_
  rintro e w1 ⟨rfl, hb⟩
  go_wp2_with fail
  go_ret
  exact ⟨rfl, hb⟩

set_option maxHeartbeats 1000000 in
theorem shrink1_any (p : Nat) (A : Option Addr) (n : Nat) (l : List (Int × Int)) (c m : Nat) (w : World) (hc : Cap w p n A l.length c) (hr : RP w A l) (hv : InR n l) (hm : m < 18446744073709551616) :
    Calls Tryd.prog 53 #[.int .u64 (m : Int), .pointer (some ⟨p, 0, none⟩)] w (RetB (.int .u64 (m &&& stepN n l m : Nat)) w) := by
  obtain ⟨c0, c1⟩ := hc
  have e1 := u64_and_nat m (stepN n l m) hm (u64_of hv.1 (stepN_u64 hv.1 l m))
  go_enter Tryd.func53, Tryd.ntmps53
  go_wp2_with fail
  refine (step_any _ _ _ _ _ _ hr hv hm).mono ?_
  rintro e w1 ⟨rfl, hb⟩
  go_wp2_with fail
  go_ret
  exact ⟨rfl, hb⟩

set_option maxHeartbeats 1000000 in
theorem until_grow (p : Nat) (A : Option Addr) (n : Nat) (l : List (Int × Int)) (c m : Nat) (w : World) (hc : Cap w p n A l.length c) (hr : RP w A l) (hv : InR n l) (hm : m < 2 ^ n) (hs : sub m (stepN n l m)) :
    Calls Tryd.prog 51 #[.int .u64 (m : Int), .func (.func 52) #[] #[.pointer (some ⟨p, 0, none⟩)]] w (RetB (.int .u64 (growN n l m : Nat)) w) := by
  have Hm := Lib.hid hm; have Hs := Lib.hid hs; clear hm hs
  go_enter Tryd.func51, Tryd.ntmps51
  go_wp2_with fail
  go_loopw [0] (fun v wr => ∃ k z : Nat, v = .int .u64 (z : Nat) ∧ itN (stepN n l) k m = z ∧ k ≤ z ∧ z < 2 ^ n ∧ sub z (stepN n l z) ∧ Below w.heap.size w wr) (fun v _ => 2 ^ n - (intOf v).toNat)
  case atStart => exact ⟨0, m, rfl, rfl, by omega, Hm.out, Hs.out, Below.refl _ _⟩
  case round =>
    obtain ⟨k, z, rfl, hz, hkz, hzn, hsub, hbl⟩ := hrel
    have Hz := Lib.hid hz; have Hzn := Lib.hid hzn; have Hsub := Lib.hid hsub; clear hz hzn hsub
    have hzu := u64_of hv.1 Hzn.out
    go_wp2_with fail
    refine (grow1_any p A n l c z wr (hc.below hbl) (hr.below hbl) hv hzu).mono ?_
    rintro e w1 ⟨rfl, hb1⟩
    by_cases hf : stepN n l z = z
    · have hd : (((stepN n l z : Nat) : Int) == (z : Int)) = true := by simp [hf]
      have Hf := Lib.hid hf; clear hf
      go_wp2_with fail
      go_ret
      refine ⟨?_, hbl.trans (hb1.mono hbl.size)⟩
      have : growN n l m = z := by
        unfold growN
        rw [itN_at (k := k) (by rw [Hz.out]; exact Hf.out) (by have := Hzn.out; omega), Hz.out]
      rw [this]
      rfl
    · have hd : (((stepN n l z : Nat) : Int) == (z : Int)) = false := by rw [beq_eq_false_iff_ne]; omega
      have Hf := Lib.hid hf; clear hf
      go_wp2_with fail
      have hle := sub_le Hsub.out
      have hne := Hf.out
      have hlt := stepN_lt n l z
      go_roundw
      case rel => exact ⟨k + 1, stepN n l z, rfl, by show stepN n l (itN _ k m) = _; rw [Hz.out], by omega, hlt, stepN_mono hv Hsub.out, hbl.trans (hb1.mono hbl.size)⟩
      case measure => have := Hzn.out; simp [intOf]; omega

set_option maxHeartbeats 1000000 in
theorem until_shrink (p : Nat) (A : Option Addr) (n : Nat) (l : List (Int × Int)) (c m : Nat) (w : World) (hc : Cap w p n A l.length c) (hr : RP w A l) (hv : InR n l) (hm : m < 2 ^ n) :
    Calls Tryd.prog 51 #[.int .u64 (m : Int), .func (.func 53) #[] #[.pointer (some ⟨p, 0, none⟩)]] w (RetB (.int .u64 (shrinkN n l m : Nat)) w) := by
  have Hm := Lib.hid hm; clear hm
  go_enter Tryd.func51, Tryd.ntmps51
  go_wp2_with fail
  go_loopw [0] (fun v wr => ∃ k z : Nat, v = .int .u64 (z : Nat) ∧ itN (fun m => m &&& stepN n l m) k m = z ∧ z + k ≤ m ∧ Below w.heap.size w wr) (fun v _ => (intOf v).toNat)
  case atStart => exact ⟨0, m, rfl, rfl, by omega, Below.refl _ _⟩
  case round =>
    obtain ⟨k, z, rfl, hz, hkz, hbl⟩ := hrel
    have Hz := Lib.hid hz; clear hz
    have hzu : z < 18446744073709551616 := u64_of hv.1 (by have := Hm.out; omega)
    go_wp2_with fail
    refine (shrink1_any p A n l c z wr (hc.below hbl) (hr.below hbl) hv hzu).mono ?_
    rintro e w1 ⟨rfl, hb1⟩
    generalize hg : z &&& stepN n l z = y
    have Hg := Lib.hid hg; clear hg
    by_cases hf : y = z
    · have hd : ((y : Int) == (z : Int)) = true := by simp [hf]
      have Hf := Lib.hid hf; clear hf
      go_wp2_with fail
      go_ret
      refine ⟨?_, hbl.trans (hb1.mono hbl.size)⟩
      have : shrinkN n l m = z := by
        unfold shrinkN
        rw [itN_at (k := k) (by rw [Hz.out, Hg.out]; exact Hf.out) (by have := Hm.out; omega), Hz.out]
      rw [this]
      rfl
    · have hd : ((y : Int) == (z : Int)) = false := by rw [beq_eq_false_iff_ne]; omega
      have Hf := Lib.hid hf; clear hf
      have hle : y ≤ z := by rw [← Hg.out]; exact Nat.and_le_left
      go_wp2_with fail
      have hne := Hf.out
      go_roundw
      case rel => exact ⟨k + 1, y, rfl, by show (itN _ k m &&& stepN n l (itN _ k m)) = _; rw [Hz.out, Hg.out], by omega, hbl.trans (hb1.mono hbl.size)⟩
      case measure => simp [intOf]; omega
end Go.Proofs.YtplbnhfkndegaaaDoor
