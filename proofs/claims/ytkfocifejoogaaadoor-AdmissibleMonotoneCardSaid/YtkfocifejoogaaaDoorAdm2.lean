/- math/bits.TrailingZeros64; admissible: list, mask, Valid. -/
import Derived.Test.YtkfocifejoogaaaDoorAdm1
import Derived.Test.YtkfocifejoogaaaDoorOwn
namespace Go.Proofs.YtkfocifejoogaaaDoor
open Go.ChangeShapes Go.WideShapes Go.ChangeAt Go.RowKit

/-- the library's table of 64 small numbers lies in its variable -/
def Tab (w : World) : Prop := ∀ j, j < 64 → w.cell? ⟨0, j, none⟩ = some (.int .u8 (Lib.deBruijn64tab.getD j 0))
theorem Tab.below {w w' : World} (h : Tab w) (hb : Below w.heap.size w w') : Tab w' := fun j hj => (hb.cell (p := ⟨0, j, none⟩) (lt_of_cell (h j hj))).trans (h j hj)
theorem Tab.grown {w w' : World} (h : Tab w) {p : Nat} (hb : w.grownBy w' (some p)) (hp : 0 < p) : Tab w' := fun j hj => hb.cell (h j hj) (by simp; omega)

theorem tz_key (x a : Nat) (hx : x < 18446744073709551616) (hx0 : x ≠ 0) (hlow : x &&& (18446744073709551616 - x) = a) :
    IntKind.u64.wrap (bits BinOp.and IntKind.u64 (x : Int) (IntKind.u64.wrap (-(x : Int))) * 285870213051353865) / 288230376151711744 = ((a * 285870213051353865 % 18446744073709551616 / 288230376151711744 : Nat) : Int) := by
  have e1 : IntKind.u64.wrap (-(x : Int)) = ((18446744073709551616 - x : Nat) : Int) := by rw [IntKind.wrap_u64]; omega
  rw [e1, u64_and_nat x _ hx (by omega), hlow, IntKind.wrap_u64]
  omega
set_option maxHeartbeats 1000000 in
theorem tz_core (x k idx : Nat) (w : World) (hx0 : ((x : Int) == 0) = false)
    (key : IntKind.u64.wrap (bits BinOp.and IntKind.u64 (x : Int) (IntKind.u64.wrap (-(x : Int))) * 285870213051353865) / 288230376151711744 = (idx : Int))
    (hi : idx < 64) (hk : k < 64) (hcell : w.cell? ⟨0, idx, none⟩ = some (.int .u8 k)) :
    Calls Tryd.prog 37 #[.int .u64 x] w (Ret (.int .i64 k) w) := by
  go_enter Tryd.func37, Tryd.ntmps37
  go_wp2_with (simp only [key])
  go_ret
  exact ⟨rfl, rfl⟩
theorem tz_any (x : Nat) (hx : x < 18446744073709551616) (hx0 : x ≠ 0) (w : World) (hT : Tab w) :
    Calls Tryd.prog 37 #[.int .u64 (x : Int)] w (Ret (.int .i64 (Lib.ctz 64 x : Nat)) w) := by
  obtain ⟨hlow, hk⟩ := Lib.lowest_bit 64 x hx0 hx
  obtain ⟨hi, htab⟩ := Lib.deBruijn64_at _ hk
  have hcell := hT _ hi
  rw [htab] at hcell
  exact tz_core x _ _ w (by simp; omega) (tz_key x _ hx hx0 hlow) hi hk hcell

set_option maxHeartbeats 1000000 in
theorem list_any (m : Nat) (hm : m < 18446744073709551616) (w : World) (hT : Tab w) :
    Calls Tryd.prog 26 #[.int .u64 (m : Int)] w (RetI (nodesB 64 m.testBit) w) := by
  have Hm := Lib.hid hm; clear hm
  go_enter Tryd.func26, Tryd.ntmps26
  go_wp2
  go_loopw [0, 3] (fun s v wr => ∃ (z : Nat) (out : List Int), s = .int .u64 z ∧ z < 18446744073709551616 ∧ OwnI wr w.heap.size v out ∧ out ++ nodesB 64 z.testBit = nodesB 64 m.testBit ∧ Below w.heap.size w wr) (fun s _ _ => (intOf s).toNat)
  case atStart => exact ⟨m, [], rfl, Hm.out, OwnI.nil _ _, rfl, Below.refl _ _⟩
  case round =>
    obtain ⟨z, out, rfl, hz, hown, hsum, hbl⟩ := hrel
    have Hs := Lib.hid hsum; have Hz := Lib.hid hz; have Hown := Lib.hid hown; clear hsum hz hown
    by_cases h0 : z = 0
    · subst h0
      go_wp2
      go_ret
      refine RetI.mk ?_ hbl
      have e : nodesB 64 m.testBit = out := by rw [← Hs.out, nodesB_zero, List.append_nil]
      rw [e]; exact Hown.out
    · have hne : ((z : Int) != 0) = true := by simp; omega
      have H0 := Lib.hid h0; clear h0
      have hlen : out.length ≤ 64 := by
        have h1 : (out ++ nodesB 64 z.testBit).length ≤ 64 := by rw [Hs.out]; exact nodesB_length _ _
        rw [List.length_append] at h1; omega
      have hctz := (low_bit z H0.out Hz.out).1
      have e1 : IntKind.u64.wrap ((z : Int) - 1) = ((z - 1 : Nat) : Int) := by have := H0.out; have := Hz.out; rw [IntKind.wrap_u64]; omega
      have e2 : bits .and .u64 (z : Int) ((z - 1 : Nat) : Int) = ((dropLow z : Nat) : Int) := u64_and_nat z (z - 1) Hz.out (by have := Hz.out; omega)
      go_wp2_with (first
        | (go_at_call 37; refine (tz_any z Hz.out H0.out _ (hT.below hbl)).mono ?_; rintro e w' ⟨rfl, rfl⟩)
        | (at_builtin; refine wpList_appI (by rfl) _ _ (by rfl) wr w.heap.size _ out (Lib.ctz 64 z : Nat) Hown.out (by rfl) (by rfl) (by omega) hbl.size ?_; intro v' w1 hown' hb1 _))
      go_roundw
      case rel =>
        refine ⟨dropLow z, out ++ [(Lib.ctz 64 z : Int)], rfl, ?_, hown', ?_, hbl.trans hb1⟩
        · have := dropLow_lt z H0.out; have := Hz.out; omega
        · rw [List.append_assoc, ← Hs.out, nodesB_low z H0.out Hz.out]; rfl
      case measure => have := dropLow_lt z H0.out; simp [intOf]; omega
end Go.Proofs.YtkfocifejoogaaaDoor
