/- admissible: attacked, whole, step, free, sound, mask, list. -/
import Derived.Test.YtkfocifejoogaaaDoorPairs
import Derived.Test.YtkfocifejoogaaaDoorSem
import Derived.Deep.RegionHeld3
namespace Go.Proofs.YtkfocifejoogaaaDoor
open Go.ChangeShapes Go.WideShapes Go.ChangeAt Go.RowKit

set_option maxHeartbeats 400000 in
theorem attacked_any (A : Option Addr) (n : Nat) (l : List (Int × Int)) (c : Nat) (m : Nat) (w : World) (hr : RP w A l) (hv : InR n l) (hm : m < 18446744073709551616) :
    Calls Tryd.prog 39 #[.agg #[.int .i64 (n : Int), .slice A l.length c], .int .u64 (m : Int)] w (RetB (.int .u64 (attN l m : Nat)) w) := by
  have hlen := hv.2.1
  have Hv := Lib.hid hv; clear hv
  go_enter Tryd.func39, Tryd.ntmps39
  go_wp2
  go_loopw [5, 11] (fun v i wr => ∃ k : Nat, k ≤ l.length ∧ v = .int .u64 (attN (l.take k) m : Nat) ∧ i = .int .i64 k ∧ Below w.heap.size w wr) (fun v i _ => l.length - (intOf i).toNat)
  case atStart => exact ⟨0, by omega, by simp [attN], rfl, (Below.refl _ _).alloc (Nat.le_refl _) _⟩
  case round =>
    obtain ⟨k, hk, rfl, rfl, hbl⟩ := hrel
    have hz : attN (l.take k) m < 18446744073709551616 := by
      refine u64_of Hv.out.1 (attN_lt_pow _ _ _ fun p hp => ?_)
      have := Hv.out.2.2 p (List.mem_of_mem_take hp); omega
    generalize hzz : attN (l.take k) m = z at hz ⊢
    have Hz := Lib.hid hzz; have Hzl := Lib.hid hz; clear hzz hz
    by_cases hlt : k < l.length
    · obtain ⟨b, o, rfl, hc, hd⟩ := (hr.below hbl).at_ hlt
      have hv := Hv.out.2.2 l[k] (List.getElem_mem _)
      obtain ⟨v1, v2, v3, v4⟩ := hv
      have hn40 := Hv.out.1
      go_wp2
      go_quiet (fail)
      go_wp2
      go_roundw
      case rel =>
        refine ⟨k + 1, by omega, ?_, by go_num, below_drewN (hbl.alloc hbl.size _) _⟩
        rw [att_step z m l[k] Hzl.out hm (by omega), List.take_succ_eq_append_getElem hlt, attN_snoc, Hz.out]
      case measure => simp [intOf]; omega
    · go_wp2
      go_ret
      refine ⟨?_, hbl⟩
      rw [← Hz.out, List.take_of_length_le (by omega)]
      rfl

set_option maxHeartbeats 400000 in
theorem whole_any (A : Option Addr) (n : Nat) (L c : Nat) (w : World) (hn : n ≤ 40) :
    Calls Tryd.prog 38 #[.agg #[.int .i64 (n : Int), .slice A L c]] w (RetB (.int .u64 (allN n : Nat)) w) := by
  go_enter Tryd.func38, Tryd.ntmps38
  go_wp2
  go_ret
  refine ⟨?_, (Below.refl _ _).alloc (Nat.le_refl _) _⟩
  have h := allN_u64 n (by omega)
  rw [Int.one_mul] at h
  exact ri h

/-- what a call that makes memory leaves of two cells, and of all that was there at W0 -/
theorem keepC {W0 wa wb : World} {a b : Addr} {va vb : Value} (h1 : wa.cell? a = some va) (h2 : wa.cell? b = some vb) (h3 : Below W0.heap.size W0 wa) (hb : Below wa.heap.size wa wb) :
    wb.cell? a = some va ∧ wb.cell? b = some vb ∧ Below W0.heap.size W0 wb :=
  ⟨(hb.cell (lt_of_cell h1)).trans h1, (hb.cell (lt_of_cell h2)).trans h2, h3.trans (hb.mono h3.size)⟩

theorem endB {w W0 w' : World} (h : Below w.heap.size w W0) (k : Below W0.heap.size W0 w') : Below w.heap.size w w' := h.trans (k.mono h.size)
theorem leB {w W0 w' : World} (h : Below w.heap.size w W0) (k : Below W0.heap.size W0 w') : w.heap.size ≤ w'.heap.size := Nat.le_trans h.size k.size
theorem boxed (w : World) (t : TypeId) (x y : Value) : ∃ W0, w.alloc (.cells #[x, y] t) = W0 ∧ W0.cell? ⟨w.heap.size, 0, none⟩ = some x ∧ W0.cell? ⟨w.heap.size, 1, none⟩ = some y ∧ Below w.heap.size w W0 ∧ w.heap.size < W0.heap.size :=
  ⟨_, rfl, by rw [(Blk.new w t #[x, y]).cell]; rfl, by rw [(Blk.new w t #[x, y]).cell]; rfl, (Below.refl _ _).alloc (Nat.le_refl _) _, by simp⟩

set_option maxHeartbeats 1000000 in
theorem step_any (A : Option Addr) (n : Nat) (l : List (Int × Int)) (c : Nat) (m : Nat) (w : World) (hr : RP w A l) (hv : InR n l) (hm : m < 18446744073709551616) :
    Calls Tryd.prog 27 #[.agg #[.int .i64 (n : Int), .slice A l.length c], .int .u64 (m : Int)] w (RetB (.int .u64 (stepN n l m : Nat)) w) := by
  have hn := hv.1
  go_enter Tryd.func27, Tryd.ntmps27
  go_wp2_with fail
  obtain ⟨W0, hW, c0, c1, hb0, hlt0⟩ := boxed w 27 (.int .i64 (n : Int)) (.slice A l.length c)
  rw [hW]
  have hr0 := hr.below hb0
  clear hW hr
  have ha1 := attN_u64 hv m
  have ha2 := attN_u64 hv (minusN (allN n) (attN l m))
  have e1 := u64_minus (allN n) (attN l m) (u64_of hn (allN_lt n)) (u64_of hn ha1)
  have e2 := u64_minus (allN n) (attN l (minusN (allN n) (attN l m))) (u64_of hn (allN_lt n)) (u64_of hn ha2)
  have hm2 : minusN (allN n) (attN l m) < 18446744073709551616 := Nat.lt_of_le_of_lt (minusN_le _ _) (u64_of hn (allN_lt n))
  go_region_held3 (fun w' => w'.cell? ⟨w.heap.size, 0, none⟩ = some (.int .i64 (n : Int)) ∧ w'.cell? ⟨w.heap.size, 1, none⟩ = some (.slice A l.length c) ∧ Below W0.heap.size W0 w')
    (first | exact ⟨c0, c1, (Below.refl _ _).drew⟩ | (go_split_ands; exact keepC (by assumption) (by assumption) (by assumption) (by assumption)))
    (first | (go_at_call 38; refine (whole_any _ _ _ _ _ hn).mono ?_; rintro e w' ⟨rfl, hbb⟩) | (go_at_call 39; go_split_ands; refine (attacked_any _ _ _ _ _ _ (hr0.below (by assumption)) hv (by assumption)).mono ?_; rintro e w' ⟨rfl, hbb⟩))
  go_wp2
  go_ret
  go_split_ands
  exact ⟨rfl, endB hb0 (by assumption)⟩
end Go.Proofs.YtkfocifejoogaaaDoor
