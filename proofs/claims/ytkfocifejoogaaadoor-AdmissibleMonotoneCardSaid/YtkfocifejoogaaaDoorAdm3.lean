/- admissible: mask, Valid, free, sound, and the properties handed to holds. -/
import Derived.Test.YtkfocifejoogaaaDoorAdm2
namespace Go.Proofs.YtkfocifejoogaaaDoor
open Go.ChangeShapes Go.WideShapes Go.ChangeAt Go.RowKit

/-- a list as a set -/
def maskN (l : List Int) : Nat := l.foldl (fun z x => z ||| 1 <<< x.toNat) 0
theorem maskN_snoc (l : List Int) (x : Int) : maskN (l ++ [x]) = maskN l ||| 1 <<< x.toNat := by simp [maskN, List.foldl_append]
theorem testBit_maskN (l : List Int) (j : Nat) : (maskN l).testBit j = l.any (fun x => decide (x.toNat = j)) := by
  suffices h : ∀ z, (l.foldl (fun z (x : Int) => z ||| 1 <<< x.toNat) z).testBit j = (z.testBit j || l.any (fun x => decide (x.toNat = j))) by
    have := h 0; simpa [maskN] using this
  induction l with
  | nil => intro z; simp
  | cons p l ih => intro z; rw [List.foldl_cons, List.any_cons, ih, Nat.testBit_or, Nat.one_shiftLeft, Nat.testBit_two_pow, Bool.or_assoc]
theorem maskN_lt (l : List Int) (n : Nat) (h : ∀ x ∈ l, x.toNat < n) : maskN l < 2 ^ n := by
  apply Nat.lt_pow_two_of_testBit
  intro j hj
  rw [testBit_maskN, List.any_eq_false]
  intro x hx
  have := h x hx
  simp; omega

set_option maxHeartbeats 400000 in
theorem mask_any (A : Option Addr) (l : List Int) (c : Nat) (w : World) (hr : RI w A l) (hl : l.length ≤ 100000) (hv : ∀ x ∈ l, 0 ≤ x ∧ x < 64) :
    Calls Tryd.prog 28 #[.slice A l.length c] w (Ret (.int .u64 (maskN l : Nat)) w) := by
  have Hv := Lib.hid hv; clear hv
  go_enter Tryd.func28, Tryd.ntmps28
  go_wp2
  go_loop [3, 8] (fun v i => ∃ k : Nat, k ≤ l.length ∧ v = .int .u64 (maskN (l.take k) : Nat) ∧ i = .int .i64 k) (fun v i => l.length - (intOf i).toNat)
  case atStart => exact ⟨0, by omega, by simp [maskN], rfl⟩
  case round =>
    obtain ⟨k, hk, rfl, rfl⟩ := hrel
    have hz : maskN (l.take k) < 18446744073709551616 := by
      have := maskN_lt (l.take k) 64 fun x hx => by have := Hv.out x (List.mem_of_mem_take hx); omega
      omega
    generalize hzz : maskN (l.take k) = z at hz ⊢
    have Hz := Lib.hid hzz; have Hzl := Lib.hid hz; clear hzz hz
    by_cases hlt : k < l.length
    · obtain ⟨b, o, rfl, hc⟩ := hr.at_ hlt
      obtain ⟨v1, v2⟩ := Hv.out l[k] (List.getElem_mem _)
      go_wp2
      go_round
      case rel =>
        refine ⟨k + 1, by omega, ?_, by go_num⟩
        have h1 := u64_one_shl l[k].toNat (by omega)
        rw [Int.one_mul] at h1
        have h3 : 1 <<< l[k].toNat < 18446744073709551616 := by rw [Nat.one_shiftLeft]; exact two_pow_u64 (by omega)
        rw [h1, u64_or_nat _ _ Hzl.out h3, List.take_succ_eq_append_getElem hlt, maskN_snoc, Hz.out]
      case measure => simp [intOf]; omega
    · go_wp2
      go_ret
      refine ⟨?_, rfl⟩
      rw [← Hz.out, List.take_of_length_le (by omega)]
      rfl

/-- the list is a set of nodes below N: strictly ascending -/
def setB (N : Int) (l : List Int) : Bool := decide (∀ k, k < l.length → (0 ≤ l.getD k 0 ∧ l.getD k 0 < N) ∧ (0 < k → l.getD (k - 1) 0 < l.getD k 0))
theorem setB_iff (N : Int) (l : List Int) : setB N l = true ↔ ∀ k, k < l.length → (0 ≤ l.getD k 0 ∧ l.getD k 0 < N) ∧ (0 < k → l.getD (k - 1) 0 < l.getD k 0) := by unfold setB; exact decide_eq_true_iff
theorem setB_miss {N : Int} {l : List Int} {k : Nat} (h : k < l.length) (hx : ¬ ((0 ≤ l.getD k 0 ∧ l.getD k 0 < N) ∧ (0 < k → l.getD (k - 1) 0 < l.getD k 0))) : setB N l = false := by
  cases hb : setB N l
  · rfl
  · rw [setB_iff] at hb; exact absurd (hb k h) hx

set_option maxHeartbeats 1000000 in
theorem aValid_any (G : Value) (N : Int) (A : Option Addr) (l : List Int) (c : Nat) (w : World) (hr : RI w A l) (hl : l.length ≤ 100000) :
    Calls Tryd.prog 25 #[.agg #[.int .i64 N, G], .slice A l.length c] w (RetB (.bool (setB N l)) w) := by
  go_enter Tryd.func25, Tryd.ntmps25
  go_wp2_with fail
  obtain ⟨W0, hW, c0, c1, hb0, hlt0⟩ := boxed w 27 (.int .i64 N) G
  rw [hW]
  have hr0 := hr.below hb0
  clear hW hr
  go_loop [9] (fun i => ∃ k : Nat, k ≤ l.length ∧ i = .int .i64 k ∧ ∀ j, j < k → (0 ≤ l.getD j 0 ∧ l.getD j 0 < N) ∧ (0 < j → l.getD (j - 1) 0 < l.getD j 0)) (fun i => l.length - (intOf i).toNat)
  case atStart => exact ⟨0, by omega, rfl, fun j hj => absurd hj (by omega)⟩
  case round =>
    obtain ⟨k, hk, rfl, hall⟩ := hrel
    have Hall := Lib.hid hall; clear hall
    by_cases hlt : k < l.length
    · obtain ⟨b, o, rfl, hc⟩ := hr0.at_ hlt
      have hg : l.getD k 0 = l[k] := by simp [List.getD, hlt]
      have Hg := Lib.hid hg; clear hg
      by_cases h1 : l[k] < 0
      · go_wp2
        go_ret
        exact ⟨rb (setB_miss hlt (fun h => by have := h.1.1; rw [Hg.out] at this; omega)).symm, hb0⟩
      · have h1' : 0 ≤ l[k] := by omega
        clear h1
        by_cases h2 : N ≤ l[k]
        · go_wp2
          go_ret
          exact ⟨rb (setB_miss hlt (fun h => by have := h.1.2; rw [Hg.out] at this; omega)).symm, hb0⟩
        · have h2' : l[k] < N := by omega
          clear h2
          by_cases h3 : 0 < k
          · obtain ⟨j, hj⟩ : ∃ j, k = j + 1 := ⟨k - 1, by omega⟩
            subst hj
            have hjl : j < l.length := by omega
            obtain ⟨b', o', hA, hc'⟩ := hr0.at_ hjl
            injection hA with hA
            injection hA with hb ho
            subst hb ho
            have hg2 : l.getD j 0 = l[j] := by simp [List.getD, hjl]
            have Hg2 := Lib.hid hg2; clear hg2
            by_cases h4 : l[j + 1] ≤ l[j]
            · go_wp2
              go_ret
              exact ⟨rb (setB_miss hlt (fun h => by have := h.2 (by omega); rw [Hg.out, Nat.add_sub_cancel, Hg2.out] at this; omega)).symm, hb0⟩
            · have h4' : l[j] < l[j + 1] := by omega
              clear h4
              go_wp2
              go_round
              case rel =>
                refine ⟨j + 1 + 1, by omega, by go_num, fun i hi => ?_⟩
                by_cases e : i < j + 1
                · exact Hall.out i e
                · obtain rfl : i = j + 1 := by omega
                  exact ⟨⟨by rw [Hg.out]; exact h1', by rw [Hg.out]; exact h2'⟩, fun _ => by rw [Hg.out, Nat.add_sub_cancel, Hg2.out]; exact h4'⟩
              case measure => simp [intOf]; omega
          · have hk0 : k = 0 := by omega
            subst hk0
            have hc0 : W0.cell? ⟨b, o, none⟩ = some (.int .i64 l[0]) := by simpa using hc
            clear hc
            go_wp2
            go_round
            case rel =>
              refine ⟨1, by omega, by go_num, fun i hi => ?_⟩
              obtain rfl : i = 0 := by omega
              exact ⟨⟨by rw [Hg.out]; exact h1', by rw [Hg.out]; exact h2'⟩, fun h => absurd h (by omega)⟩
            case measure => simp [intOf]; omega
    · go_wp2
      go_ret
      exact ⟨rb ((setB_iff _ _).2 (fun j hj => Hall.out j (by omega))).symm, hb0⟩
end Go.Proofs.YtkfocifejoogaaaDoor
