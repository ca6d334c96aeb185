/- law14: the walk of SearchLimits. -/
import Derived.Test.YtajocnhebfpjaaaDoorAwN
namespace Go.Proofs.YtajocnhebfpjaaaDoor
open Go.ChangeShapes Go.WideShapes Go.ChangeAt Go.RowKit

def pw (b j : Nat) : Nat := b ^ j
theorem pw_zero (b : Nat) : pw b 0 = 1 := rfl
theorem pw_succ (b j : Nat) : pw b (j + 1) = b * pw b j := by unfold pw; rw [Nat.pow_succ, Nat.mul_comm]
theorem pw_le {j : Nat} (h : j ≤ 8) : pw 3 j ≤ 6561 ∧ pw 2 j ≤ 256 := by
  have : ∀ j : Fin 9, pw 3 j.val ≤ 6561 ∧ pw 2 j.val ≤ 256 := by decide
  exact this ⟨j, by omega⟩

set_option maxRecDepth 100000 in
set_option maxHeartbeats 8000000 in
theorem limits_law_any (x : Int) (w : World) (hT : Tab w) :
    Calls Tryd.prog 5 #[.int .i64 x] w (RetB (.bool true) w) := by
  obtain ⟨hm1, hm2⟩ := modI_range x 8 (by omega)
  obtain ⟨m, hm⟩ := Int.eq_ofNat_of_zero_le hm1
  have Hm := Lib.hid hm
  obtain ⟨k, hk⟩ : ∃ k, m + 1 = k := ⟨_, rfl⟩
  have hk8 : k ≤ 8 := by omega
  have hkk : (1 : Int) + (m : Int) = (k : Int) := by omega
  have hvl := prL_vld k (by omega)
  have hv : valE ((2 * k : Nat) : Int) (prL k) = 0 := hvl.valE
  have hcr := compR_ok hv
  have hnr := navR_ok hv
  have hcl := pr_comp k (by omega)
  have hnl := pr_nav k (by omega)
  have hpl := prL_length k
  have hc2 : (200 < pw 3 k ∧ compR ((2 * k : Nat) : Int) (prL k) = ([], 2)) ∨ (¬ 200 < pw 3 k ∧ ∃ L, compR ((2 * k : Nat) : Int) (prL k) = (L, 0) ∧ L.length = pw 3 k) := by
    rw [hcr, hcl]
    by_cases h : 200 < 3 ^ k
    · rw [if_pos h]; exact .inl ⟨h, rfl⟩
    · rw [if_neg h]; exact .inr ⟨h, _, rfl, hcl⟩
  have hn2 : (200 < pw 2 k ∧ navR ((2 * k : Nat) : Int) (prL k) = ([], 2)) ∨ (¬ 200 < pw 2 k ∧ ∃ L, navR ((2 * k : Nat) : Int) (prL k) = (L, 0) ∧ L.length = pw 2 k) := by
    rw [hnr, hnl]
    by_cases h : 200 < 2 ^ k
    · rw [if_pos h]; exact .inl ⟨h, rfl⟩
    · rw [if_neg h]; exact .inr ⟨h, _, rfl, by rw [List.length_map]; exact hnl⟩
  have hpp := pairs_any k (by omega) w
  obtain ⟨N, hN⟩ : ∃ N : Int, ((2 * k : Nat) : Int) = N := ⟨_, rfl⟩
  rw [hN] at hc2 hn2 hpp
  have Hc2 := Lib.hid hc2; have Hn2 := Lib.hid hn2; have Hpp := Lib.hid hpp
  have hle1 : (prL k).length ≤ 100000 := by omega
  clear hm hcr hnr hcl hnl hc2 hn2 hv hpp hpl hvl hN
  have hp0 := fun j (h : j ≤ 8) => pw_le h
  have Hp0 := Lib.hid hp0
  clear hp0
  go_enter Tryd.func5, Tryd.ntmps5
  go_wp2_with fail
  refine (mod_any x 8 w (by omega) (by omega)).mono ?_
  rintro e w1 ⟨rfl, rfl⟩
  rw [Hm.out]
  go_wp2_with fail
  refine Hpp.out.mono ?_
  rintro e w1 ⟨A1, c1, rfl, hr1, _, hb1⟩
  go_upto_region 4 with fail
  obtain ⟨W0, hW, d0, d1, hb0, hlt0⟩ := boxed w1 24 (.int .i64 N) (.slice A1 (prL k).length c1)
  rw [hW]
  clear hW
  have hb01 := endB hb1 hb0
  have hr0 := hr1.below hb0
  have hc1 := complete_any A1 N (prL k) c1 W0 hr0 hle1 (hT.below hb01)
  have Hc1 := Lib.hid hc1
  clear hc1
  go_wp2_with fail
  go_loopw [4, 5, 6] (fun s4 s5 s6 wr => ∃ j : Nat, j ≤ k ∧ s6 = .int .i64 j ∧ s4 = .int .i64 (pw 3 j : Nat) ∧ s5 = .int .i64 (pw 2 j : Nat) ∧ wr = W0) (fun _ _ s6 _ => k - (intOf s6).toNat)
  case atStart => exact ⟨0, Nat.zero_le _, rfl, rfl, rfl, rfl⟩
  case round =>
    obtain ⟨j, hj, rfl, rfl, rfl, rfl⟩ := hrel
    by_cases hjk : j < k
    case pos =>
      have hjk' : (j : Int) < (k : Int) := by omega
      obtain ⟨p1, p2⟩ := Hp0.out j (by omega)
      have hs3 : (3 : Int) * (pw 3 j : Int) = (pw 3 (j + 1) : Nat) := by rw [pw_succ]; omega
      have hs2 : (2 : Int) * (pw 2 j : Int) = (pw 2 (j + 1) : Nat) := by rw [pw_succ]; omega
      have Hs3 := Lib.hid hs3; have Hs2 := Lib.hid hs2
      clear hs3 hs2
      go_wp2_with fail
      go_roundw
      case rel => exact ⟨j + 1, by omega, by go_num, by rw [← Hs3.out], by rw [← Hs2.out], by first | trivial | rfl⟩
      case measure => simp [intOf]; omega
    case neg =>
    obtain rfl : j = k := by omega
    clear hjk hj
    obtain ⟨p1, p2⟩ := Hp0.out j (by omega)
    obtain ⟨t3, h3⟩ : ∃ t3, pw 3 j = t3 := ⟨_, rfl⟩
    obtain ⟨t2, h2⟩ : ∃ t2, pw 2 j = t2 := ⟨_, rfl⟩
    rw [h3] at p1 Hc2 ⊢
    rw [h2] at p2 Hn2 ⊢
    clear h3 h2
    go_wp2_with fail
    refine Hc1.out.mono ?_
    rintro e w2 ⟨A2, c2, rfl, _, _, hb2⟩
    have hb02 := endB hb01 hb2
    have e0 := (hb2.cell (lt_of_cell d0)).trans d0
    have e1 := (hb2.cell (lt_of_cell d1)).trans d1
    have hn1 := naive_any A1 N (prL j) c1 w2 (hr0.below hb2) hle1 (hT.below hb02)
    have Hn1 := Lib.hid hn1
    clear hn1 Hc1
    rcases Hc2.out with ⟨g3, hE⟩ | ⟨g3, L, hE, hL⟩ <;> rcases Hn2.out with ⟨g2, hF⟩ | ⟨g2, M, hF, hM⟩
    · have dt3 : decide ((200 : Int) < (t3 : Int)) = true := by rw [decide_eq_true_iff]; omega
      have ft3 : (200 : Int) < (t3 : Int) := by omega
      have dt2 : decide ((200 : Int) < (t2 : Int)) = true := by rw [decide_eq_true_iff]; omega
      have ft2 : (200 : Int) < (t2 : Int) := by omega
      rw [hE]
      clear g3 g2
      go_wp2_with fail
      refine Hn1.out.mono ?_
      rintro e w3 ⟨A3, c3, rfl, _, _, hb3⟩
      rw [hF]
      have hb03 := endB hb02 hb3
      clear e0 e1 d0 d1
      go_wp2_with fail
      refine (awake14_any w3 (hT.below hb03)).mono ?_
      rintro e w4 ⟨rfl, hb4⟩
      go_wp2_with fail
      go_ret
      exact ⟨rfl, endB hb03 hb4⟩
    · have dt3 : decide ((200 : Int) < (t3 : Int)) = true := by rw [decide_eq_true_iff]; omega
      have ft3 : (200 : Int) < (t3 : Int) := by omega
      have dt2 : decide ((200 : Int) < (t2 : Int)) = false := by rw [decide_eq_false_iff_not]; omega
      have ft2 : ¬ (200 : Int) < (t2 : Int) := by omega
      have lt2 : ((M.length : Int) == (t2 : Int)) = true := by rw [hM]; simp
      rw [hE]
      clear g3 g2 hM
      go_wp2_with fail
      refine Hn1.out.mono ?_
      rintro e w3 ⟨A3, c3, rfl, _, _, hb3⟩
      rw [hF]
      have hb03 := endB hb02 hb3
      clear e0 e1 d0 d1
      go_wp2_with fail
      refine (awake14_any w3 (hT.below hb03)).mono ?_
      rintro e w4 ⟨rfl, hb4⟩
      go_wp2_with fail
      go_ret
      exact ⟨rfl, endB hb03 hb4⟩
    · have dt3 : decide ((200 : Int) < (t3 : Int)) = false := by rw [decide_eq_false_iff_not]; omega
      have ft3 : ¬ (200 : Int) < (t3 : Int) := by omega
      have lt3 : ((L.length : Int) == (t3 : Int)) = true := by rw [hL]; simp
      have dt2 : decide ((200 : Int) < (t2 : Int)) = true := by rw [decide_eq_true_iff]; omega
      have ft2 : (200 : Int) < (t2 : Int) := by omega
      rw [hE]
      clear g3 g2 hL
      go_wp2_with fail
      refine Hn1.out.mono ?_
      rintro e w3 ⟨A3, c3, rfl, _, _, hb3⟩
      rw [hF]
      have hb03 := endB hb02 hb3
      clear e0 e1 d0 d1
      go_wp2_with fail
      refine (awake14_any w3 (hT.below hb03)).mono ?_
      rintro e w4 ⟨rfl, hb4⟩
      go_wp2_with fail
      go_ret
      exact ⟨rfl, endB hb03 hb4⟩
    · have dt3 : decide ((200 : Int) < (t3 : Int)) = false := by rw [decide_eq_false_iff_not]; omega
      have ft3 : ¬ (200 : Int) < (t3 : Int) := by omega
      have lt3 : ((L.length : Int) == (t3 : Int)) = true := by rw [hL]; simp
      have dt2 : decide ((200 : Int) < (t2 : Int)) = false := by rw [decide_eq_false_iff_not]; omega
      have ft2 : ¬ (200 : Int) < (t2 : Int) := by omega
      have lt2 : ((M.length : Int) == (t2 : Int)) = true := by rw [hM]; simp
      rw [hE]
      clear g3 g2 hL hM
      go_wp2_with fail
      refine Hn1.out.mono ?_
      rintro e w3 ⟨A3, c3, rfl, _, _, hb3⟩
      rw [hF]
      have hb03 := endB hb02 hb3
      clear e0 e1 d0 d1
      go_wp2_with fail
      refine (awake14_any w3 (hT.below hb03)).mono ?_
      rintro e w4 ⟨rfl, hb4⟩
      go_wp2_with fail
      go_ret
      exact ⟨rfl, endB hb03 hb4⟩
end Go.Proofs.YtajocnhebfpjaaaDoor
