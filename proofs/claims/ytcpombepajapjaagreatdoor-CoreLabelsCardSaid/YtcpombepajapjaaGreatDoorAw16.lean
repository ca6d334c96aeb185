/- law16.awake. -/
import Derived.Test.YtcpombepajapjaaGreatDoorCor
import Derived.Test.YtcpombepajapjaaGreatDoorAw15
namespace Go.Proofs.YtcpombepajapjaaGreatDoor
open Go.ChangeShapes Go.WideShapes Go.ChangeAt Go.RowKit

theorem g16_ideal : coreR prefP 3 g15 = ([3, 3, 3], 0) := by unfold coreR; rw [g15_pref]; decide +kernel
theorem g16_eager : coreR semiP 3 g15 = ([2, 1, 2], 0) := by unfold coreR; rw [g15_semi]; decide +kernel
theorem g16_common : commonL [[1, 1], [2, 1]] = [1] := by decide +kernel

theorem lit22 (w : World) (a b d e : Int) : ∃ W, ((w.alloc (.cells #[.int .i64 a, .int .i64 b] 3)).alloc (.cells #[.int .i64 d, .int .i64 e] 3)).alloc (.cells #[.slice (some ⟨w.heap.size, 0, none⟩) 2 2, .slice (some ⟨w.heap.size + 1, 0, none⟩) 2 2] 26) = W ∧ RS W (some ⟨w.heap.size + 1 + 1, 0, none⟩) [[a, b], [d, e]] ∧ Below w.heap.size w W := by
  refine ⟨_, rfl, ?_, ((((Below.refl _ _).alloc (Nat.le_refl _) _).alloc (by simp) _).alloc (by simp; omega) _)⟩
  have s1 : (w.alloc (.cells #[.int .i64 a, .int .i64 b] 3)).heap.size = w.heap.size + 1 := by simp
  have s2 : ((w.alloc (.cells #[.int .i64 a, .int .i64 b] 3)).alloc (.cells #[.int .i64 d, .int .i64 e] 3)).heap.size = w.heap.size + 1 + 1 := by simp
  have h1 := new_ri2 w 3 a b
  have h2 := new_ri2 (w.alloc (.cells #[.int .i64 a, .int .i64 b] 3)) 3 d e
  rw [s1] at h2
  have := rs_new2 (c1 := 2) (c2 := 2) _ (h1.below (newB _ _)) h2
  rw [s2] at this
  exact this

set_option maxRecDepth 100000 in
set_option maxHeartbeats 4000000 in
theorem awake16_any (w : World) (hT : Tab w) : Calls Tryz.prog 17 #[] w (RetB (.bool true) w) := by
  go_enter Tryz.func17, Tryz.ntmps17
  go_wp2_with fail
  obtain ⟨W0, hW, hrp, c0, c1, hb0⟩ := lit_g15 w
  rw [hW]
  clear hW
  have h1 := xIdeal_any (some ⟨w.heap.size, 0, none⟩) 3 g15 4 W0 hrp (by decide) (hT.below hb0)
  rw [g16_ideal] at h1
  have h1' : Calls Tryz.prog 8 #[.agg #[.int .i64 3, .slice (some ⟨w.heap.size, 0, none⟩) 4 4]] W0 (RetE [3, 3, 3] 0 W0) := h1
  have H1 := Lib.hid h1'
  clear h1 h1'
  refine H1.out.mono ?_
  rintro e w1 ⟨A1, k1, rfl, _, hr1, _, hb1⟩
  have d0 := (hb1.cell (lt_of_cell c0)).trans c0
  have d1 := (hb1.cell (lt_of_cell c1)).trans c1
  have hb01 := endB hb0 hb1
  have h2 := xEager_any (some ⟨w.heap.size, 0, none⟩) 3 g15 4 w1 (hrp.below hb1) (by decide) (hT.below hb01)
  rw [g16_eager] at h2
  have h2' : Calls Tryz.prog 10 #[.agg #[.int .i64 3, .slice (some ⟨w.heap.size, 0, none⟩) 4 4]] w1 (RetE [2, 1, 2] 0 w1) := h2
  have H2 := Lib.hid h2'; have Hr1 := Lib.hid hr1
  clear h2 h2' hr1 H1 c0 c1
  go_wp2_with fail
  refine H2.out.mono ?_
  rintro e w2 ⟨A2, k2, rfl, _, hr2, _, hb2⟩
  have hb02 := endB hb01 hb2
  have Hr2 := Lib.hid hr2; have Hr12 := Lib.hid (Hr1.out.below hb2)
  clear hr2 H2 d0 d1 Hr1
  go_wp2_with fail
  have H3 := ints_any A1 (some ⟨w2.heap.size, 0, none⟩) [3, 3, 3] [3, 3, 3] k1 3 (w2.alloc (.cells #[.int .i64 3, .int .i64 3, .int .i64 3] 3)) (by decide) (by decide) (Hr12.out.below (newB _ _)) (new_ri3 _ _ _ _ _)
  rw [show eqB [3, 3, 3] [3, 3, 3] = true by decide] at H3
  have H3' := Lib.hid H3
  clear H3
  refine H3'.out.mono ?_
  clear H3'
  rintro e w3 ⟨rfl, hq3⟩
  have hb23 := thenB (newB w2 (.cells #[.int .i64 3, .int .i64 3, .int .i64 3] 3)) (RetQ.below (v := .bool true) ⟨rfl, hq3⟩).2
  have hb03 := endB hb02 hb23
  have Hr3 := Lib.hid (Hr2.out.below hb23)
  clear hq3 Hr12 Hr2 hb23
  go_wp2_with fail
  have H4 := ints_any A2 (some ⟨w3.heap.size, 0, none⟩) [2, 1, 2] [2, 1, 2] k2 3 (w3.alloc (.cells #[.int .i64 2, .int .i64 1, .int .i64 2] 3)) (by decide) (by decide) (Hr3.out.below (newB _ _)) (new_ri3 _ _ _ _ _)
  rw [show eqB [2, 1, 2] [2, 1, 2] = true by decide] at H4
  have H4' := Lib.hid H4
  clear H4
  refine H4'.out.mono ?_
  clear H4'
  rintro e w4 ⟨rfl, hq4⟩
  have hb34 := thenB (newB w3 (.cells #[.int .i64 2, .int .i64 1, .int .i64 2] 3)) (RetQ.below (v := .bool true) ⟨rfl, hq4⟩).2
  have hb04 := endB hb03 hb34
  clear hq4 Hr3 hb34
  go_wp2_with fail
  obtain ⟨W5, hW5, hrs5, hb5⟩ := lit22 w4 1 1 2 1
  rw [hW5]
  clear hW5
  have h5 := xCommon_any (some ⟨w4.heap.size + 1 + 1, 0, none⟩) [[1, 1], [2, 1]] 2 W5 hrs5 (by decide) (by decide)
  rw [g16_common] at h5
  have h5' : Calls Tryz.prog 15 #[.slice (some ⟨w4.heap.size + 1 + 1, 0, none⟩) 2 2] W5 (RetI [1] W5) := h5
  have H5 := Lib.hid h5'
  clear h5 h5'
  refine H5.out.mono ?_
  clear H5
  rintro e w6 ⟨A6, c6, rfl, _, hr6, _, hb6⟩
  have hb06 := endB hb04 (endB hb5 hb6)
  go_wp2_with fail
  have H6 := ints_any A6 (some ⟨w6.heap.size, 0, none⟩) [1] [1] c6 1 (w6.alloc (.cells #[.int .i64 1] 3)) (by decide) (by decide) (hr6.below (newB _ _)) (new_ri1 _ _ _)
  rw [show eqB [1] [1] = true by decide] at H6
  have H6' := Lib.hid H6
  clear H6
  refine H6'.out.mono ?_
  clear H6'
  rintro e w7 ⟨rfl, hq7⟩
  have hb67 := thenB (newB w6 (.cells #[.int .i64 1] 3)) (RetQ.below (v := .bool true) ⟨rfl, hq7⟩).2
  go_wp2_with fail
  go_ret
  exact ⟨rfl, endB hb06 hb67⟩
end Go.Proofs.YtcpombepajapjaaGreatDoor
