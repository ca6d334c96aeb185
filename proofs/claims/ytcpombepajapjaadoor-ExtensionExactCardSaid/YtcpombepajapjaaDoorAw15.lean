/- law15.awake: the plain values. -/
import Derived.Test.YtcpombepajapjaaDoorRfv
namespace Go.Proofs.YtcpombepajapjaaDoor
open Go.ChangeShapes Go.WideShapes Go.ChangeAt Go.RowKit

/-- the graph of law15's awake -/
def g15 : List (Int × Int) := [(0, 1), (1, 0), (1, 2), (2, 2)]
theorem g15_val : valE 3 g15 = 0 := by decide +kernel
theorem g15_comp : compL 3 g15 = [[1, 2, 3], [2, 1, 2], [3, 3, 3]] := by decide +kernel
theorem g15_compR : compR 3 g15 = ([[1, 2, 3], [2, 1, 2], [3, 3, 3]], 0) := by
  rw [show (3 : Int) = ((3 : Nat) : Int) from rfl, compR_ok (by exact g15_val), g15_comp]; rfl
theorem g15_pref : bestR prefP 3 g15 = ([[1, 2, 3], [2, 1, 2]], 0) := by unfold bestR; rw [g15_compR]; decide +kernel
theorem g15_stab : bestR stabP 3 g15 = ([[2, 1, 2]], 0) := by unfold bestR; rw [g15_compR]; decide +kernel
theorem g15_semi : bestR semiP 3 g15 = ([[2, 1, 2]], 0) := by unfold bestR; rw [g15_compR]; decide +kernel
theorem g15_some : ([[1, 2, 3], [2, 1, 2]].any fun x => atB x 0) = true := by decide +kernel
theorem g15_all : ([[1, 2, 3], [2, 1, 2]].all fun x => atB x 0) = false := by decide +kernel

theorem lit23 (w : World) (a b c d e f : Int) : ∃ W, ((w.alloc (.cells #[.int .i64 a, .int .i64 b, .int .i64 c] 3)).alloc (.cells #[.int .i64 d, .int .i64 e, .int .i64 f] 3)).alloc (.cells #[.slice (some ⟨w.heap.size, 0, none⟩) 3 3, .slice (some ⟨w.heap.size + 1, 0, none⟩) 3 3] 22) = W ∧ RS W (some ⟨w.heap.size + 1 + 1, 0, none⟩) [[a, b, c], [d, e, f]] ∧ Below w.heap.size w W := by
  refine ⟨_, rfl, ?_, ((((Below.refl _ _).alloc (Nat.le_refl _) _).alloc (by simp) _).alloc (by simp; omega) _)⟩
  have s1 : (w.alloc (.cells #[.int .i64 a, .int .i64 b, .int .i64 c] 3)).heap.size = w.heap.size + 1 := by simp
  have s2 : ((w.alloc (.cells #[.int .i64 a, .int .i64 b, .int .i64 c] 3)).alloc (.cells #[.int .i64 d, .int .i64 e, .int .i64 f] 3)).heap.size = w.heap.size + 1 + 1 := by simp
  have h3 : ∀ (w : World) (a b c : Int), RI (w.alloc (.cells #[.int .i64 a, .int .i64 b, .int .i64 c] 3)) (some ⟨w.heap.size, 0, none⟩) [a, b, c] := by
    intro w a b c k hk
    refine ⟨w.heap.size, 0, rfl, ?_⟩
    rw [(Blk.new w 3 #[.int .i64 a, .int .i64 b, .int .i64 c]).cell]
    match k, hk with
    | 0, _ => rfl
    | 1, _ => rfl
    | 2, _ => rfl
  have h1 := h3 w a b c
  have h2 := h3 (w.alloc (.cells #[.int .i64 a, .int .i64 b, .int .i64 c] 3)) d e f
  rw [s1] at h2
  have := rs_new2 (c1 := 3) (c2 := 3) _ (h1.below (newB _ _)) h2
  rw [s2] at this
  exact this
theorem lit_g15 (w : World) : ∃ W, (w.alloc (.cells #[.int .i64 0, .int .i64 1, .int .i64 1, .int .i64 0, .int .i64 1, .int .i64 2, .int .i64 2, .int .i64 2] 30)).alloc (.cells #[.int .i64 3, .slice (some ⟨w.heap.size, 0, none⟩) 4 4] 28) = W ∧ RP W (some ⟨w.heap.size, 0, none⟩) g15 ∧ W.cell? ⟨w.heap.size + 1, 0, none⟩ = some (.int .i64 3) ∧ W.cell? ⟨w.heap.size + 1, 1, none⟩ = some (.slice (some ⟨w.heap.size, 0, none⟩) 4 4) ∧ Below w.heap.size w W := by
  have s1 : (w.alloc (.cells #[.int .i64 0, .int .i64 1, .int .i64 1, .int .i64 0, .int .i64 1, .int .i64 2, .int .i64 2, .int .i64 2] 30)).heap.size = w.heap.size + 1 := by simp
  have h0 : RP (w.alloc (.cells #[.int .i64 0, .int .i64 1, .int .i64 1, .int .i64 0, .int .i64 1, .int .i64 2, .int .i64 2, .int .i64 2] 30)) (some ⟨w.heap.size, 0, none⟩) g15 := by
    intro k hk
    refine ⟨w.heap.size, 0, rfl, ?_⟩
    rw [(Blk.new w 30 _).cell, (Blk.new w 30 _).cell]
    match k, hk with
    | 0, _ => exact ⟨rfl, rfl⟩
    | 1, _ => exact ⟨rfl, rfl⟩
    | 2, _ => exact ⟨rfl, rfl⟩
    | 3, _ => exact ⟨rfl, rfl⟩
  obtain ⟨W, hW, c0, c1, hb, _⟩ := boxed (w.alloc (.cells #[.int .i64 0, .int .i64 1, .int .i64 1, .int .i64 0, .int .i64 1, .int .i64 2, .int .i64 2, .int .i64 2] 30)) 28 (.int .i64 3) (.slice (some ⟨w.heap.size, 0, none⟩) 4 4)
  rw [s1] at c0 c1
  exact ⟨W, hW, h0.below hb, c0, c1, endB (newB _ _) hb⟩

set_option maxRecDepth 100000 in
set_option maxHeartbeats 4000000 in
theorem awake15_any (w : World) (hT : Tab w) : Calls Tryd.prog 14 #[] w (RetB (.bool true) w) := by
  go_enter Tryd.func14, Tryd.ntmps14
  go_wp2_with fail
  obtain ⟨W0, hW, hrp, c0, c1, hb0⟩ := lit_g15 w
  rw [hW]
  clear hW
  have h1 := xPreferred_any (some ⟨w.heap.size, 0, none⟩) 3 g15 4 W0 hrp (by decide) (hT.below hb0)
  rw [g15_pref] at h1
  have h1' : Calls Tryd.prog 11 #[.agg #[.int .i64 3, .slice (some ⟨w.heap.size, 0, none⟩) 4 4]] W0 (RetLC ([[1, 2, 3], [2, 1, 2]], 0) W0) := h1
  have H1 := Lib.hid h1'
  clear h1 h1'
  refine H1.out.mono ?_
  rintro e w1 ⟨A1, k1, rfl, hr1, _, hcap, hb1⟩
  have hcap' : 2 ≤ k1 := hcap
  have d0 := (hb1.cell (lt_of_cell c0)).trans c0
  have d1 := (hb1.cell (lt_of_cell c1)).trans c1
  have hb01 := endB hb0 hb1
  have h2 := xSemiStable_any (some ⟨w.heap.size, 0, none⟩) 3 g15 4 w1 (hrp.below hb1) (by decide) (hT.below hb01)
  rw [g15_semi] at h2
  have h2' : Calls Tryd.prog 21 #[.agg #[.int .i64 3, .slice (some ⟨w.heap.size, 0, none⟩) 4 4]] w1 (RetLC ([[2, 1, 2]], 0) w1) := h2
  have H2 := Lib.hid h2'; have Hr1 := Lib.hid hr1
  clear h2 h2' hr1 H1 hcap c0 c1
  go_wp2_with fail
  refine H2.out.mono ?_
  rintro e w2 ⟨A2, k2, rfl, hr2, _, _, hb2⟩
  have e0 := (hb2.cell (lt_of_cell d0)).trans d0
  have e1 := (hb2.cell (lt_of_cell d1)).trans d1
  have hb02 := endB hb01 hb2
  have h3 := xStable_any (some ⟨w.heap.size, 0, none⟩) 3 g15 4 w2 ((hrp.below hb1).below hb2) (by decide) (hT.below hb02)
  rw [g15_stab] at h3
  have h3' : Calls Tryd.prog 12 #[.agg #[.int .i64 3, .slice (some ⟨w.heap.size, 0, none⟩) 4 4]] w2 (RetLC ([[2, 1, 2]], 0) w2) := h3
  have H3 := Lib.hid h3'; have Hr2 := Lib.hid hr2
  clear h3 h3' hr2 H2 d0 d1
  go_wp2_with fail
  refine H3.out.mono ?_
  rintro e w3 ⟨A3, k3, rfl, hr3, _, _, hb3⟩
  have hb03 := endB hb02 hb3
  have Hr3 := Lib.hid hr3; have Hr23 := Lib.hid (Hr2.out.below hb3)
  have hr13 := (Hr1.out.below hb2).below hb3
  obtain ⟨b1, o1, _, _, rfl, _, _, _⟩ := hr13 0 (by decide)
  have Hr13 := Lib.hid hr13
  clear hr3 hr13 H3 Hr1 Hr2 e0 e1
  go_wp2_with fail
  obtain ⟨W4, hW4, hrs4, hb4⟩ := lit23 w3 1 2 3 2 1 2
  rw [hW4]
  clear hW4
  have hl1 : Calls Tryd.prog 13 #[.slice (some ⟨b1, o1, none⟩) 2 k1, .slice (some ⟨w3.heap.size + 1 + 1, 0, none⟩) 2 2] W4 (RetB (.bool true) W4) := lists_any (some ⟨b1, o1, none⟩) (some ⟨w3.heap.size + 1 + 1, 0, none⟩) [[1, 2, 3], [2, 1, 2]] [[1, 2, 3], [2, 1, 2]] k1 2 W4 (by decide) (by decide) (by decide) (by decide) (Hr13.out.below hb4).rs hrs4
  have Hl1 := Lib.hid hl1
  clear hl1
  refine Hl1.out.mono ?_
  rintro e w5 ⟨rfl, hb5⟩
  have hb35 := endB hb4 hb5
  have Hr15 := Lib.hid (Hr13.out.below hb35); have Hr25 := Lib.hid (Hr23.out.below hb35); have Hr35 := Lib.hid (Hr3.out.below hb35)
  clear Hl1 hrs4 Hr13 Hr23 Hr3
  go_wp2_with fail
  have htl : RS w5 (some ⟨b1, o1 + 1, none⟩) [[2, 1, 2]] := by
    obtain ⟨b9, o9, A9, c9, hA9, hc9, _, hr9⟩ := Hr15.out 1 (by decide)
    injection hA9 with hA9
    injection hA9 with h1 h2 _
    subst h1 h2
    intro k hk
    have hk0 : k = 0 := by simp at hk; omega
    subst hk0
    exact ⟨_, _, A9, c9, rfl, hc9, hr9⟩
  have hl2 : Calls Tryd.prog 13 #[.slice A2 1 k2, .slice (some ⟨b1, o1 + 1, none⟩) 1 (k1 - 1)] w5 (RetB (.bool true) w5) := lists_any A2 (some ⟨b1, o1 + 1, none⟩) [[2, 1, 2]] [[2, 1, 2]] k2 (k1 - 1) w5 (by decide) (by decide) (by decide) (by decide) Hr25.out.rs htl
  have Hl2 := Lib.hid hl2
  clear hl2 htl
  refine Hl2.out.mono ?_
  rintro e w6 ⟨rfl, hb6⟩
  have hb36 := endB hb35 hb6
  have hl3 : Calls Tryd.prog 13 #[.slice A3 1 k3, .slice A2 1 k2] w6 (RetB (.bool true) w6) := lists_any A3 A2 [[2, 1, 2]] [[2, 1, 2]] k3 k2 w6 (by decide) (by decide) (by decide) (by decide) (Hr35.out.below hb6).rs (Hr25.out.below hb6).rs
  have Hl3 := Lib.hid hl3; have Hr16 := Lib.hid (Hr15.out.below hb6)
  clear hl3 Hl2 Hr25 Hr35 Hr15
  go_wp2_with fail
  refine Hl3.out.mono ?_
  rintro e w7 ⟨rfl, hb7⟩
  have hb37 := endB hb36 hb7
  have hs4 : Calls Tryd.prog 20 #[.slice (some ⟨b1, o1, none⟩) 2 k1, .int .i64 0] w7 (RetB (.bool true) w7) := xSome_any (some ⟨b1, o1, none⟩) [[1, 2, 3], [2, 1, 2]] k1 0 w7 (Hr16.out.below hb7).rs (by decide) (by decide)
  have Hs4 := Lib.hid hs4; have Hr17 := Lib.hid (Hr16.out.below hb7)
  clear hs4 Hl3 Hr16
  go_wp2_with fail
  refine Hs4.out.mono ?_
  rintro e w8 ⟨rfl, hb8⟩
  have hb38 := endB hb37 hb8
  have hs5 : Calls Tryd.prog 42 #[.slice (some ⟨b1, o1, none⟩) 2 k1, .int .i64 0] w8 (RetB (.bool false) w8) := xAll_any (some ⟨b1, o1, none⟩) [[1, 2, 3], [2, 1, 2]] k1 0 w8 (Hr17.out.below hb8).rs (by decide) (by decide)
  have Hs5 := Lib.hid hs5
  clear hs5 Hs4 Hr17
  go_wp2_with fail
  refine Hs5.out.mono ?_
  rintro e w9 ⟨rfl, hb9⟩
  go_wp2_with fail
  go_ret
  exact ⟨rfl, endB hb03 (endB hb38 hb9)⟩
end Go.Proofs.YtcpombepajapjaaDoor
