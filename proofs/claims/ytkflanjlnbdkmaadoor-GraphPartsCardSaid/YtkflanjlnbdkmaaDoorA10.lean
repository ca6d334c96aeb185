/- law10.awake. -/
import Derived.Test.YtkflanjlnbdkmaaDoorCmc
import Derived.Test.YtkflanjlnbdkmaaDoorG10
import Derived.Test.YtkflanjlnbdkmaaDoorInd
import Derived.Test.YtkflanjlnbdkmaaDoorLis0
namespace Go.Proofs.YtkflanjlnbdkmaaDoor
open Go.ChangeShapes Go.WideShapes Go.ChangeAt Go.RowKit

def g10 : List (Int × Int) := [(0, 1), (1, 0), (1, 2), (3, 3)]
theorem g10_val : valE 4 g10 = 0 := by decide +kernel
theorem g10_n : nGn 4 g10 = 4 := by unfold nGn; rw [g10_val]; rfl
theorem g10_l : nGl 4 g10 = g10 := by unfold nGl; rw [g10_val]; rfl
theorem g10_comps : compsL 4 g10 = [[0, 1], [2], [3]] := by decide +kernel
theorem g10_reach : reachL 4 g10 0 = [0, 1, 2] := by decide +kernel
theorem g10_nodes : (nodesB 4 fun i => inB [2, 1] i) = [1, 2] := by decide +kernel
theorem g10_ind : indP [1, 2] g10 = [(0, 1)] := by decide +kernel
theorem g10_has : hasB g10 3 3 = true := by decide +kernel
theorem ri2_new (w : World) (t : TypeId) (a b : Int) : RI (w.alloc (.cells #[.int .i64 a, .int .i64 b] t)) (some ⟨w.heap.size, 0, none⟩) [a, b] := new_ri2 w t a b
theorem ri3_new (w : World) (a b c : Int) : RI (w.alloc (.cells #[.int .i64 a, .int .i64 b, .int .i64 c] 3)) (some ⟨w.heap.size, 0, none⟩) [a, b, c] := by
  intro k hk
  refine ⟨w.heap.size, 0, rfl, ?_⟩
  rw [(Blk.new w 3 _).cell]
  match k, hk with
  | 0, _ => rfl
  | 1, _ => rfl
  | 2, _ => rfl
theorem rp1_new (w : World) (a b : Int) : RP (w.alloc (.cells #[.int .i64 a, .int .i64 b] 43)) (some ⟨w.heap.size, 0, none⟩) [(a, b)] := by
  intro k hk
  refine ⟨w.heap.size, 0, rfl, ?_⟩
  rw [(Blk.new w 43 _).cell, (Blk.new w 43 _).cell]
  match k, hk with
  | 0, _ => exact ⟨rfl, rfl⟩
theorem lit_g10 (w : World) : ∃ W, (w.alloc (.cells #[.int .i64 0, .int .i64 1, .int .i64 1, .int .i64 0, .int .i64 1, .int .i64 2, .int .i64 3, .int .i64 3] 43)).alloc (.cells #[.int .i64 4, .slice (some ⟨w.heap.size, 0, none⟩) 4 4] 24) = W ∧ RP W (some ⟨w.heap.size, 0, none⟩) g10 ∧
    W.cell? ⟨w.heap.size + 1, 0, none⟩ = some (.int .i64 4) ∧ W.cell? ⟨w.heap.size + 1, 1, none⟩ = some (.slice (some ⟨w.heap.size, 0, none⟩) 4 4) ∧ Below w.heap.size w W ∧ W.heap.size = w.heap.size + 1 + 1 := by
  have s1 : (w.alloc (.cells #[.int .i64 0, .int .i64 1, .int .i64 1, .int .i64 0, .int .i64 1, .int .i64 2, .int .i64 3, .int .i64 3] 43)).heap.size = w.heap.size + 1 := by simp
  have h0 : RP (w.alloc (.cells #[.int .i64 0, .int .i64 1, .int .i64 1, .int .i64 0, .int .i64 1, .int .i64 2, .int .i64 3, .int .i64 3] 43)) (some ⟨w.heap.size, 0, none⟩) g10 := by
    intro k hk
    refine ⟨w.heap.size, 0, rfl, ?_⟩
    rw [(Blk.new w 43 _).cell, (Blk.new w 43 _).cell]
    match k, hk with
    | 0, _ => exact ⟨rfl, rfl⟩
    | 1, _ => exact ⟨rfl, rfl⟩
    | 2, _ => exact ⟨rfl, rfl⟩
    | 3, _ => exact ⟨rfl, rfl⟩
  obtain ⟨W, hW, c0, c1, hb, _⟩ := boxed (w.alloc (.cells #[.int .i64 0, .int .i64 1, .int .i64 1, .int .i64 0, .int .i64 1, .int .i64 2, .int .i64 3, .int .i64 3] 43)) 24 (.int .i64 4) (.slice (some ⟨w.heap.size, 0, none⟩) 4 4)
  rw [s1] at c0 c1
  exact ⟨W, hW, h0.below hb, c0, c1, endB (newB _ _) hb, by rw [← hW]; simp⟩
theorem lit10 (w : World) : ∃ W, (((w.alloc (.cells #[.int .i64 0, .int .i64 1] 3)).alloc (.cells #[.int .i64 2] 3)).alloc (.cells #[.int .i64 3] 3)).alloc (.cells #[.slice (some ⟨w.heap.size, 0, none⟩) 2 2, .slice (some ⟨w.heap.size + 1, 0, none⟩) 1 1, .slice (some ⟨w.heap.size + 1 + 1, 0, none⟩) 1 1] 25) = W ∧
    RS W (some ⟨w.heap.size + 1 + 1 + 1, 0, none⟩) [[0, 1], [2], [3]] ∧ Below w.heap.size w W := by
  refine ⟨_, rfl, ?_, (((((Below.refl _ _).alloc (Nat.le_refl _) _).alloc (by simp) _).alloc (by simp; omega) _).alloc (by simp; omega) _)⟩
  have s1 : (w.alloc (.cells #[.int .i64 0, .int .i64 1] 3)).heap.size = w.heap.size + 1 := by simp
  have s2 : ((w.alloc (.cells #[.int .i64 0, .int .i64 1] 3)).alloc (.cells #[.int .i64 2] 3)).heap.size = w.heap.size + 1 + 1 := by simp
  have s3 : (((w.alloc (.cells #[.int .i64 0, .int .i64 1] 3)).alloc (.cells #[.int .i64 2] 3)).alloc (.cells #[.int .i64 3] 3)).heap.size = w.heap.size + 1 + 1 + 1 := by simp
  have h1 := ri2_new w 3 0 1
  have h2 := new_ri1 (w.alloc (.cells #[.int .i64 0, .int .i64 1] 3)) 3 2
  have h3 := new_ri1 ((w.alloc (.cells #[.int .i64 0, .int .i64 1] 3)).alloc (.cells #[.int .i64 2] 3)) 3 3
  rw [s1] at h2
  rw [s2] at h3
  have := rs_new3 (c1 := 2) (c2 := 1) (c3 := 1) _ ((h1.below (newB _ _)).below (newB _ _)) (h2.below (newB _ _)) h3
  rw [s3] at this
  exact this

set_option maxRecDepth 100000 in
set_option maxHeartbeats 4000000 in
theorem awake10_any (w : World) (hT : Tab w) : Calls Tryd.prog 22 #[] w (RetB (.bool true) w) := by
  go_enter Tryd.func22, Tryd.ntmps22
  go_wp2_with fail
  obtain ⟨W0, hW, hrp, c0, c1, hb0, hs0⟩ := lit_g10 w
  rw [hW]
  have hx := ri2_new W0 3 2 1
  rw [hs0] at hx
  have hbx := newB W0 (.cells #[.int .i64 2, .int .i64 1] 3)
  have c0' := (hbx.cell (lt_of_cell c0)).trans c0
  have c1' := (hbx.cell (lt_of_cell c1)).trans c1
  have hrp' := hrp.below hbx
  have hb0' := endB hb0 hbx
  generalize W0.alloc (.cells #[.int .i64 2, .int .i64 1] 3) = W1 at *
  have h1 := gInduced_any (some ⟨w.heap.size, 0, none⟩) 4 g10 4 (some ⟨w.heap.size + 1 + 1, 0, none⟩) [2, 1] 2 W1 hrp' (by decide) hx (by decide)
  rw [g10_n, g10_l, show (4 : Int).toNat = 4 from rfl, g10_nodes, g10_ind] at h1
  have H1 := Lib.hid h1
  have hT1 := hT.below hb0'
  have Hb1 := Lib.hid hb0'; have Hrp1 := Lib.hid hrp'
  clear h1 hW hx hrp c0 c1 hb0 hbx hs0 hrp' hb0'
  refine H1.out.mono ?_
  rintro e w1 ⟨A2, k2, rfl, hr2, -, hb2⟩
  have Hrp2 := Lib.hid (Hrp1.out.below hb2)
  have Hb2 := Lib.hid (endB Hb1.out hb2)
  have hT2 := hT1.below hb2
  have d0 := (hb2.cell (lt_of_cell c0')).trans c0'
  have d1 := (hb2.cell (lt_of_cell c1')).trans c1'
  clear hT1 c0' c1' H1 Hb1 Hrp1 hb2
  go_upto_region 3 with fail
  obtain ⟨W3, hW3, e0, e1, hb3, hlt3⟩ := boxed w1 24 (.int .i64 2) (.slice A2 1 k2)
  rw [hW3]
  have d0' := (hb3.cell (lt_of_cell d0)).trans d0
  have d1' := (hb3.cell (lt_of_cell d1)).trans d1
  have Hrp3 := Lib.hid (Hrp2.out.below hb3)
  have Hr3 := Lib.hid (hr2.below hb3)
  have hbw3 := endB Hb2.out hb3
  have hT3 := hT2.below hb3
  clear hW3 hT2 Hb2 Hrp2 hr2 hb3 d0 d1 hlt3
  have h4 := gValidate_any (some ⟨w.heap.size, 0, none⟩) 4 g10 4 W3 Hrp3.out (by decide)
  rw [g10_val] at h4
  have H4 := Lib.hid h4
  clear h4
  go_wp2_with fail
  refine H4.out.mono ?_
  rintro e w4 ⟨rfl, hb4⟩
  have k0 := (hb4.cell (lt_of_cell d0')).trans d0'
  have k1 := (hb4.cell (lt_of_cell d1')).trans d1'
  have f0 := (hb4.cell (lt_of_cell e0)).trans e0
  have f1 := (hb4.cell (lt_of_cell e1)).trans e1
  have Hrp4 := Lib.hid (Hrp3.out.below hb4)
  have Hr4 := Lib.hid (Hr3.out.below hb4)
  have hbw4 := endB hbw3 hb4
  have hT4 := hT3.below hb4
  clear hT3 hbw3 Hrp3 Hr3 hb4 d0' d1' e0 e1 H4
  have h5 := gComponents_any (some ⟨w.heap.size, 0, none⟩) 4 g10 4 w4 Hrp4.out (by decide) hT4
  rw [g10_n, g10_l, show (4 : Int).toNat = 4 from rfl, g10_comps] at h5
  have H5 := Lib.hid h5
  clear h5
  go_wp2_with fail
  refine H5.out.mono ?_
  rintro e w5 ⟨A5, k5, rfl, hrs5, -, hb5⟩
  have hbw5 := endB hbw4 hb5
  have hb45 := hb5
  go_wp2_with fail
  obtain ⟨W6, hW6, hrs6, hb6⟩ := lit10 w5
  rw [hW6]
  have hb46 := endB hb45 hb6
  have g0 := (hb46.cell (lt_of_cell k0)).trans k0
  have g1 := (hb46.cell (lt_of_cell k1)).trans k1
  have j0 := (hb46.cell (lt_of_cell f0)).trans f0
  have j1 := (hb46.cell (lt_of_cell f1)).trans f1
  have Hrp6 := Lib.hid (Hrp4.out.below hb46)
  have Hr6 := Lib.hid (Hr4.out.below hb46)
  have hbw6 := endB hbw5 hb6
  have hT6 := hT4.below hb46
  have h6 := lists_any A5 (some ⟨w5.heap.size + 1 + 1 + 1, 0, none⟩) [[0, 1], [2], [3]] [[0, 1], [2], [3]] k5 3 W6 (by decide) (by decide) (by decide) (by decide) (hrs5.rs.below hb6) hrs6
  rw [show eqLs [[0, 1], [2], [3]] [[0, 1], [2], [3]] = true by decide] at h6
  have h6' : Calls Tryd.prog 14 #[.slice A5 3 k5, .slice (some ⟨w5.heap.size + 1 + 1 + 1, 0, none⟩) 3 3] W6 (RetB (.bool true) W6) := h6
  have H6 := Lib.hid h6'
  clear h6 h6' hW6 hrs5 hrs6 hb5 hb45 hb46 hb6 hT4 hbw4 hbw5 Hrp4 Hr4 k0 k1 f0 f1 H5
  refine H6.out.mono ?_
  rintro e w7 ⟨rfl, hb7⟩
  have k0 := (hb7.cell (lt_of_cell g0)).trans g0
  have k1 := (hb7.cell (lt_of_cell g1)).trans g1
  have f0 := (hb7.cell (lt_of_cell j0)).trans j0
  have f1 := (hb7.cell (lt_of_cell j1)).trans j1
  have Hrp7 := Lib.hid (Hrp6.out.below hb7)
  have Hr7 := Lib.hid (Hr6.out.below hb7)
  have hbw7 := endB hbw6 hb7
  have hT7 := hT6.below hb7
  clear hT6 hbw6 Hrp6 Hr6 hb7 g0 g1 j0 j1 H6
  have h8 := gReach_any (some ⟨w.heap.size, 0, none⟩) 4 g10 4 0 w7 Hrp7.out (by decide) hT7
  rw [g10_n, g10_l, show (4 : Int).toNat = 4 from rfl, g10_reach] at h8
  have H8 := Lib.hid h8
  clear h8
  go_wp2_with fail
  refine H8.out.mono ?_
  rintro e w8 ⟨A8, k8, rfl, -, hri8, -, hb8⟩
  go_wp2_with fail
  have hr9 := ri3_new w8 0 1 2
  have hb9 := newB w8 (.cells #[.int .i64 0, .int .i64 1, .int .i64 2] 3)
  have h9 := ints_any A8 (some ⟨w8.heap.size, 0, none⟩) [0, 1, 2] [0, 1, 2] k8 3 (w8.alloc (.cells #[.int .i64 0, .int .i64 1, .int .i64 2] 3)) (by decide) (by decide) (hri8.below hb9) hr9
  rw [show eqB [0, 1, 2] [0, 1, 2] = true by decide] at h9
  have h9' : Calls Tryd.prog 28 #[.slice A8 3 k8, .slice (some ⟨w8.heap.size, 0, none⟩) 3 3] (w8.alloc (.cells #[.int .i64 0, .int .i64 1, .int .i64 2] 3)) (RetQ (.bool true) (w8.alloc (.cells #[.int .i64 0, .int .i64 1, .int .i64 2] 3))) := h9
  have H9 := Lib.hid h9'
  clear h9 h9' hr9 hri8 H8
  refine H9.out.mono ?_
  rintro e w10 ⟨rfl, hq10⟩
  have hb710 := endB hb8 (thenB hb9 (RetQ.below (v := .bool true) ⟨rfl, hq10⟩).2)
  clear hq10 hb9 hb8 H9
  have g0 := (hb710.cell (lt_of_cell k0)).trans k0
  have g1 := (hb710.cell (lt_of_cell k1)).trans k1
  have j0 := (hb710.cell (lt_of_cell f0)).trans f0
  have j1 := (hb710.cell (lt_of_cell f1)).trans f1
  have Hrp10 := Lib.hid (Hrp7.out.below hb710)
  have Hr10 := Lib.hid (Hr7.out.below hb710)
  have hbw10 := endB hbw7 hb710
  clear hT7 hbw7 Hrp7 Hr7 hb710 k0 k1 f0 f1
  go_wp2_with fail
  have hr11 := rp1_new w10 0 1
  have hb11 := newB w10 (.cells #[.int .i64 0, .int .i64 1] 43)
  have h11 := r10Same_any A2 (some ⟨w10.heap.size, 0, none⟩) 2 2 [(0, 1)] [(0, 1)] k2 1 (w10.alloc (.cells #[.int .i64 0, .int .i64 1] 43)) (Hr10.out.below hb11) hr11 (by decide) (by decide)
  rw [sameB_refl] at h11
  have h11' : Calls Tryd.prog 17 #[.agg #[.int .i64 2, .slice A2 1 k2], .agg #[.int .i64 2, .slice (some ⟨w10.heap.size, 0, none⟩) 1 1]] (w10.alloc (.cells #[.int .i64 0, .int .i64 1] 43)) (RetB (.bool true) (w10.alloc (.cells #[.int .i64 0, .int .i64 1] 43))) := h11
  have H11 := Lib.hid h11'
  clear h11 h11' hr11
  refine H11.out.mono ?_
  rintro e w12 ⟨rfl, hb12⟩
  have hb1012 := endB hb11 hb12
  have k0 := (hb1012.cell (lt_of_cell g0)).trans g0
  have k1 := (hb1012.cell (lt_of_cell g1)).trans g1
  have Hrp12 := Lib.hid (Hrp10.out.below hb1012)
  have hbw12 := endB hbw10 hb1012
  clear hb11 hb12 hb1012 g0 g1 j0 j1 hbw10 Hrp10 Hr10 H11
  have h13 := gHas_any (some ⟨w.heap.size, 0, none⟩) 4 g10 4 3 3 w12 Hrp12.out (by decide)
  rw [g10_l, g10_has] at h13
  have H13 := Lib.hid h13
  clear h13
  go_wp2_with fail
  refine H13.out.mono ?_
  rintro e w13 ⟨rfl, hb13⟩
  go_wp2_with fail
  go_ret
  exact ⟨rfl, endB hbw12 hb13⟩
end Go.Proofs.YtkflanjlnbdkmaaDoor
