/- Label and Ranks, of the program and of the reference; the sanity check of layer 12. -/
import Derived.Test.YtiljbfeipfdmdaaDoorRGnd
namespace Go.Proofs.YtiljbfeipfdmdaaDoor
open Go.ChangeShapes Go.WideShapes Go.ChangeAt Go.RowKit

theorem RetI.lst {w w' : World} {n : Nat} {f : Nat → Int} {A : Option Addr} {c : Nat} (h : OwnI w' w.heap.size (.slice A n c) (lst n f)) (hb : Below w.heap.size w w') : RetI (lst n f) w (.returned (.slice A n c)) w' := RetI.mk h hb

set_option maxHeartbeats 1000000 in
theorem gLabel_any (A : Option Addr) (n : Nat) (l : List (Int × Int)) (c : Nat) (w : World) (hr : RP w A l) (hv : Vld n l) (hT : Tab w) :
    Calls Tryd.prog 41 #[.agg #[.int .i64 (n : Int), .slice A l.length c]] w (RetI (lst n (grL n l)) w) := by
  have hn := hv.1.1
  go_enter Tryd.func41, Tryd.ntmps41
  go_wp2_with fail
  obtain ⟨W0, hW, c0, c1, hb0, hlt0⟩ := boxed w 27 (.int .i64 (n : Int)) (.slice A l.length c)
  rw [hW]
  refine (gbuild_any A n l c W0 (hr.below hb0) hv (hT.below hb0)).mono ?_
  rintro e w1 ⟨g, g', rfl, h1, h2, hrow, hrow', hb⟩
  go_wp2_with fail
  go_ret
  first
    | exact RetI.lst (Row.own hrow (by omega) (by omega)) (endB hb0 hb)
    | exact RetI.lst (Row.own hrow' (by omega) (by omega)) (endB hb0 hb)

set_option maxHeartbeats 1000000 in
theorem r12Label_any (A : Option Addr) (n : Nat) (l : List (Int × Int)) (c : Nat) (w : World) (hr : RP w A l) (hv : Vld n l) :
    Calls Tryd.prog 46 #[.agg #[.int .i64 (n : Int), .slice A l.length c]] w (RetI (lst n (grL n l)) w) := by
  go_enter Tryd.func46, Tryd.ntmps46
  go_wp2_with fail
  obtain ⟨W0, hW, c0, c1, hb0, hlt0⟩ := boxed w 27 (.int .i64 (n : Int)) (.slice A l.length c)
  rw [hW]
  refine (r12build_any A n l c W0 (hr.below hb0) hv).mono ?_
  rintro e w1 ⟨A1, c1', A2, c2', rfl, h1, h2, hb⟩
  go_wp2_with fail
  go_ret
  first
    | exact RetI.lst (OwnI.mono h1 (Nat.le_of_lt hlt0)) (endB hb0 hb)
    | exact RetI.lst (OwnI.mono h2 (Nat.le_of_lt hlt0)) (endB hb0 hb)
set_option maxHeartbeats 1000000 in
theorem gRanks_any (A : Option Addr) (n : Nat) (l : List (Int × Int)) (c : Nat) (w : World) (hr : RP w A l) (hv : Vld n l) (hT : Tab w) :
    Calls Tryd.prog 51 #[.agg #[.int .i64 (n : Int), .slice A l.length c]] w (RetI (lst n (grR n l)) w) := by
  have hn := hv.1.1
  go_enter Tryd.func51, Tryd.ntmps51
  go_wp2_with fail
  obtain ⟨W0, hW, c0, c1, hb0, hlt0⟩ := boxed w 27 (.int .i64 (n : Int)) (.slice A l.length c)
  rw [hW]
  refine (gbuild_any A n l c W0 (hr.below hb0) hv (hT.below hb0)).mono ?_
  rintro e w1 ⟨g, g', rfl, h1, h2, hrow, hrow', hb⟩
  go_wp2_with fail
  go_ret
  first
    | exact RetI.lst (Row.own hrow (by omega) (by omega)) (endB hb0 hb)
    | exact RetI.lst (Row.own hrow' (by omega) (by omega)) (endB hb0 hb)

set_option maxHeartbeats 1000000 in
theorem r12Ranks_any (A : Option Addr) (n : Nat) (l : List (Int × Int)) (c : Nat) (w : World) (hr : RP w A l) (hv : Vld n l) :
    Calls Tryd.prog 47 #[.agg #[.int .i64 (n : Int), .slice A l.length c]] w (RetI (lst n (grR n l)) w) := by
  go_enter Tryd.func47, Tryd.ntmps47
  go_wp2_with fail
  obtain ⟨W0, hW, c0, c1, hb0, hlt0⟩ := boxed w 27 (.int .i64 (n : Int)) (.slice A l.length c)
  rw [hW]
  refine (r12build_any A n l c W0 (hr.below hb0) hv).mono ?_
  rintro e w1 ⟨A1, c1', A2, c2', rfl, h1, h2, hb⟩
  go_wp2_with fail
  go_ret
  first
    | exact RetI.lst (OwnI.mono h1 (Nat.le_of_lt hlt0)) (endB hb0 hb)
    | exact RetI.lst (OwnI.mono h2 (Nat.le_of_lt hlt0)) (endB hb0 hb)

theorem chain_vld : Vld 3 chainG := ⟨chain_in, by decide⟩
theorem gr_chain : lst 3 (grL 3 chainG) = [1, 2, 1] := by decide
theorem rk_chain : lst 3 (grR 3 chainG) = [1, 1, 2] := by decide

theorem new_ri3 (w : World) (t : TypeId) (a b c : Int) : RI (w.alloc (.cells #[.int .i64 a, .int .i64 b, .int .i64 c] t)) (some ⟨w.heap.size, 0, none⟩) [a, b, c] := by
  intro k hk
  refine ⟨w.heap.size, 0, rfl, ?_⟩
  rw [(Blk.new w t #[.int .i64 a, .int .i64 b, .int .i64 c]).cell]
  match k, hk with
  | 0, _ => rfl
  | 1, _ => rfl
  | 2, _ => rfl

theorem boxed42 (w : World) (t u : TypeId) (x1 x2 x3 x4 y1 y2 : Value) : ∃ W0, (w.alloc (.cells #[x1, x2, x3, x4] t)).alloc (.cells #[y1, y2] u) = W0 ∧ Blk W0 w.heap.size t #[x1, x2, x3, x4] ∧ Blk W0 (w.heap.size + 1) u #[y1, y2] ∧ Below w.heap.size w W0 := by
  refine ⟨_, rfl, (Blk.new w t _).alloc _, ?_, ((Below.refl _ _).alloc (Nat.le_refl _) _).alloc (by simp) _⟩
  have := Blk.new (w.alloc (.cells #[x1, x2, x3, x4] t)) u #[y1, y2]
  simpa using this

set_option maxRecDepth 100000 in
set_option maxHeartbeats 4000000 in
theorem awake12_any (w : World) (hT : Tab w) : Calls Tryd.prog 42 #[] w (RetB (.bool true) w) := by
  go_enter Tryd.func42, Tryd.ntmps42
  go_wp2_with fail
  obtain ⟨W0, hW, b1, b2, hb0⟩ := boxed42 w 46 27 (.int .i64 0) (.int .i64 1) (.int .i64 1) (.int .i64 2) (.int .i64 3) (.slice (some ⟨w.heap.size, 0, none⟩) 2 2)
  rw [hW]
  clear hW
  have rc : RP W0 _ chainG := b1.pairs
  obtain ⟨d0, d1, _, _⟩ := b2.two
  have H1 := gLabel_any _ 3 chainG 2 W0 rc chain_vld (hT.below hb0)
  rw [gr_chain] at H1
  refine H1.mono ?_
  clear H1
  rintro e w1 ⟨A1, ca, rfl, _, hri1, _, hb1⟩
  have D1 := (b2.below hb1 b2.lt)
  have rc1 := rc.below hb1; have hB1 := endB hb0 hb1
  clear d0 d1 b1 b2 rc hb1 hb0
  go_wp2_with fail
  have H2 := ints_any A1 (some ⟨w1.heap.size, 0, none⟩) [1, 2, 1] [1, 2, 1] ca 3 (w1.alloc (.cells #[.int .i64 1, .int .i64 2, .int .i64 1] 3)) (by decide) (by decide) (hri1.below (newB _ _)) (new_ri3 _ _ _ _ _)
  rw [show eqB [1, 2, 1] [1, 2, 1] = true by decide] at H2
  refine H2.mono ?_
  clear H2
  rintro e w2 ⟨rfl, hq2⟩
  have hb2 := thenB (newB w1 (.cells #[.int .i64 1, .int .i64 2, .int .i64 1] 3)) (RetQ.below (v := .bool true) ⟨rfl, hq2⟩).2
  have D2 := D1.below hb2 D1.lt
  have rc2 := rc1.below hb2; have hB2 := endB hB1 hb2
  clear D1 rc1 hB1 hb2 hq2 hri1
  obtain ⟨d0, d1, _, _⟩ := D2.two
  go_wp2_with fail
  have H3 := gRanks_any _ 3 chainG 2 w2 rc2 chain_vld (hT.below hB2)
  rw [rk_chain] at H3
  refine H3.mono ?_
  clear H3
  rintro e w3 ⟨A3, c3, rfl, _, hri3, _, hb3⟩
  have hB3 := endB hB2 hb3
  clear d0 d1 D2 rc2 hB2 hb3
  go_wp2_with fail
  have H4 := ints_any A3 (some ⟨w3.heap.size, 0, none⟩) [1, 1, 2] [1, 1, 2] c3 3 (w3.alloc (.cells #[.int .i64 1, .int .i64 1, .int .i64 2] 3)) (by decide) (by decide) (hri3.below (newB _ _)) (new_ri3 _ _ _ _ _)
  rw [show eqB [1, 1, 2] [1, 1, 2] = true by decide] at H4
  refine H4.mono ?_
  clear H4
  rintro e w4 ⟨rfl, hq4⟩
  have hb4 := thenB (newB w3 (.cells #[.int .i64 1, .int .i64 1, .int .i64 2] 3)) (RetQ.below (v := .bool true) ⟨rfl, hq4⟩).2
  have hB4 := endB hB3 hb4
  go_wp2_with fail
  go_ret
  exact ⟨rfl, hB4⟩
end Go.Proofs.YtiljbfeipfdmdaaDoor
