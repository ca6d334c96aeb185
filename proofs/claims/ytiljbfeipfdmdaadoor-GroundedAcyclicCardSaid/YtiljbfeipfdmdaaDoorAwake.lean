/- The law's sanity check. -/
import Derived.Test.YtiljbfeipfdmdaaDoorSets
namespace Go.Proofs.YtiljbfeipfdmdaaDoor
open Go.ChangeShapes Go.WideShapes Go.ChangeAt Go.RowKit

theorem boxed4 (w : World) (t u : TypeId) (x1 x2 x3 x4 y1 y2 z1 z2 z3 z4 v1 v2 : Value) : ∃ W0, (((w.alloc (.cells #[x1, x2, x3, x4] t)).alloc (.cells #[y1, y2] u)).alloc (.cells #[z1, z2, z3, z4] t)).alloc (.cells #[v1, v2] u) = W0 ∧
    Blk W0 w.heap.size t #[x1, x2, x3, x4] ∧ Blk W0 (w.heap.size + 1) u #[y1, y2] ∧ Blk W0 (w.heap.size + 1 + 1) t #[z1, z2, z3, z4] ∧ Blk W0 (w.heap.size + 1 + 1 + 1) u #[v1, v2] ∧ Below w.heap.size w W0 := by
  refine ⟨_, rfl, (((Blk.new w t _).alloc _).alloc _).alloc _, ?_, ?_, ?_, ((((Below.refl _ _).alloc (Nat.le_refl _) _).alloc (by simp) _).alloc (by simp; omega) _).alloc (by simp; omega) _⟩
  · have := ((Blk.new (w.alloc (.cells #[x1, x2, x3, x4] t)) u #[y1, y2]).alloc (.cells #[z1, z2, z3, z4] t)).alloc (.cells #[v1, v2] u)
    simpa using this
  · have := (Blk.new ((w.alloc (.cells #[x1, x2, x3, x4] t)).alloc (.cells #[y1, y2] u)) t #[z1, z2, z3, z4]).alloc (.cells #[v1, v2] u)
    simpa using this
  · have := Blk.new (((w.alloc (.cells #[x1, x2, x3, x4] t)).alloc (.cells #[y1, y2] u)).alloc (.cells #[z1, z2, z3, z4] t)) u #[v1, v2]
    simpa using this
theorem Blk.pairs {w : World} {g : Nat} {t : TypeId} {a b c d : Int} (h : Blk w g t #[.int .i64 a, .int .i64 b, .int .i64 c, .int .i64 d]) : RP w (some ⟨g, 0, none⟩) [(a, b), (c, d)] := by
  intro k hk
  refine ⟨g, 0, rfl, ?_⟩
  rw [h.cell, h.cell]
  match k, hk with
  | 0, _ => exact ⟨rfl, rfl⟩
  | 1, _ => exact ⟨rfl, rfl⟩
theorem new_ri1 (w : World) (t : TypeId) (a : Int) : RI (w.alloc (.cells #[.int .i64 a] t)) (some ⟨w.heap.size, 0, none⟩) [a] := by
  intro k hk
  refine ⟨w.heap.size, 0, rfl, ?_⟩
  rw [(Blk.new w t #[.int .i64 a]).cell]
  match k, hk with
  | 0, _ => rfl
theorem new_ri2 (w : World) (t : TypeId) (a b : Int) : RI (w.alloc (.cells #[.int .i64 a, .int .i64 b] t)) (some ⟨w.heap.size, 0, none⟩) [a, b] := by
  intro k hk
  refine ⟨w.heap.size, 0, rfl, ?_⟩
  rw [(Blk.new w t #[.int .i64 a, .int .i64 b]).cell]
  match k, hk with
  | 0, _ => rfl
  | 1, _ => rfl
/-- four cells stay -/
theorem keep4 {wa wb : World} {a b c d : Addr} {x y z t : Value} (h : wa.cell? a = some x ∧ wa.cell? b = some y ∧ wa.cell? c = some z ∧ wa.cell? d = some t) (hb : Below wa.heap.size wa wb) :
    wb.cell? a = some x ∧ wb.cell? b = some y ∧ wb.cell? c = some z ∧ wb.cell? d = some t :=
  ⟨(hb.cell (lt_of_cell h.1)).trans h.1, (hb.cell (lt_of_cell h.2.1)).trans h.2.1, (hb.cell (lt_of_cell h.2.2.1)).trans h.2.2.1, (hb.cell (lt_of_cell h.2.2.2)).trans h.2.2.2⟩
theorem newB (w : World) (o : Obj) : Below w.heap.size w (w.alloc o) := (Below.refl _ _).alloc (Nat.le_refl _) _
theorem thenB {a b c : World} (h : Below a.heap.size a b) (k : Below b.heap.size b c) : Below a.heap.size a c := endB h k

def chainG : List (Int × Int) := [(0, 1), (1, 2)]
def pairG : List (Int × Int) := [(0, 1), (1, 0)]
theorem chain_in : InR 3 chainG := ⟨by omega, by decide, by decide⟩
theorem pair_in : InR 2 pairG := ⟨by omega, by decide, by decide⟩
theorem k1 : growL 3 chainG [] = ([0, 2], 0) := by kernel_rfl
theorem k2 : eqB [0, 2] [0, 2] = true := by decide
theorem k3 : defB 3 chainG [0] 2 = true := by decide
theorem k4 : defB 3 chainG [] 2 = false := by decide
theorem k5 : (setB (2 : Nat) [0] && stabB 2 pairG (maskN [0])) = true := by decide
theorem k6 : (setB (2 : Nat) [0] && complB 2 pairG (maskN [0])) = true := by decide
theorem k7 : (setB (2 : Nat) [0, 1] && soundB 2 pairG (maskN [0, 1])) = false := by decide

set_option maxRecDepth 100000 in
set_option maxHeartbeats 4000000 in
theorem awake_any (w : World) (hT : Tab w) : Calls Tryd.prog 55 #[] w (RetB (.bool true) w) := by
  go_enter Tryd.func55, Tryd.ntmps55
  go_wp2_with fail
  obtain ⟨W0, hW, b1, b2, b3, b4, hb0⟩ := boxed4 w 46 27 (.int .i64 0) (.int .i64 1) (.int .i64 1) (.int .i64 2) (.int .i64 3) (.slice (some ⟨w.heap.size, 0, none⟩) 2 2) (.int .i64 0) (.int .i64 1) (.int .i64 1) (.int .i64 0) (.int .i64 2) (.slice (some ⟨w.heap.size + 1 + 1, 0, none⟩) 2 2)
  rw [hW]
  clear hW
  have rc : RP W0 _ chainG := b1.pairs
  have rp : RP W0 _ pairG := b3.pairs
  have hT0 := hT.below hb0
  have D0 : _ ∧ _ ∧ _ ∧ _ := ⟨b2.two.1, b2.two.2.1, b4.two.1, b4.two.2.1⟩
  clear b1 b2 b3 b4 hT
  have H1 := aGrow_any _ 3 chainG 2 none [] 0 W0 rc chain_in (RI.nil _ _) (by decide) hT0
  rw [k1] at H1
  refine H1.mono ?_
  clear H1
  rintro e w1 ⟨A1, ca, rfl, _, hri1, _, hb1⟩
  have D1 := keep4 D0 hb1
  have rc1 := rc.below hb1; have rp1 := rp.below hb1; have hB1 := endB hb0 hb1
  clear rc rp hT0 D0 hb0 hb1
  obtain ⟨d0, d1, d2, d3⟩ := D1
  go_wp2_with fail
  have H2 := ints_any A1 (some ⟨w1.heap.size, 0, none⟩) [0, 2] [0, 2] ca 2 (w1.alloc (.cells #[.int .i64 0, .int .i64 2] 3)) (by decide) (by decide) (hri1.below (newB _ _)) (new_ri2 _ _ _ _)
  rw [k2] at H2
  refine H2.mono ?_
  clear H2
  rintro e w2 ⟨rfl, hq2⟩
  have hb2 := thenB (newB w1 (.cells #[.int .i64 0, .int .i64 2] 3)) (RetQ.below (v := .bool true) ⟨rfl, hq2⟩).2
  have D2 := keep4 ⟨d0, d1, d2, d3⟩ hb2
  have rc2 := rc1.below hb2; have rp2 := rp1.below hb2; have hB2 := endB hB1 hb2
  clear d0 d1 d2 d3 rc1 rp1 hB1 hb2 hri1
  obtain ⟨d0, d1, d2, d3⟩ := D2
  go_wp2_with fail
  have H3 := aDefends_any _ 3 chainG 2 _ [0] 1 2 _ (rc2.below (newB _ _)) chain_in (new_ri1 _ 3 _) (by decide)
  rw [k3] at H3
  refine H3.mono ?_
  clear H3
  rintro e w3 ⟨rfl, hb3⟩
  have hb3 := thenB (newB w2 (.cells #[.int .i64 0] 3)) hb3
  have D3 := keep4 ⟨d0, d1, d2, d3⟩ hb3
  have rc3 := rc2.below hb3; have rp3 := rp2.below hb3; have hB3 := endB hB2 hb3
  clear d0 d1 d2 d3 rc2 rp2 hB2 hb3
  obtain ⟨d0, d1, d2, d3⟩ := D3
  go_wp2_with fail
  have H4 := aDefends_any _ 3 chainG 2 _ [] 0 2 _ rc3 chain_in (RI.nil _ none) (by decide)
  rw [k4] at H4
  refine H4.mono ?_
  clear H4
  rintro e w4 ⟨rfl, hb4⟩
  have D4 := keep4 ⟨d0, d1, d2, d3⟩ hb4
  have rc4 := rc3.below hb4; have rp4 := rp3.below hb4; have hB4 := endB hB3 hb4
  clear d0 d1 d2 d3 rc3 rp3 hB3 hb4
  obtain ⟨d0, d1, d2, d3⟩ := D4
  go_wp2_with fail
  have H5 := aIsStable_any _ 2 pairG 2 _ [0] 1 _ (rp4.below (newB _ _)) pair_in (new_ri1 _ 3 _) (by decide)
  rw [k5] at H5
  refine H5.mono ?_
  clear H5
  rintro e w5 ⟨rfl, hb5⟩
  have hb5 := thenB (newB w4 (.cells #[.int .i64 0] 3)) hb5
  have D5 := keep4 ⟨d0, d1, d2, d3⟩ hb5
  have rc5 := rc4.below hb5; have rp5 := rp4.below hb5; have hB5 := endB hB4 hb5
  clear d0 d1 d2 d3 rc4 rp4 hB4 hb5
  obtain ⟨d0, d1, d2, d3⟩ := D5
  go_wp2_with fail
  have H6 := aIsComplete_any _ 2 pairG 2 _ [0] 1 _ (rp5.below (newB _ _)) pair_in (new_ri1 _ 3 _) (by decide)
  rw [k6] at H6
  refine H6.mono ?_
  clear H6
  rintro e w6 ⟨rfl, hb6⟩
  have hb6 := thenB (newB w5 (.cells #[.int .i64 0] 3)) hb6
  have D6 := keep4 ⟨d0, d1, d2, d3⟩ hb6
  have rc6 := rc5.below hb6; have rp6 := rp5.below hb6; have hB6 := endB hB5 hb6
  clear d0 d1 d2 d3 rc5 rp5 hB5 hb6
  obtain ⟨d0, d1, d2, d3⟩ := D6
  go_wp2_with fail
  have H7 := aAdmissible_any _ 2 pairG 2 _ [0, 1] 2 _ (rp6.below (newB _ _)) pair_in (new_ri2 _ 3 _ _) (by decide)
  rw [k7] at H7
  refine H7.mono ?_
  clear H7
  rintro e w7 ⟨rfl, hb7⟩
  have hb7 := thenB (newB w6 (.cells #[.int .i64 0, .int .i64 1] 3)) hb7
  have D7 := keep4 ⟨d0, d1, d2, d3⟩ hb7
  have rc7 := rc6.below hb7; have rp7 := rp6.below hb7; have hB7 := endB hB6 hb7
  clear d0 d1 d2 d3 rc6 rp6 hB6 hb7
  obtain ⟨d0, d1, d2, d3⟩ := D7
  go_wp2_with fail
  go_ret
  exact ⟨rfl, hB7⟩
end Go.Proofs.YtiljbfeipfdmdaaDoor
