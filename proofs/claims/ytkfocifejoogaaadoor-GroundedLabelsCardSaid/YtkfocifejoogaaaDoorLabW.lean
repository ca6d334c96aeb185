/- The walk of the statement GroundedLabels. -/
import Derived.Test.YtkfocifejoogaaaDoorLab12
import Derived.Test.YtkfocifejoogaaaDoorGst
namespace Go.Proofs.YtkfocifejoogaaaDoor
open Go.ChangeShapes Go.WideShapes Go.ChangeAt Go.RowKit

/-- element k of a slice of graphs is a valid graph -/
def GEl (w : World) (g k : Nat) : Prop := ∃ (n : Nat) (l : List (Int × Int)) (A : Option Addr) (c : Nat), w.cell? ⟨g, k * 2, none⟩ = some (.int .i64 (n : Int)) ∧ w.cell? ⟨g, k * 2 + 1, none⟩ = some (.slice A l.length c) ∧ RP w A l ∧ Vld n l
theorem GEl.below {w w' : World} {g k : Nat} (h : GEl w g k) (hb : Below w.heap.size w w') : GEl w' g k := by
  obtain ⟨n, l, A, c, h1, h2, h3, h4⟩ := h
  exact ⟨n, l, A, c, (hb.cell (lt_of_cell h1)).trans h1, (hb.cell (lt_of_cell h2)).trans h2, h3.below hb, h4⟩

set_option maxRecDepth 100000 in
set_option maxHeartbeats 8000000 in
theorem labels_any (A : Option Addr) (arg : List Int) (c : Nat) (w : World) (hlc : arg.length ≤ c) (hc : c ≤ 9223372036854775807) (hr : RI w A arg) (hx : ∀ x ∈ arg, -9223372036854775808 ≤ x ∧ x ≤ 9223372036854775807) (hT : Tab w) :
    Calls Tryd.prog 3 #[.slice A arg.length c] w (RetB (.bool true) w) := by
  go_enter Tryd.func3, Tryd.ntmps3
  go_wp2_with fail
  refine (new_any A arg c w hlc hc hr hx).mono ?_
  rintro e w1 ⟨p, rfl, hp, hs1, hb1⟩
  have hp1 := hs1.lt
  clear hr hx
  go_wp2_with fail
  refine (graph_any p 6 w1 hs1 (by omega)).mono ?_
  rintro e w2 ⟨n2, l2, A2, c2, rfl, hN2, hv2, hr2, hloc2, hs2, hg2⟩
  go_wp2_with fail
  refine (graph_any p 12 w2 hs2 (by omega)).mono ?_
  rintro e w3 ⟨n3, l3, A3, c3, rfl, hN3, hv3, hr3, hloc3, hs3, hg3⟩
  go_wp2_with fail
  refine (graph_any p 40 w3 hs3 (by omega)).mono ?_
  rintro e w4 ⟨n4, l4, A4, c4, rfl, hN4, hv4, hr4, hloc4, hs4, hg4⟩
  have r2 : RP w4 A2 l2 := (hr2.grown hg3 (fun b o h e => by have := hloc2 b o h; omega)).grown hg4 (fun b o h e => by have := hloc2 b o h; omega)
  have r3 : RP w4 A3 l3 := hr3.grown hg4 (fun b o h e => by have := hloc3 b o h; have := hs2.lt; omega)
  have hb4 : Below w.heap.size w w4 := ((hb1.trans (below_of_grownBy hg2 hp hb1.size)).trans (below_of_grownBy hg3 hp (Nat.le_trans hb1.size hg2.size))).trans (below_of_grownBy hg4 hp (Nat.le_trans hb1.size (Nat.le_trans hg2.size hg3.size)))
  clear hs1 hb1 hs2 hg2 hs3 hg3 hs4 hg4 hr2 hr3 hloc2 hloc3 hloc4 hN2 hN3 hN4 hp1 hp
  go_wp2_with fail
  obtain ⟨W0, hW, kg, hb0⟩ : ∃ W0, w4.alloc (.cells #[.int .i64 (n2 : Int), .slice A2 l2.length c2, .int .i64 (n3 : Int), .slice A3 l3.length c3, .int .i64 (n4 : Int), .slice A4 l4.length c4] 27) = W0 ∧ Blk W0 w4.heap.size 27 #[.int .i64 (n2 : Int), .slice A2 l2.length c2, .int .i64 (n3 : Int), .slice A3 l3.length c3, .int .i64 (n4 : Int), .slice A4 l4.length c4] ∧ Below w4.heap.size w4 W0 := ⟨_, rfl, Blk.new _ _ _, newB _ _⟩
  rw [hW]
  clear hW
  have hel : ∀ k, k < 3 → GEl W0 w4.heap.size k := fun k hk => by
    have hcell := kg.cell
    match k, hk with
    | 0, _ => exact ⟨n2, l2, A2, c2, by rw [hcell]; rfl, by rw [hcell]; rfl, r2.below hb0, hv2⟩
    | 1, _ => exact ⟨n3, l3, A3, c3, by rw [hcell]; rfl, by rw [hcell]; rfl, r3.below hb0, hv3⟩
    | 2, _ => exact ⟨n4, l4, A4, c4, by rw [hcell]; rfl, by rw [hcell]; rfl, hr4.below hb0, hv4⟩
  have hbW := endB hb4 hb0
  have hTW := hT.below hbW
  have Hel := Lib.hid hel
  clear hel kg r2 r3 hr4 hb0 hb4
  generalize w4.heap.size = G at *
  go_loopw [16] (fun i wr => ∃ k : Nat, k ≤ 3 ∧ i = .int .i64 k ∧ Below W0.heap.size W0 wr) (fun i _ => 3 - (intOf i).toNat)
  case atStart => exact ⟨0, Nat.zero_le _, rfl, Below.refl _ _⟩
  case round =>
    obtain ⟨k, hk, rfl, hbl⟩ := hrel
    have hTr := hTW.below hbl
    by_cases hk3 : k < 3
    case neg =>
      go_wp2_with fail
      refine (awake12_any wr hTr).mono ?_
      rintro e w5 ⟨rfl, hb5⟩
      go_wp2_with fail
      go_ret
      exact ⟨rfl, hbW.trans ((endB hbl hb5).mono hbW.size)⟩
    case pos =>
    obtain ⟨n, l, AL, cl, e0, e1, hrl, hv⟩ := (Hel.out k hk3).below hbl
    obtain ⟨W1, hW1, d0, d1, hbW1, _⟩ := boxed wr 27 (.int .i64 (n : Int)) (.slice AL l.length cl)
    have hr1 := hrl.below hbW1
    have hT1 := hTr.below hbW1
    have hn40 := hv.1.1
    go_wp2_with fail
    clear e0 e1 hrl hTr hW1
    have hl1 : ∀ f, (lst n f).length ≤ 4611686018427387904 := fun f => by rw [lst_length]; omega
    have Hl1 := Lib.hid hl1
    clear hl1
    obtain ⟨x1, hx1⟩ : ∃ x1, lst n (grL n l) = x1 := ⟨_, rfl⟩
    obtain ⟨x2, hx2⟩ : ∃ x2, lst n (grR n l) = x2 := ⟨_, rfl⟩
    have hx1l : x1.length ≤ 4611686018427387904 := by rw [← hx1]; exact Hl1.out _
    have hx2l : x2.length ≤ 4611686018427387904 := by rw [← hx2]; exact Hl1.out _
    have Hx1 := Lib.hid hx1; have Hx2 := Lib.hid hx2
    clear hx1 hx2
    refine wp_region_textB [1, 3, 4, 6, 8, 10, 11] (SB W1) (RIs []) (by kernel_rfl) (by kernel_rfl) (by kernel_rfl) (Below.refl _ _).drew (RIs.nil _) ?_
    repeat (first
      | (refine TxtBL.skip (by rfl) ?_; simp only [Act.put, List.setIfInBounds_toArray, List.set_cons_zero, List.set_cons_succ])
      | (refine TxtBL.take (by rfl) (by rfl) ?_; apply Exists.intro; refine ⟨fun w1 hS1 => ?_, ?_⟩; (focus ((have g0 := (hS1.cell (lt_of_cell d0)).trans d0); (have g1 := (hS1.cell (lt_of_cell d1)).trans d1); go_simp; with_reducible rfl)); simp only [Act.put, List.setIfInBounds_toArray, List.set_cons_zero, List.set_cons_succ])
      | (refine TxtBL.takeE (by rfl) (by rfl) ?_; apply Exists.intro; refine ⟨fun w1 hS1 => ?_, ?_⟩; (focus ((have g0 := (hS1.cell (lt_of_cell d0)).trans d0); (have g1 := (hS1.cell (lt_of_cell d1)).trans d1); go_simp; with_reducible rfl)); simp only [Act.put, List.setIfInBounds_toArray, List.set_cons_zero, List.set_cons_succ]))
    refine TxtBL.callI (by rfl) (by rfl) ?_
    apply Exists.intro; apply Exists.intro
    refine ⟨fun w1 hS1 => ?_, ?_⟩
    focus (go_simp; first | with_reducible rfl | exact ⟨rfl, rfl⟩)
    refine ⟨x1, fun w1 hS1 hJ1 => ?_, fun A5 c5 => ?_⟩
    · rw [← Hx1.out]; exact gLabel_any _ n l _ w1 (hr1.below hS1) hv (hT1.below hS1)
    simp only [Act.put, List.setIfInBounds_toArray, List.set_cons_zero, List.set_cons_succ]
    repeat (first
      | (refine TxtBL.skip (by rfl) ?_; simp only [Act.put, List.setIfInBounds_toArray, List.set_cons_zero, List.set_cons_succ])
      | (refine TxtBL.take (by rfl) (by rfl) ?_; apply Exists.intro; refine ⟨fun w1 hS1 => ?_, ?_⟩; (focus ((have g0 := (hS1.cell (lt_of_cell d0)).trans d0); (have g1 := (hS1.cell (lt_of_cell d1)).trans d1); go_simp; with_reducible rfl)); simp only [Act.put, List.setIfInBounds_toArray, List.set_cons_zero, List.set_cons_succ])
      | (refine TxtBL.takeE (by rfl) (by rfl) ?_; apply Exists.intro; refine ⟨fun w1 hS1 => ?_, ?_⟩; (focus ((have g0 := (hS1.cell (lt_of_cell d0)).trans d0); (have g1 := (hS1.cell (lt_of_cell d1)).trans d1); go_simp; with_reducible rfl)); simp only [Act.put, List.setIfInBounds_toArray, List.set_cons_zero, List.set_cons_succ]))
    refine TxtBL.callI (by rfl) (by rfl) ?_
    apply Exists.intro; apply Exists.intro
    refine ⟨fun w1 hS1 => ?_, ?_⟩
    focus (go_simp; first | with_reducible rfl | exact ⟨rfl, rfl⟩)
    refine ⟨x1, fun w1 hS1 hJ1 => ?_, fun A6 c6 => ?_⟩
    · rw [← Hx1.out]; exact r12Label_any _ n l _ w1 (hr1.below hS1) hv
    simp only [Act.put, List.setIfInBounds_toArray, List.set_cons_zero, List.set_cons_succ]
    repeat (first
      | (refine TxtBL.skip (by rfl) ?_; simp only [Act.put, List.setIfInBounds_toArray, List.set_cons_zero, List.set_cons_succ])
      | (refine TxtBL.take (by rfl) (by rfl) ?_; apply Exists.intro; refine ⟨fun w1 hS1 => ?_, ?_⟩; (focus (skip; go_simp; with_reducible rfl)); simp only [Act.put, List.setIfInBounds_toArray, List.set_cons_zero, List.set_cons_succ])
      | (refine TxtBL.takeE (by rfl) (by rfl) ?_; apply Exists.intro; refine ⟨fun w1 hS1 => ?_, ?_⟩; (focus (skip; go_simp; with_reducible rfl)); simp only [Act.put, List.setIfInBounds_toArray, List.set_cons_zero, List.set_cons_succ]))
    refine TxtBL.callB (by rfl) (by rfl) ?_
    apply Exists.intro; apply Exists.intro
    refine ⟨fun w1 hS1 => ?_, ?_⟩
    focus (go_simp; first | with_reducible rfl | exact ⟨rfl, rfl⟩)
    refine ⟨.bool true, fun w1 hS1 hJ1 => ?_, ?_⟩
    · have H9 := ints_any A5 A6 x1 x1 c5 c6 w1 hx1l hx1l hJ1.tail.head hJ1.head
      rw [(eqB_iff _ _).2 rfl] at H9
      exact H9.mono fun e w' h => h.below
    simp only [Act.put, List.setIfInBounds_toArray, List.set_cons_zero, List.set_cons_succ]
    repeat (first
      | (refine TxtBL.skip (by rfl) ?_; simp only [Act.put, List.setIfInBounds_toArray, List.set_cons_zero, List.set_cons_succ])
      | (refine TxtBL.take (by rfl) (by rfl) ?_; apply Exists.intro; refine ⟨fun w1 hS1 => ?_, ?_⟩; (focus ((have g0 := (hS1.cell (lt_of_cell d0)).trans d0); (have g1 := (hS1.cell (lt_of_cell d1)).trans d1); go_simp; with_reducible rfl)); simp only [Act.put, List.setIfInBounds_toArray, List.set_cons_zero, List.set_cons_succ])
      | (refine TxtBL.takeE (by rfl) (by rfl) ?_; apply Exists.intro; refine ⟨fun w1 hS1 => ?_, ?_⟩; (focus ((have g0 := (hS1.cell (lt_of_cell d0)).trans d0); (have g1 := (hS1.cell (lt_of_cell d1)).trans d1); go_simp; with_reducible rfl)); simp only [Act.put, List.setIfInBounds_toArray, List.set_cons_zero, List.set_cons_succ]))
    refine TxtBL.callI (by rfl) (by rfl) ?_
    apply Exists.intro; apply Exists.intro
    refine ⟨fun w1 hS1 => ?_, ?_⟩
    focus (go_simp; first | with_reducible rfl | exact ⟨rfl, rfl⟩)
    refine ⟨x2, fun w1 hS1 hJ1 => ?_, fun A7 c7 => ?_⟩
    · rw [← Hx2.out]; exact gRanks_any _ n l _ w1 (hr1.below hS1) hv (hT1.below hS1)
    simp only [Act.put, List.setIfInBounds_toArray, List.set_cons_zero, List.set_cons_succ]
    repeat (first
      | (refine TxtBL.skip (by rfl) ?_; simp only [Act.put, List.setIfInBounds_toArray, List.set_cons_zero, List.set_cons_succ])
      | (refine TxtBL.take (by rfl) (by rfl) ?_; apply Exists.intro; refine ⟨fun w1 hS1 => ?_, ?_⟩; (focus ((have g0 := (hS1.cell (lt_of_cell d0)).trans d0); (have g1 := (hS1.cell (lt_of_cell d1)).trans d1); go_simp; with_reducible rfl)); simp only [Act.put, List.setIfInBounds_toArray, List.set_cons_zero, List.set_cons_succ])
      | (refine TxtBL.takeE (by rfl) (by rfl) ?_; apply Exists.intro; refine ⟨fun w1 hS1 => ?_, ?_⟩; (focus ((have g0 := (hS1.cell (lt_of_cell d0)).trans d0); (have g1 := (hS1.cell (lt_of_cell d1)).trans d1); go_simp; with_reducible rfl)); simp only [Act.put, List.setIfInBounds_toArray, List.set_cons_zero, List.set_cons_succ]))
    refine TxtBL.callI (by rfl) (by rfl) ?_
    apply Exists.intro; apply Exists.intro
    refine ⟨fun w1 hS1 => ?_, ?_⟩
    focus (go_simp; first | with_reducible rfl | exact ⟨rfl, rfl⟩)
    refine ⟨x2, fun w1 hS1 hJ1 => ?_, fun A8 c8 => ?_⟩
    · rw [← Hx2.out]; exact r12Ranks_any _ n l _ w1 (hr1.below hS1) hv
    simp only [Act.put, List.setIfInBounds_toArray, List.set_cons_zero, List.set_cons_succ]
    repeat (first
      | (refine TxtBL.skip (by rfl) ?_; simp only [Act.put, List.setIfInBounds_toArray, List.set_cons_zero, List.set_cons_succ])
      | (refine TxtBL.take (by rfl) (by rfl) ?_; apply Exists.intro; refine ⟨fun w1 hS1 => ?_, ?_⟩; (focus (skip; go_simp; with_reducible rfl)); simp only [Act.put, List.setIfInBounds_toArray, List.set_cons_zero, List.set_cons_succ])
      | (refine TxtBL.takeE (by rfl) (by rfl) ?_; apply Exists.intro; refine ⟨fun w1 hS1 => ?_, ?_⟩; (focus (skip; go_simp; with_reducible rfl)); simp only [Act.put, List.setIfInBounds_toArray, List.set_cons_zero, List.set_cons_succ]))
    refine TxtBL.callB (by rfl) (by rfl) ?_
    apply Exists.intro; apply Exists.intro
    refine ⟨fun w1 hS1 => ?_, ?_⟩
    focus (go_simp; first | with_reducible rfl | exact ⟨rfl, rfl⟩)
    refine ⟨.bool true, fun w1 hS1 hJ1 => ?_, ?_⟩
    · have H9 := ints_any A7 A8 x2 x2 c7 c8 w1 hx2l hx2l hJ1.tail.head hJ1.head
      rw [(eqB_iff _ _).2 rfl] at H9
      exact H9.mono fun e w' h => h.below
    simp only [Act.put, List.setIfInBounds_toArray, List.set_cons_zero, List.set_cons_succ]
    repeat (first
      | (refine TxtBL.skip (by rfl) ?_; simp only [Act.put, List.setIfInBounds_toArray, List.set_cons_zero, List.set_cons_succ])
      | (refine TxtBL.take (by rfl) (by rfl) ?_; apply Exists.intro; refine ⟨fun w1 hS1 => ?_, ?_⟩; (focus (skip; go_simp; with_reducible rfl)); simp only [Act.put, List.setIfInBounds_toArray, List.set_cons_zero, List.set_cons_succ])
      | (refine TxtBL.takeE (by rfl) (by rfl) ?_; apply Exists.intro; refine ⟨fun w1 hS1 => ?_, ?_⟩; (focus (skip; go_simp; with_reducible rfl)); simp only [Act.put, List.setIfInBounds_toArray, List.set_cons_zero, List.set_cons_succ]))
    refine TxtBL.nil (fun W2 hS2 _ => ?_)
    have hbl2 := hbl.trans ((hbW1.trans (hS2.mono hbW1.size)).mono hbl.size)
    clear d0 d1 hr1 hT1
    go_wp2_with fail
    go_roundw
    case rel => exact ⟨k + 1, by omega, by go_num, hbl2⟩
    case measure => simp [intOf]; omega
end Go.Proofs.YtkfocifejoogaaaDoor
