/- The walk of the statement GroundedLocal. -/
import Derived.Test.YtiljbfeipfdmdaaDoorPlainLoc
import Derived.Test.YtiljbfeipfdmdaaDoorLb
import Derived.Test.YtiljbfeipfdmdaaDoorGenM
namespace Go.Proofs.YtiljbfeipfdmdaaDoor
open Go.ChangeShapes Go.WideShapes Go.ChangeAt Go.RowKit

set_option maxRecDepth 100000 in
set_option maxHeartbeats 8000000 in
theorem local_law_any (A : Option Addr) (arg : List Int) (c : Nat) (w : World)
    (hlc : arg.length ≤ c) (hc : c ≤ 9223372036854775807) (hr : RI w A arg) (hx : ∀ x ∈ arg, -9223372036854775808 ≤ x ∧ x ≤ 9223372036854775807) (hT : Tab w) :
    Calls Tryd.prog 10 #[.slice A arg.length c] w (RetB (.bool true) w) := by
  go_enter Tryd.func10, Tryd.ntmps10
  go_wp2_with fail
  refine (new_any A arg c w hlc hc hr hx).mono ?_
  rintro e w1 ⟨p, rfl, hp, hs1, hb1⟩
  have hp1 := hs1.lt
  clear hr hx
  go_wp2_with fail
  refine (graph_any p 9 w1 hs1 (by omega)).mono ?_
  rintro e w2 ⟨n, l, AL, cl, rfl, hN, hv, hrp, hloc, hs2, hg2⟩
  have hb2 : Below w.heap.size w w2 := hb1.trans (below_of_grownBy hg2 hp hb1.size)
  clear hs1 hb1 hg2
  go_wp2_with fail
  obtain ⟨W0, hW, c0, c1, hb0, hlt0⟩ := boxed w2 27 (.int .i64 n) (.slice AL l.length cl)
  rw [hW]
  clear hW
  have hst := GSt.start hp hp1 hb2 hs2 hrp hloc hb0 c0 c1
  have hn40 := hv.1.1; have hlen := hv.1.2.1
  have hn9 : n ≤ 9 := by omega
  have HV := Lib.hid hv
  clear hs2 hrp hloc hb0 c0 c1 hb2 hp1 hv
  generalize w2.heap.size = G at *
  obtain ⟨c0, c1⟩ : _ ∧ _ := ⟨hst.c0, hst.c1⟩
  have hB0 := hst.hb
  have hrp := hst.rp
  refine (gLabel_any _ n l _ W0 hrp HV.out (hT.below hB0)).mono ?_
  rintro e W1 ⟨AX, cx, rfl, _, hrx, _, hb1⟩
  have hxl := lst_length n (grL n l)
  have hxat : ∀ j, j < n → (lst n (grL n l)).getD j 0 = grL n l j := fun j hj => lst_getD hj
  generalize lst n (grL n l) = x at *
  have Hxl := Lib.hid hxl; have Hxat := Lib.hid hxat
  have hxn : ((x.length : Int) != (n : Int)) = false := by simp [hxl]
  have hB1 := endB hB0 hb1
  have hT1 := hT.below hB1
  have hr1 := hrp.below hb1
  have d0 := (hb1.cell (lt_of_cell c0)).trans c0
  have d1 := (hb1.cell (lt_of_cell c1)).trans c1
  clear hst c0 c1 hB0 hrp hb1 hT hxl hxat
  go_wp2_with fail
  have H9 := gReverse_any AL n l cl W1 hr1 hlen
  rw [nGn_vld HV.out, nGl_vld HV.out] at H9
  refine H9.mono ?_
  clear H9 hxn
  rintro e W2 ⟨AR, cR, rfl, hrr, _, hb2⟩
  have hB2 := endB hB1 hb2
  have e0 := (hb2.cell (lt_of_cell d0)).trans d0
  have e1 := (hb2.cell (lt_of_cell d1)).trans d1
  obtain ⟨B, hW, b0, b1, hbB, hltB⟩ := boxed W2 27 (.int .i64 n) (.slice AR (revL l).length cR)
  have hBw := endB hB2 hbB
  have hTB := hT1.below (endB hb2 hbB)
  have hrB := hr1.below (endB hb2 hbB)
  have hrR := hrr.below hbB
  have hrxB := hrx.below (endB hb2 hbB)
  have f0 := (hbB.cell (lt_of_cell e0)).trans e0
  have f1 := (hbB.cell (lt_of_cell e1)).trans e1
  have hrl := revL_length l
  have Hvr := Lib.hid (revL_vld HV.out)
  have Hrl := Lib.hid hrl
  clear d0 d1 hT1 hr1 hrx hrr hB1 hrl
  go_upto_region 7 with fail
  try rw [hW]
  clear hW e0 e1
  go_wp2_with fail
  generalize W2.heap.size = G2 at *
  go_loopw [7] (fun i wr => ∃ k : Nat, k ≤ n ∧ i = .int .i64 k ∧ Below B.heap.size B wr) (fun i _ => n - (intOf i).toNat)
  case atStart => exact ⟨0, Nat.zero_le _, rfl, Below.refl _ _⟩
  case round =>
    obtain ⟨k, hk, rfl, hbl⟩ := hrel
    have g0 := (hbl.cell (lt_of_cell f0)).trans f0
    have g1 := (hbl.cell (lt_of_cell f1)).trans f1
    have h0 := (hbl.cell (lt_of_cell b0)).trans b0
    have h1 := (hbl.cell (lt_of_cell b1)).trans b1
    by_cases hlt : k < n
    case neg =>
      have hlt' : ¬ (k : Int) < (n : Int) := by omega
      go_wp2_with fail
      refine (awake12_any wr (hTB.below hbl)).mono ?_
      rintro e w9 ⟨rfl, hb9⟩
      go_wp2_with fail
      go_ret
      exact ⟨rfl, hBw.trans ((endB hbl hb9).mono hBw.size)⟩
    case pos =>
    have hlt' : (k : Int) < (n : Int) := by omega
    obtain ⟨W3, hW3⟩ : ∃ W3, W3 = wr := ⟨_, rfl⟩
    subst hW3
    obtain ⟨nl, hnl, hin, hsrt, hnn, hrng, hcl⟩ := back_list HV.out hlt
    have hpart : ∀ q (hq : q < nl.length), grL nl.length (indP nl l) q = grL n l nl[q].toNat := fun q hq => part_gr HV.out hsrt hnn hrng hcl hq
    have hvi := vld_ind HV.out hsrt (by omega)
    have Hpart := Lib.hid hpart; have Hvi := Lib.hid hvi; have Hrng := Lib.hid hrng
    go_wp2_with fail
    have H9 := gReach_any AR n (revL l) cR k W3 (hrR.below hbl) (by have := Hrl.out; omega) (hTB.below hbl)
    rw [nGn_vld Hvr.out, nGl_vld Hvr.out, Int.toNat_natCast, hnl] at H9
    clear hnl hsrt hcl hpart hvi hrng
    refine H9.mono ?_
    clear H9
    rintro e W4 ⟨A4, c4, rfl, _, hr4, _, hb4⟩
    have hbl4 := endB hbl hb4
    have p0 := (hb4.cell (lt_of_cell g0)).trans g0
    have p1 := (hb4.cell (lt_of_cell g1)).trans g1
    clear g0 g1 h0 h1
    go_wp2_with fail
    have H9 := gInduced_any AL n l cl A4 nl c4 W4 (hrB.below hbl4) hlen hr4 (by omega)
    rw [nGn_vld HV.out, nGl_vld HV.out, Int.toNat_natCast, hin] at H9
    clear hin
    refine H9.mono ?_
    clear H9
    rintro e W5 ⟨A5, c5, rfl, hr5, _, hb5⟩
    have hbl5 := endB hbl4 hb5
    have q0 := (hb5.cell (lt_of_cell p0)).trans p0
    have q1 := (hb5.cell (lt_of_cell p1)).trans p1
    have hr45 := hr4.below hb5
    clear p0 p1
    go_wp2_with fail
    refine (gLabel_any A5 nl.length (indP nl l) c5 W5 hr5 Hvi.out (hTB.below hbl5)).mono ?_
    rintro e W6 ⟨A6, c6, rfl, _, hr6, _, hb6⟩
    have hbl6 := endB hbl5 hb6
    have r0 := (hb6.cell (lt_of_cell q0)).trans q0
    have r1 := (hb6.cell (lt_of_cell q1)).trans q1
    have hr46 := hr45.below hb6
    have hrx6 := hrxB.below hbl6
    have hyl := lst_length nl.length (grL nl.length (indP nl l))
    have hyat : ∀ j, j < nl.length → (lst nl.length (grL nl.length (indP nl l))).getD j 0 = grL nl.length (indP nl l) j := fun j hj => lst_getD hj
    generalize lst nl.length (grL nl.length (indP nl l)) = y at *
    have hyn : ((y.length : Int) != (nl.length : Int)) = false := by simp [hyl]
    have Hyl := Lib.hid hyl; have Hyat := Lib.hid hyat
    clear q0 q1 hyl hyat hr4 hr45
    go_wp2_with fail
    clear hyn
    go_loopw [45] (fun t wr => ∃ (q nd : Nat), q ≤ nl.length ∧ t = .int .i64 q ∧ wr = W6.drewN nd) (fun t _ => nl.length - (intOf t).toNat)
    case atStart => exact ⟨0, 0, Nat.zero_le _, rfl, rfl⟩
    case round =>
      obtain ⟨q, nd, hq, rfl, rfl⟩ := hrel
      by_cases hql : q < nl.length
      case neg =>
        have hbl7 : Below B.heap.size B (W6.drewN nd) := below_drewN hbl6 nd
        go_wp2_with fail
        go_roundw
        case rel => exact ⟨k + 1, by omega, by go_num, hbl7⟩
        case measure => simp [intOf]; omega
      case pos =>
      have hql' : (q : Int) < (nl.length : Int) := by omega
      obtain ⟨b4, o4, rfl, hc4⟩ := hr46.at_ hql
      obtain ⟨j, hj, hjn⟩ := Hrng.out _ (List.getElem_mem hql)
      have hpq := Hpart.out q hql
      rw [hj, Int.toNat_natCast] at hpq
      rw [hj] at hc4
      have hqy : q < y.length := by rw [Hyl.out]; exact hql
      have hjx : j < x.length := by rw [Hxl.out]; exact hjn
      have hqy' : (q : Int) < (y.length : Int) := by omega
      have hjx' : (j : Int) < (x.length : Int) := by omega
      have hjn' : (j : Int) < (n : Int) := by omega
      obtain ⟨b6, o6, rfl, hc6⟩ := hr6.at_ hqy
      obtain ⟨bx, ox, hAx, hcx⟩ := hrx6.at_ hjx
      subst hAx
      have hval : y[q] = x[j] := by
        have h1 := Hyat.out q hql
        have h2 := Hxat.out j hjn
        rw [hpq, ← h2] at h1
        have h3 : y.getD q 0 = y[q] := by simp [List.getD, hqy]
        have h4 : x.getD j 0 = x[j] := by simp [List.getD, hjx]
        rw [h3, h4] at h1; exact h1
      rw [hval] at hc6
      generalize x[j] = u at *
      have hne : (u != u) = false := by simp
      clear hj hpq hval
      go_wp2_with fail
      go_quiet (fail)
      go_wp2_with fail
      go_roundw
      case rel => exact ⟨q + 1, _, by omega, by go_num, rfl⟩
      case measure => simp [intOf]; omega
end Go.Proofs.YtiljbfeipfdmdaaDoor
