/- The walk of the statement LabellingComplete. -/
import Derived.Test.YtiljbfeipfdmdaaDoorLc
import Derived.Test.YtiljbfeipfdmdaaDoorLb
import Derived.Test.YtiljbfeipfdmdaaDoorGst
namespace Go.Proofs.YtiljbfeipfdmdaaDoor
open Go.ChangeShapes Go.WideShapes Go.ChangeAt Go.RowKit

set_option maxRecDepth 100000 in
set_option maxHeartbeats 8000000 in
theorem complete_law_any (A : Option Addr) (arg : List Int) (c : Nat) (w : World)
    (hlc : arg.length ≤ c) (hc : c ≤ 9223372036854775807) (hr : RI w A arg) (hx : ∀ x ∈ arg, -9223372036854775808 ≤ x ∧ x ≤ 9223372036854775807) (hT : Tab w) :
    Calls Tryd.prog 6 #[.slice A arg.length c] w (RetB (.bool true) w) := by
  go_enter Tryd.func6, Tryd.ntmps6
  go_wp2_with fail
  refine (new_any A arg c w hlc hc hr hx).mono ?_
  rintro e w1 ⟨p, rfl, hp, hs1, hb1⟩
  have hp1 := hs1.lt
  clear hr hx
  go_wp2_with fail
  refine (graph_any p 5 w1 hs1 (by omega)).mono ?_
  rintro e w2 ⟨n, l, AL, cl, rfl, hN, hv, hrp, hloc, hs2, hg2⟩
  have hb2 : Below w.heap.size w w2 := hb1.trans (below_of_grownBy hg2 hp hb1.size)
  clear hs1 hb1 hg2
  go_wp2_with fail
  obtain ⟨W0, hW, c0, c1, hb0, hlt0⟩ := boxed w2 27 (.int .i64 n) (.slice AL l.length cl)
  rw [hW]
  clear hW
  have hst := GSt.start hp hp1 hb2 hs2 hrp hloc hb0 c0 c1
  have hn40 := hv.1.1; have hlen := hv.1.2.1
  have hn5 : n ≤ 5 := by omega
  have HV := Lib.hid hv
  clear hs2 hrp hloc hb0 c0 c1 hb2 hp1 hv
  generalize w2.heap.size = G at *
  refine (r11Labellings_any n W0 (by omega)).mono ?_
  rintro e B ⟨AS, cS, rfl, hrs, hbB⟩
  have hstB := hst.below hbB
  obtain ⟨d0, d1⟩ : _ ∧ _ := ⟨hstB.c0, hstB.c1⟩
  have hrB := hstB.rp
  have hBw := hstB.hb
  have hTB := hT.below hBw
  have hLS := labs_small (n := n) (by omega)
  have hlab : ∀ k (h : k < (labsL n).length), labB n (labsL n)[k] = true := fun k h => (mem_labs n _).1 (List.getElem_mem h)
  have Hlab := Lib.hid hlab
  clear hlab hst hstB hbB hT
  generalize labsL n = LS at *
  go_wp2_with fail
  go_loopw [20] (fun i wr => ∃ k : Nat, k ≤ LS.length ∧ i = .int .i64 k ∧ Below B.heap.size B wr) (fun i _ => LS.length - (intOf i).toNat)
  case atStart => exact ⟨0, Nat.zero_le _, rfl, Below.refl _ _⟩
  case round =>
    obtain ⟨k, hk, rfl, hbl⟩ := hrel
    by_cases hlt : k < LS.length
    case neg =>
      go_wp2_with fail
      refine (awake11_any wr (hTB.below hbl)).mono ?_
      rintro e w9 ⟨rfl, hb9⟩
      go_wp2_with fail
      go_ret
      exact ⟨rfl, hBw.trans ((endB hbl hb9).mono hBw.size)⟩
    case pos =>
    have hlt' : (k : Int) < (LS.length : Int) := by omega
    have hlx := Hlab.out k hlt
    obtain ⟨b, o, AX, cx, hA, hcell, _, hri⟩ := hrs.below hbl k hlt
    subst hA
    generalize LS[k] = x at *
    have hxl := (labB_iff.1 hlx).1
    have hx5 : x.length ≤ 5 := by omega
    have Hlx := Lib.hid hlx; have Hxl := Lib.hid hxl
    obtain ⟨W1, hW1⟩ : ∃ W1, W1 = wr := ⟨_, rfl⟩
    subst hW1
    have e0 := (hbl.cell (lt_of_cell d0)).trans d0
    have e1 := (hbl.cell (lt_of_cell d1)).trans d1
    have hr1 := hrB.below hbl
    have hT1 := hTB.below hbl
    clear hlx hxl
    go_wp2_with fail
    refine (lIsComplete_any _ n l _ _ x _ _ hr1 HV.out hri (by omega) hT1).mono ?_
    rintro e W2 ⟨rfl, hb2⟩
    have hbl2 := endB hbl hb2
    cases hco : comB n l x
    case false =>
      clear hco
      go_wp2_with fail
      go_roundw
      case rel => exact ⟨k + 1, by omega, by go_num, hbl2⟩
      case measure => simp [intOf]; omega
    case true =>
    have Hfw := Lib.hid (from_with HV.out.1 hco)
    have Hhit : Hid (∀ i, i < n → ((attackersL l i).any fun a => inB (withL x 1) a) = (x.getD i 0 == 2)) := Lib.hid fun i hi => com_hit HV.out.1 hco hi
    clear hco
    have hri2 := hri.below hb2
    clear e0 e1
    go_wp2_with fail
    refine (with_any _ x _ 1 W2 hri2 (by omega)).mono ?_
    rintro e W3 ⟨A3, c3, rfl, _, hri3, _, hb3⟩
    have hwl : (withL x 1).length ≤ 5 := by have := nodesB_length x.length (fun i => x.getD i 0 == 1); unfold withL; omega
    have hbl3 := endB hbl2 hb3
    have e0 := (hbl3.cell (lt_of_cell d0)).trans d0
    have e1 := (hbl3.cell (lt_of_cell d1)).trans d1
    have hr3 := hrB.below hbl3
    have hri23 := hri2.below hb3
    clear hri hri2 hr1 hT1 hb2 hbl
    generalize withL x 1 = s at *
    go_wp2_with fail
    refine (lFromSet_any _ n l _ _ s _ W3 hr3 HV.out hri3 (by omega)).mono ?_
    rintro e W4 ⟨A4, c4, rfl, _, hri4, _, hb4⟩
    rw [Hfw.out] at hri4 ⊢
    have hbl4 := endB hbl3 hb4
    have hri34 := hri3.below hb4
    have hri24 := hri23.below hb4
    clear e0 e1
    go_wp2_with fail
    have H9 := ints_any A4 AX x x c4 cx W4 (by omega) (by omega) hri4 hri24
    rw [(eqB_iff _ _).2 rfl] at H9
    refine H9.mono ?_
    clear H9
    rintro e W5 hh
    obtain ⟨rfl, hb5⟩ := hh.below
    clear hh
    have hbl5 := endB hbl4 hb5
    have hri35 := hri34.below hb5
    have hri25 := hri24.below hb5
    clear hri4 hri34 hri24 hb4 hb5 hbl2 hbl3 hbl4 hri3 hri23 hr3 hb3
    go_wp2_with fail
    go_loopw [8] (fun i wr => ∃ j : Nat, j ≤ n ∧ i = .int .i64 j ∧ Below W5.heap.size W5 wr) (fun i _ => n - (intOf i).toNat)
    case atStart => exact ⟨0, Nat.zero_le _, rfl, Below.refl _ _⟩
    case round =>
      obtain ⟨j, hj, rfl, hbi⟩ := hrel
      have hbl6 := endB hbl5 hbi
      have e0 := (hbl6.cell (lt_of_cell d0)).trans d0
      have e1 := (hbl6.cell (lt_of_cell d1)).trans d1
      by_cases hjn : j < n
      case neg =>
        have hjn' : ¬ (j : Int) < (n : Int) := by omega
        go_wp2_with fail
        go_roundw
        case rel => exact ⟨k + 1, by omega, by go_num, hbl6⟩
        case measure => simp [intOf]; omega
      case pos =>
      have hjn' : (j : Int) < (n : Int) := by omega
      obtain ⟨W6, hW6⟩ : ∃ W6, W6 = wr := ⟨_, rfl⟩
      subst hW6
      go_wp2_with fail
      refine (gAttackers_any _ n l _ j W6 (hrB.below hbl6) HV.out (hTB.below hbl6)).mono ?_
      rintro e W7 ⟨A7, c7, rfl, _, hri7, _, hb7⟩
      have hal := attackersL_len l j
      have hbi7 := endB hbi hb7
      have hri37 := hri35.below hbi7
      have hri27 := hri25.below hbi7
      have Hh := Lib.hid (Hhit.out j hjn)
      generalize attackersL l j = at_ at *
      clear e0 e1
      go_wp2_with fail
      go_loop [9, 46] (fun h t => ∃ q : Nat, q ≤ at_.length ∧ t = .int .i64 q ∧ h = .bool ((at_.take q).any fun a => inB s a)) (fun _ t => at_.length - (intOf t).toNat)
      case atStart => exact ⟨0, Nat.zero_le _, rfl, rfl⟩
      case round =>
        obtain ⟨q, hq, rfl, rfl⟩ := hrel
        by_cases hql : q < at_.length
        case pos =>
          obtain ⟨b7, o7, rfl, hc7⟩ := hri7.at_ hql
          have Hs := Lib.hid (any_take (P := fun a => inB s a) hql)
          cases hb : (at_.take q).any fun a => inB s a
          · have Hb := Lib.hid hb; clear hb
            go_wp2_with fail
            refine (in_any _ s _ at_[q] W7 (by omega) hri37).mono ?_
            rintro e w8 ⟨rfl, rfl⟩
            go_wp2_with fail
            go_round
            case rel => exact ⟨q + 1, by omega, by go_num, by rw [Hs.out, Hb.out, Bool.false_or]⟩
            case measure => simp [intOf]; omega
          · have Hb := Lib.hid hb; clear hb
            go_wp2_with fail
            go_round
            case rel => exact ⟨q + 1, by omega, by go_num, by rw [Hs.out, Hb.out, Bool.true_or]⟩
            case measure => simp [intOf]; omega
        case neg =>
        have hall : ((at_.take q).any fun a => inB s a) = (x.getD j 0 == 2) := by rw [List.take_of_length_le (by omega)]; exact Hh.out
        rw [hall]
        clear hall
        have hjx : j < x.length := by rw [Hxl.out]; exact hjn
        have hjx' : (j : Int) < (x.length : Int) := by omega
        obtain ⟨bx, ox, rfl, hcx⟩ := hri27.at_ hjx
        have hgx : x.getD j 0 = x[j] := by simp [List.getD, hjx]
        rw [hgx]
        have hne : ((x[j] == 2) != (x[j] == 2)) = false := by simp
        clear hgx
        go_wp2_with fail
        go_roundw
        case rel => exact ⟨j + 1, by omega, by go_num, hbi7⟩
        case measure => simp [intOf]; omega
end Go.Proofs.YtiljbfeipfdmdaaDoor
