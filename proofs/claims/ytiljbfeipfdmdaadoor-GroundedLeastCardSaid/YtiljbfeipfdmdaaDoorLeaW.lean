/- The walk of the statement GroundedLeast. -/
import Derived.Test.YtiljbfeipfdmdaaDoorPlain12c
import Derived.Test.YtiljbfeipfdmdaaDoorLc
import Derived.Test.YtiljbfeipfdmdaaDoorLb
import Derived.Test.YtiljbfeipfdmdaaDoorGst
namespace Go.Proofs.YtiljbfeipfdmdaaDoor
open Go.ChangeShapes Go.WideShapes Go.ChangeAt Go.RowKit

set_option maxRecDepth 100000 in
set_option maxHeartbeats 8000000 in
theorem gleast_law_any (A : Option Addr) (arg : List Int) (c : Nat) (w : World)
    (hlc : arg.length ≤ c) (hc : c ≤ 9223372036854775807) (hr : RI w A arg) (hx : ∀ x ∈ arg, -9223372036854775808 ≤ x ∧ x ≤ 9223372036854775807) (hT : Tab w) :
    Calls Tryd.prog 11 #[.slice A arg.length c] w (RetB (.bool true) w) := by
  go_enter Tryd.func11, Tryd.ntmps11
  go_wp2_with fail
  refine (new_any A arg c w hlc hc hr hx).mono ?_
  rintro e w1 ⟨p, rfl, hp, hs1, hb1⟩
  have hp1 := hs1.lt
  clear hr hx
  go_wp2_with fail
  refine (graph_any p 6 w1 hs1 (by omega)).mono ?_
  rintro e w2 ⟨n, l, AL, cl, rfl, hN, hv, hrp, hloc, hs2, hg2⟩
  have hb2 : Below w.heap.size w w2 := hb1.trans (below_of_grownBy hg2 hp hb1.size)
  clear hs1 hb1 hg2
  go_wp2_with fail
  obtain ⟨W0, hW, c0, c1, hb0, hlt0⟩ := boxed w2 27 (.int .i64 n) (.slice AL l.length cl)
  rw [hW]
  clear hW
  have hst := GSt.start hp hp1 hb2 hs2 hrp hloc hb0 c0 c1
  have hn40 := hv.1.1; have hlen := hv.1.2.1
  have hn6 : n ≤ 6 := by omega
  have HV := Lib.hid hv
  clear hs2 hrp hloc hb0 c0 c1 hb2 hp1 hv
  generalize w2.heap.size = G at *
  obtain ⟨c0, c1⟩ : _ ∧ _ := ⟨hst.c0, hst.c1⟩
  have hB0 := hst.hb
  have hrp := hst.rp
  refine (gLabel_any _ n l _ W0 hrp HV.out (hT.below hB0)).mono ?_
  rintro e W1 ⟨AX, cx, rfl, _, hrx, _, hb1⟩
  have hcom := gr_comB HV.out.1
  have hless : ∀ y, comB n l y = true → lessB (lst n (grL n l)) y = true := fun y hy => gr_less HV.out.1 hy
  have hxl := lst_length n (grL n l)
  generalize lst n (grL n l) = x at *
  have Hxl := Lib.hid hxl; have Hless := Lib.hid hless
  have hx6 : x.length ≤ 6 := by omega
  have hB1 := endB hB0 hb1
  have hT1 := hT.below hB1
  have hr1 := hrp.below hb1
  have d0 := (hb1.cell (lt_of_cell c0)).trans c0
  have d1 := (hb1.cell (lt_of_cell c1)).trans c1
  clear hst c0 c1 hB0 hrp hb1 hT hless hxl
  go_wp2_with fail
  have H9 := lIsComplete_any AL n l cl AX x cx W1 hr1 HV.out hrx (by omega) hT1
  rw [hcom] at H9
  refine H9.mono ?_
  clear H9
  rintro e W2 ⟨rfl, hb2⟩
  have hB2 := endB hB1 hb2
  have hT2 := hT1.below hb2
  have hr2 := hr1.below hb2
  have hrx2 := hrx.below hb2
  have e0 := (hb2.cell (lt_of_cell d0)).trans d0
  have e1 := (hb2.cell (lt_of_cell d1)).trans d1
  clear hT1 hr1 hrx d0 d1 hb2 hB1 hcom
  go_wp2_with fail
  refine (r11Labellings_any n W2 (by omega)).mono ?_
  rintro e B ⟨AS, cS, rfl, hrs, hbB⟩
  have d0 := (hbB.cell (lt_of_cell e0)).trans e0
  have d1 := (hbB.cell (lt_of_cell e1)).trans e1
  have hrB := hr2.below hbB
  have hrxB := hrx2.below hbB
  have hBw := endB hB2 hbB
  have hTB := hT2.below hbB
  have hLS := labs_small (n := n) (by omega)
  have hlab : ∀ k (h : k < (labsL n).length), labB n (labsL n)[k] = true := fun k h => (mem_labs n _).1 (List.getElem_mem h)
  have Hlab := Lib.hid hlab
  clear hlab hbB hT2 hB2 hr2 hrx2 e0 e1
  generalize labsL n = LS at *
  go_wp2_with fail
  go_loopw [22] (fun i wr => ∃ k : Nat, k ≤ LS.length ∧ i = .int .i64 k ∧ Below B.heap.size B wr) (fun i _ => LS.length - (intOf i).toNat)
  case atStart => exact ⟨0, Nat.zero_le _, rfl, Below.refl _ _⟩
  case round =>
    obtain ⟨k, hk, rfl, hbl⟩ := hrel
    by_cases hlt : k < LS.length
    case neg =>
      go_wp2_with fail
      refine (awake12_any wr (hTB.below hbl)).mono ?_
      rintro e w9 ⟨rfl, hb9⟩
      go_wp2_with fail
      go_ret
      exact ⟨rfl, hBw.trans ((endB hbl hb9).mono hBw.size)⟩
    case pos =>
    have hlt' : (k : Int) < (LS.length : Int) := by omega
    have hly := Hlab.out k hlt
    obtain ⟨b, o, AY, cy, hA, hcell, _, hri⟩ := hrs.below hbl k hlt
    subst hA
    generalize LS[k] = y at *
    have hyl := (labB_iff.1 hly).1
    have hy6 : y.length ≤ 6 := by omega
    obtain ⟨W3, hW3⟩ : ∃ W3, W3 = wr := ⟨_, rfl⟩
    subst hW3
    have e0 := (hbl.cell (lt_of_cell d0)).trans d0
    have e1 := (hbl.cell (lt_of_cell d1)).trans d1
    have Hyl := Lib.hid hyl
    clear hly hyl
    go_wp2_with fail
    refine (r11IsComplete_any _ n l _ _ y _ _ (hrB.below hbl) HV.out hri (by omega) (hTB.below hbl)).mono ?_
    rintro e W4 ⟨rfl, hb4⟩
    have hbl4 := endB hbl hb4
    cases hco : comB n l y
    case false =>
      clear hco
      go_wp2_with fail
      go_roundw
      case rel => exact ⟨k + 1, by omega, by go_num, hbl4⟩
      case measure => simp [intOf]; omega
    case true =>
    have hle := Hless.out y hco
    have H9 := lLess_any AX AY x y cx cy W4 (hrxB.below hbl4) (hri.below hb4) (by omega) (by omega)
    rw [hle] at H9
    clear hle hco
    go_wp2_with fail
    refine H9.mono ?_
    clear H9
    rintro e W5 ⟨rfl, rfl⟩
    go_wp2_with fail
    go_roundw
    case rel => exact ⟨k + 1, by omega, by go_num, hbl4⟩
    case measure => simp [intOf]; omega
end Go.Proofs.YtiljbfeipfdmdaaDoor
