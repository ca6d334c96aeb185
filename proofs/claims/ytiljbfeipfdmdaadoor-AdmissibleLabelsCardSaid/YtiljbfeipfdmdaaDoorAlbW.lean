/- The walk of the statement AdmissibleLabels. -/
import Derived.Test.YtiljbfeipfdmdaaDoorPlain13d
import Derived.Test.YtiljbfeipfdmdaaDoorLb
import Derived.Test.YtiljbfeipfdmdaaDoorGenM
namespace Go.Proofs.YtiljbfeipfdmdaaDoor
open Go.ChangeShapes Go.WideShapes Go.ChangeAt Go.RowKit

set_option maxRecDepth 100000 in
set_option maxHeartbeats 8000000 in
theorem alabels_law_any (A : Option Addr) (arg : List Int) (c : Nat) (w : World)
    (hlc : arg.length ≤ c) (hc : c ≤ 9223372036854775807) (hr : RI w A arg) (hx : ∀ x ∈ arg, -9223372036854775808 ≤ x ∧ x ≤ 9223372036854775807) (hT : Tab w) :
    Calls Tryd.prog 14 #[.slice A arg.length c] w (RetB (.bool true) w) := by
  go_enter Tryd.func14, Tryd.ntmps14
  go_wp2_with fail
  refine (new_any A arg c w hlc hc hr hx).mono ?_
  rintro e w1 ⟨p, rfl, hp, hs1, hb1⟩
  have hp1 := hs1.lt
  clear hr hx
  go_wp2_with fail
  refine (graph_any p 7 w1 hs1 (by omega)).mono ?_
  rintro e w2 ⟨n, l, AL, cl, rfl, hN, hv, hrp, hloc, hs2, hg2⟩
  have hb2 : Below w.heap.size w w2 := hb1.trans (below_of_grownBy hg2 hp hb1.size)
  clear hs1 hb1 hg2
  go_wp2_with fail
  obtain ⟨W0, hW, c0, c1, hb0, hlt0⟩ := boxed w2 27 (.int .i64 n) (.slice AL l.length cl)
  rw [hW]
  clear hW
  have hst := GSt.start hp hp1 hb2 hs2 hrp hloc hb0 c0 c1
  have hn40 := hv.1.1; have hlen := hv.1.2.1; have hvR := hv.1
  have hn7 : n ≤ 7 := by omega
  have HV := Lib.hid hv
  clear hs2 hrp hloc hb0 c0 c1 hb2 hp1 hv
  generalize w2.heap.size = G at *
  refine (sets_any n W0 (by omega)).mono ?_
  rintro e B ⟨AS, cS, rfl, hrs, hbB⟩
  have hstB := hst.below hbB
  obtain ⟨d0, d1⟩ : _ ∧ _ := ⟨hstB.c0, hstB.c1⟩
  have hrB := hstB.rp
  have hBw := hstB.hb
  have hTB := hT.below hBw
  have hS : ∀ x ∈ setsL n, setB n x = true := fun x h => sets_mem h
  have hSl : (setsL n).length ≤ 1024 := by rw [setsL_length]; have := Nat.pow_le_pow_right (n := 2) (by omega) (show n ≤ 10 by omega); omega
  have hSk : ∀ k (h : k < (setsL n).length), setB n (setsL n)[k] = true := fun k h => hS _ (List.getElem_mem h)
  have HS := Lib.hid hSk
  clear hS hSk hst hstB hbB hT
  generalize setsL n = LS at *
  go_wp2_with fail
  go_loopw [16] (fun i wr => ∃ k : Nat, k ≤ LS.length ∧ i = .int .i64 k ∧ Below B.heap.size B wr) (fun i _ => LS.length - (intOf i).toNat)
  case atStart => exact ⟨0, Nat.zero_le _, rfl, Below.refl _ _⟩
  case round =>
    obtain ⟨k, hk, rfl, hbl⟩ := hrel
    by_cases hlt : k < LS.length
    case neg =>
      go_wp2_with fail
      refine (awake_any wr (hTB.below hbl)).mono ?_
      rintro e w9 ⟨rfl, hb9⟩
      go_wp2_with fail
      go_ret
      exact ⟨rfl, hBw.trans ((endB hbl hb9).mono hBw.size)⟩
    case pos =>
    have hlt' : (k : Int) < (LS.length : Int) := by omega
    have hsx := HS.out k hlt
    obtain ⟨b, o, AX, cx, hA, hcell, _, hri⟩ := hrs.below hbl k hlt
    subst hA
    generalize LS[k] = x at *
    have hxl : x.length ≤ 40 := by
      have h1 := set_nodes hsx
      have h2 := nodesB_length n (maskN x).testBit
      rw [h1] at h2; omega
    have P1 := compl_from hvR hsx
    have P2 := with_from (l := l) hsx
    have P3 := stab_from hvR hsx
    have hfl : (fromL n l x).length ≤ 40 := by have := (labB_iff.1 (fromL_lab n l x)).1; omega
    obtain ⟨W1, hW1⟩ : ∃ W1, W1 = wr := ⟨_, rfl⟩
    subst hW1
    have e0 := (hbl.cell (lt_of_cell d0)).trans d0
    have e1 := (hbl.cell (lt_of_cell d1)).trans d1
    go_wp2_with fail
    refine (lFromSet_any _ n l _ _ x _ W1 (hrB.below hbl) HV.out hri (by omega)).mono ?_
    rintro e W2 ⟨AY, cy, rfl, _, hry, _, hb2⟩
    have hbl2 := endB hbl hb2
    have hx2 := hri.below hb2
    have hr2 := hrB.below hbl2
    have hT2 := hTB.below hbl2
    have C1 : ∀ W, SB W2 W → Calls Tryd.prog 53 #[.agg #[.int .i64 (n : Int), .slice AL l.length cl], .slice AX x.length cx] W (RetB (.bool (comB n l (fromL n l x))) W) := fun W h => by
      have := aIsComplete_any AL n l cl AX x cx W (hr2.below h) hvR (hx2.below h) (by omega)
      rw [hsx, P1, Bool.true_and] at this
      exact this
    have C2 : ∀ W, SB W2 W → Calls Tryd.prog 24 #[.agg #[.int .i64 (n : Int), .slice AL l.length cl], .slice AY (fromL n l x).length cy] W (RetB (.bool (comB n l (fromL n l x))) W) := fun W h =>
      lIsComplete_any AL n l cl AY (fromL n l x) cy W (hr2.below h) HV.out (hry.below h) (by omega) (hT2.below h)
    have C3 : ∀ W, SB W2 W → Calls Tryd.prog 29 #[.slice AY (fromL n l x).length cy, .int .i64 1] W (RetI x W) := fun W h => by
      have := with_any AY (fromL n l x) cy 1 W (hry.below h) (by omega)
      rw [P2] at this
      exact this
    have C4 : ∀ W, SB W2 W → Calls Tryd.prog 54 #[.agg #[.int .i64 (n : Int), .slice AL l.length cl], .slice AX x.length cx] W (RetB (.bool (comB n l (fromL n l x) && !inB (fromL n l x) 3)) W) := fun W h => by
      have := aIsStable_any AL n l cl AX x cx W (hr2.below h) hvR (hx2.below h) (by omega)
      rw [hsx, P3, Bool.true_and] at this
      exact this
    have C5 : ∀ W, SB W2 W → Calls Tryd.prog 28 #[.slice AY (fromL n l x).length cy, .int .i64 3] W (RetB (.bool (inB (fromL n l x) 3)) W) := fun W h =>
      (in_any AY (fromL n l x) cy 3 W (by omega) (hry.below h)).mono fun e w' h => h.quiet.below
    have HC1 := Lib.hid C1; have HC2 := Lib.hid C2; have HC3 := Lib.hid C3; have HC4 := Lib.hid C4; have HC5 := Lib.hid C5
    have f0 := (hb2.cell (lt_of_cell e0)).trans e0
    have f1 := (hb2.cell (lt_of_cell e1)).trans e1
    clear C1 C2 C3 C4 C5 P1 P2 P3 hsx e0 e1 hcell hri
    generalize fromL n l x = y at *
    generalize comB n l y = q1 at *
    generalize inB y 3 = q2 at *
    cases q1
    case false =>
      go_wp2_with fail
      refine wp_region_textB [2, 5, 6, 8, 10] (SB W2) (RIs []) (by kernel_rfl) (by kernel_rfl) (by kernel_rfl) (Below.refl _ _).drew (RIs.nil _) ?_
      repeat (first
        | (refine TxtBL.skip (by rfl) ?_; simp only [Act.put, List.setIfInBounds_toArray, List.set_cons_zero, List.set_cons_succ])
        | (refine TxtBL.take (by rfl) (by rfl) ?_; apply Exists.intro; refine ⟨fun w1 hS1 => ?_, ?_⟩; (focus ((have g0 := (hS1.cell (lt_of_cell f0)).trans f0); (have g1 := (hS1.cell (lt_of_cell f1)).trans f1); go_simp; with_reducible rfl)); simp only [Act.put, List.setIfInBounds_toArray, List.set_cons_zero, List.set_cons_succ])
        | (refine TxtBL.takeE (by rfl) (by rfl) ?_; apply Exists.intro; refine ⟨fun w1 hS1 => ?_, ?_⟩; (focus ((have g0 := (hS1.cell (lt_of_cell f0)).trans f0); (have g1 := (hS1.cell (lt_of_cell f1)).trans f1); go_simp; with_reducible rfl)); simp only [Act.put, List.setIfInBounds_toArray, List.set_cons_zero, List.set_cons_succ]))
      refine TxtBL.callB (by rfl) (by rfl) ?_
      apply Exists.intro; apply Exists.intro
      refine ⟨fun w1 hS1 => ?_, ?_⟩
      focus (go_simp; first | with_reducible rfl | exact ⟨rfl, rfl⟩)
      refine ⟨.bool false, fun w1 hS1 hJ1 => HC1.out w1 hS1, ?_⟩
      simp only [Act.put, List.setIfInBounds_toArray, List.set_cons_zero, List.set_cons_succ]
      repeat (first
        | (refine TxtBL.skip (by rfl) ?_; simp only [Act.put, List.setIfInBounds_toArray, List.set_cons_zero, List.set_cons_succ])
        | (refine TxtBL.take (by rfl) (by rfl) ?_; apply Exists.intro; refine ⟨fun w1 hS1 => ?_, ?_⟩; (focus ((have g0 := (hS1.cell (lt_of_cell f0)).trans f0); (have g1 := (hS1.cell (lt_of_cell f1)).trans f1); go_simp; with_reducible rfl)); simp only [Act.put, List.setIfInBounds_toArray, List.set_cons_zero, List.set_cons_succ])
        | (refine TxtBL.takeE (by rfl) (by rfl) ?_; apply Exists.intro; refine ⟨fun w1 hS1 => ?_, ?_⟩; (focus ((have g0 := (hS1.cell (lt_of_cell f0)).trans f0); (have g1 := (hS1.cell (lt_of_cell f1)).trans f1); go_simp; with_reducible rfl)); simp only [Act.put, List.setIfInBounds_toArray, List.set_cons_zero, List.set_cons_succ]))
      refine TxtBL.callB (by rfl) (by rfl) ?_
      apply Exists.intro; apply Exists.intro
      refine ⟨fun w1 hS1 => ?_, ?_⟩
      focus (go_simp; first | with_reducible rfl | exact ⟨rfl, rfl⟩)
      refine ⟨.bool false, fun w1 hS1 hJ1 => HC2.out w1 hS1, ?_⟩
      simp only [Act.put, List.setIfInBounds_toArray, List.set_cons_zero, List.set_cons_succ]
      repeat (first
        | (refine TxtBL.skip (by rfl) ?_; simp only [Act.put, List.setIfInBounds_toArray, List.set_cons_zero, List.set_cons_succ])
        | (refine TxtBL.take (by rfl) (by rfl) ?_; apply Exists.intro; refine ⟨fun w1 hS1 => ?_, ?_⟩; (focus (skip; go_simp; with_reducible rfl)); simp only [Act.put, List.setIfInBounds_toArray, List.set_cons_zero, List.set_cons_succ])
        | (refine TxtBL.takeE (by rfl) (by rfl) ?_; apply Exists.intro; refine ⟨fun w1 hS1 => ?_, ?_⟩; (focus (skip; go_simp; with_reducible rfl)); simp only [Act.put, List.setIfInBounds_toArray, List.set_cons_zero, List.set_cons_succ]))
      refine TxtBL.nil (fun W3 hS3 _ => ?_)
      have k0 := (hS3.cell (lt_of_cell f0)).trans f0
      have k1 := (hS3.cell (lt_of_cell f1)).trans f1
      clear f0 f1
      go_wp2_with fail
      refine wp_region_textB [2, 5, 6, 8] (SB W3) (RIs []) (by kernel_rfl) (by kernel_rfl) (by kernel_rfl) (Below.refl _ _).drew (RIs.nil _) ?_
      repeat (first
        | (refine TxtBL.skip (by rfl) ?_; simp only [Act.put, List.setIfInBounds_toArray, List.set_cons_zero, List.set_cons_succ])
        | (refine TxtBL.take (by rfl) (by rfl) ?_; apply Exists.intro; refine ⟨fun w1 hS1 => ?_, ?_⟩; (focus ((have g0 := (hS1.cell (lt_of_cell k0)).trans k0); (have g1 := (hS1.cell (lt_of_cell k1)).trans k1); go_simp; with_reducible rfl)); simp only [Act.put, List.setIfInBounds_toArray, List.set_cons_zero, List.set_cons_succ])
        | (refine TxtBL.takeE (by rfl) (by rfl) ?_; apply Exists.intro; refine ⟨fun w1 hS1 => ?_, ?_⟩; (focus ((have g0 := (hS1.cell (lt_of_cell k0)).trans k0); (have g1 := (hS1.cell (lt_of_cell k1)).trans k1); go_simp; with_reducible rfl)); simp only [Act.put, List.setIfInBounds_toArray, List.set_cons_zero, List.set_cons_succ]))
      refine TxtBL.callB (by rfl) (by rfl) ?_
      apply Exists.intro; apply Exists.intro
      refine ⟨fun w1 hS1 => ?_, ?_⟩
      focus (go_simp; first | with_reducible rfl | exact ⟨rfl, rfl⟩)
      refine ⟨.bool false, fun w1 hS1 hJ1 => HC4.out w1 (endB hS3 hS1), ?_⟩
      simp only [Act.put, List.setIfInBounds_toArray, List.set_cons_zero, List.set_cons_succ]
      repeat (first
        | (refine TxtBL.skip (by rfl) ?_; simp only [Act.put, List.setIfInBounds_toArray, List.set_cons_zero, List.set_cons_succ])
        | (refine TxtBL.take (by rfl) (by rfl) ?_; apply Exists.intro; refine ⟨fun w1 hS1 => ?_, ?_⟩; (focus ((have g0 := (hS1.cell (lt_of_cell k0)).trans k0); (have g1 := (hS1.cell (lt_of_cell k1)).trans k1); go_simp; with_reducible rfl)); simp only [Act.put, List.setIfInBounds_toArray, List.set_cons_zero, List.set_cons_succ])
        | (refine TxtBL.takeE (by rfl) (by rfl) ?_; apply Exists.intro; refine ⟨fun w1 hS1 => ?_, ?_⟩; (focus ((have g0 := (hS1.cell (lt_of_cell k0)).trans k0); (have g1 := (hS1.cell (lt_of_cell k1)).trans k1); go_simp; with_reducible rfl)); simp only [Act.put, List.setIfInBounds_toArray, List.set_cons_zero, List.set_cons_succ]))
      refine TxtBL.callB (by rfl) (by rfl) ?_
      apply Exists.intro; apply Exists.intro
      refine ⟨fun w1 hS1 => ?_, ?_⟩
      focus (go_simp; first | with_reducible rfl | exact ⟨rfl, rfl⟩)
      refine ⟨.bool false, fun w1 hS1 hJ1 => HC2.out w1 (endB hS3 hS1), ?_⟩
      simp only [Act.put, List.setIfInBounds_toArray, List.set_cons_zero, List.set_cons_succ]
      repeat (first
        | (refine TxtBL.skip (by rfl) ?_; simp only [Act.put, List.setIfInBounds_toArray, List.set_cons_zero, List.set_cons_succ])
        | (refine TxtBL.take (by rfl) (by rfl) ?_; apply Exists.intro; refine ⟨fun w1 hS1 => ?_, ?_⟩; (focus (skip; go_simp; with_reducible rfl)); simp only [Act.put, List.setIfInBounds_toArray, List.set_cons_zero, List.set_cons_succ])
        | (refine TxtBL.takeE (by rfl) (by rfl) ?_; apply Exists.intro; refine ⟨fun w1 hS1 => ?_, ?_⟩; (focus (skip; go_simp; with_reducible rfl)); simp only [Act.put, List.setIfInBounds_toArray, List.set_cons_zero, List.set_cons_succ]))
      refine TxtBL.nil (fun W4 hS4 _ => ?_)
      have hbl4 := endB hbl2 (endB hS3 hS4)
      clear k0 k1
      go_wp2_with fail
      go_roundw
      case rel => exact ⟨k + 1, by omega, by go_num, hbl4⟩
      case measure => simp [intOf]; omega
    case true =>
    go_wp2_with fail
    refine wp_region_textB [2, 5, 6, 8, 10] (SB W2) (RIs []) (by kernel_rfl) (by kernel_rfl) (by kernel_rfl) (Below.refl _ _).drew (RIs.nil _) ?_
    repeat (first
      | (refine TxtBL.skip (by rfl) ?_; simp only [Act.put, List.setIfInBounds_toArray, List.set_cons_zero, List.set_cons_succ])
      | (refine TxtBL.take (by rfl) (by rfl) ?_; apply Exists.intro; refine ⟨fun w1 hS1 => ?_, ?_⟩; (focus ((have g0 := (hS1.cell (lt_of_cell f0)).trans f0); (have g1 := (hS1.cell (lt_of_cell f1)).trans f1); go_simp; with_reducible rfl)); simp only [Act.put, List.setIfInBounds_toArray, List.set_cons_zero, List.set_cons_succ])
      | (refine TxtBL.takeE (by rfl) (by rfl) ?_; apply Exists.intro; refine ⟨fun w1 hS1 => ?_, ?_⟩; (focus ((have g0 := (hS1.cell (lt_of_cell f0)).trans f0); (have g1 := (hS1.cell (lt_of_cell f1)).trans f1); go_simp; with_reducible rfl)); simp only [Act.put, List.setIfInBounds_toArray, List.set_cons_zero, List.set_cons_succ]))
    refine TxtBL.callB (by rfl) (by rfl) ?_
    apply Exists.intro; apply Exists.intro
    refine ⟨fun w1 hS1 => ?_, ?_⟩
    focus (go_simp; first | with_reducible rfl | exact ⟨rfl, rfl⟩)
    refine ⟨.bool true, fun w1 hS1 hJ1 => HC1.out w1 hS1, ?_⟩
    simp only [Act.put, List.setIfInBounds_toArray, List.set_cons_zero, List.set_cons_succ]
    repeat (first
      | (refine TxtBL.skip (by rfl) ?_; simp only [Act.put, List.setIfInBounds_toArray, List.set_cons_zero, List.set_cons_succ])
      | (refine TxtBL.take (by rfl) (by rfl) ?_; apply Exists.intro; refine ⟨fun w1 hS1 => ?_, ?_⟩; (focus ((have g0 := (hS1.cell (lt_of_cell f0)).trans f0); (have g1 := (hS1.cell (lt_of_cell f1)).trans f1); go_simp; with_reducible rfl)); simp only [Act.put, List.setIfInBounds_toArray, List.set_cons_zero, List.set_cons_succ])
      | (refine TxtBL.takeE (by rfl) (by rfl) ?_; apply Exists.intro; refine ⟨fun w1 hS1 => ?_, ?_⟩; (focus ((have g0 := (hS1.cell (lt_of_cell f0)).trans f0); (have g1 := (hS1.cell (lt_of_cell f1)).trans f1); go_simp; with_reducible rfl)); simp only [Act.put, List.setIfInBounds_toArray, List.set_cons_zero, List.set_cons_succ]))
    refine TxtBL.callB (by rfl) (by rfl) ?_
    apply Exists.intro; apply Exists.intro
    refine ⟨fun w1 hS1 => ?_, ?_⟩
    focus (go_simp; first | with_reducible rfl | exact ⟨rfl, rfl⟩)
    refine ⟨.bool true, fun w1 hS1 hJ1 => HC2.out w1 hS1, ?_⟩
    simp only [Act.put, List.setIfInBounds_toArray, List.set_cons_zero, List.set_cons_succ]
    repeat (first
      | (refine TxtBL.skip (by rfl) ?_; simp only [Act.put, List.setIfInBounds_toArray, List.set_cons_zero, List.set_cons_succ])
      | (refine TxtBL.take (by rfl) (by rfl) ?_; apply Exists.intro; refine ⟨fun w1 hS1 => ?_, ?_⟩; (focus (skip; go_simp; with_reducible rfl)); simp only [Act.put, List.setIfInBounds_toArray, List.set_cons_zero, List.set_cons_succ])
      | (refine TxtBL.takeE (by rfl) (by rfl) ?_; apply Exists.intro; refine ⟨fun w1 hS1 => ?_, ?_⟩; (focus (skip; go_simp; with_reducible rfl)); simp only [Act.put, List.setIfInBounds_toArray, List.set_cons_zero, List.set_cons_succ]))
    refine TxtBL.callI (by rfl) (by rfl) ?_
    apply Exists.intro; apply Exists.intro
    refine ⟨fun w1 hS1 => ?_, ?_⟩
    focus (go_simp; first | with_reducible rfl | exact ⟨rfl, rfl⟩)
    refine ⟨x, fun w1 hS1 hJ1 => HC3.out w1 hS1, fun A91 c91 => ?_⟩
    simp only [Act.put, List.setIfInBounds_toArray, List.set_cons_zero, List.set_cons_succ]
    repeat (first
      | (refine TxtBL.skip (by rfl) ?_; simp only [Act.put, List.setIfInBounds_toArray, List.set_cons_zero, List.set_cons_succ])
      | (refine TxtBL.take (by rfl) (by rfl) ?_; apply Exists.intro; refine ⟨fun w1 hS1 => ?_, ?_⟩; (focus (skip; go_simp; with_reducible rfl)); simp only [Act.put, List.setIfInBounds_toArray, List.set_cons_zero, List.set_cons_succ])
      | (refine TxtBL.takeE (by rfl) (by rfl) ?_; apply Exists.intro; refine ⟨fun w1 hS1 => ?_, ?_⟩; (focus (skip; go_simp; with_reducible rfl)); simp only [Act.put, List.setIfInBounds_toArray, List.set_cons_zero, List.set_cons_succ]))
    refine TxtBL.callB (by rfl) (by rfl) ?_
    apply Exists.intro; apply Exists.intro
    refine ⟨fun w1 hS1 => ?_, ?_⟩
    focus (go_simp; first | with_reducible rfl | exact ⟨rfl, rfl⟩)
    refine ⟨.bool true, fun w1 hS1 hJ1 => ?_, ?_⟩
    · have H9 := ints_any A91 AX x x c91 cx w1 (by omega) (by omega) hJ1.head (hx2.below hS1)
      rw [(eqB_iff _ _).2 rfl] at H9
      exact H9.mono fun e w' h => h.below
    simp only [Act.put, List.setIfInBounds_toArray, List.set_cons_zero, List.set_cons_succ]
    repeat (first
      | (refine TxtBL.skip (by rfl) ?_; simp only [Act.put, List.setIfInBounds_toArray, List.set_cons_zero, List.set_cons_succ])
      | (refine TxtBL.take (by rfl) (by rfl) ?_; apply Exists.intro; refine ⟨fun w1 hS1 => ?_, ?_⟩; (focus (skip; go_simp; with_reducible rfl)); simp only [Act.put, List.setIfInBounds_toArray, List.set_cons_zero, List.set_cons_succ])
      | (refine TxtBL.takeE (by rfl) (by rfl) ?_; apply Exists.intro; refine ⟨fun w1 hS1 => ?_, ?_⟩; (focus (skip; go_simp; with_reducible rfl)); simp only [Act.put, List.setIfInBounds_toArray, List.set_cons_zero, List.set_cons_succ]))
    refine TxtBL.nil (fun W3 hS3 _ => ?_)
    have k0 := (hS3.cell (lt_of_cell f0)).trans f0
    have k1 := (hS3.cell (lt_of_cell f1)).trans f1
    clear f0 f1
    rw [Bool.true_and] at HC4
    have hne : ((!q2) != (!q2)) = false := by simp
    go_wp2_with fail
    refine wp_region_textB [2, 5, 6, 8] (SB W3) (RIs []) (by kernel_rfl) (by kernel_rfl) (by kernel_rfl) (Below.refl _ _).drew (RIs.nil _) ?_
    repeat (first
      | (refine TxtBL.skip (by rfl) ?_; simp only [Act.put, List.setIfInBounds_toArray, List.set_cons_zero, List.set_cons_succ])
      | (refine TxtBL.take (by rfl) (by rfl) ?_; apply Exists.intro; refine ⟨fun w1 hS1 => ?_, ?_⟩; (focus ((have g0 := (hS1.cell (lt_of_cell k0)).trans k0); (have g1 := (hS1.cell (lt_of_cell k1)).trans k1); go_simp; with_reducible rfl)); simp only [Act.put, List.setIfInBounds_toArray, List.set_cons_zero, List.set_cons_succ])
      | (refine TxtBL.takeE (by rfl) (by rfl) ?_; apply Exists.intro; refine ⟨fun w1 hS1 => ?_, ?_⟩; (focus ((have g0 := (hS1.cell (lt_of_cell k0)).trans k0); (have g1 := (hS1.cell (lt_of_cell k1)).trans k1); go_simp; with_reducible rfl)); simp only [Act.put, List.setIfInBounds_toArray, List.set_cons_zero, List.set_cons_succ]))
    refine TxtBL.callB (by rfl) (by rfl) ?_
    apply Exists.intro; apply Exists.intro
    refine ⟨fun w1 hS1 => ?_, ?_⟩
    focus (go_simp; first | with_reducible rfl | exact ⟨rfl, rfl⟩)
    refine ⟨.bool (!q2), fun w1 hS1 hJ1 => HC4.out w1 (endB hS3 hS1), ?_⟩
    simp only [Act.put, List.setIfInBounds_toArray, List.set_cons_zero, List.set_cons_succ]
    repeat (first
      | (refine TxtBL.skip (by rfl) ?_; simp only [Act.put, List.setIfInBounds_toArray, List.set_cons_zero, List.set_cons_succ])
      | (refine TxtBL.take (by rfl) (by rfl) ?_; apply Exists.intro; refine ⟨fun w1 hS1 => ?_, ?_⟩; (focus ((have g0 := (hS1.cell (lt_of_cell k0)).trans k0); (have g1 := (hS1.cell (lt_of_cell k1)).trans k1); go_simp; with_reducible rfl)); simp only [Act.put, List.setIfInBounds_toArray, List.set_cons_zero, List.set_cons_succ])
      | (refine TxtBL.takeE (by rfl) (by rfl) ?_; apply Exists.intro; refine ⟨fun w1 hS1 => ?_, ?_⟩; (focus ((have g0 := (hS1.cell (lt_of_cell k0)).trans k0); (have g1 := (hS1.cell (lt_of_cell k1)).trans k1); go_simp; with_reducible rfl)); simp only [Act.put, List.setIfInBounds_toArray, List.set_cons_zero, List.set_cons_succ]))
    refine TxtBL.callB (by rfl) (by rfl) ?_
    apply Exists.intro; apply Exists.intro
    refine ⟨fun w1 hS1 => ?_, ?_⟩
    focus (go_simp; first | with_reducible rfl | exact ⟨rfl, rfl⟩)
    refine ⟨.bool true, fun w1 hS1 hJ1 => HC2.out w1 (endB hS3 hS1), ?_⟩
    simp only [Act.put, List.setIfInBounds_toArray, List.set_cons_zero, List.set_cons_succ]
    repeat (first
      | (refine TxtBL.skip (by rfl) ?_; simp only [Act.put, List.setIfInBounds_toArray, List.set_cons_zero, List.set_cons_succ])
      | (refine TxtBL.take (by rfl) (by rfl) ?_; apply Exists.intro; refine ⟨fun w1 hS1 => ?_, ?_⟩; (focus (skip; go_simp; with_reducible rfl)); simp only [Act.put, List.setIfInBounds_toArray, List.set_cons_zero, List.set_cons_succ])
      | (refine TxtBL.takeE (by rfl) (by rfl) ?_; apply Exists.intro; refine ⟨fun w1 hS1 => ?_, ?_⟩; (focus (skip; go_simp; with_reducible rfl)); simp only [Act.put, List.setIfInBounds_toArray, List.set_cons_zero, List.set_cons_succ]))
    refine TxtBL.callB (by rfl) (by rfl) ?_
    apply Exists.intro; apply Exists.intro
    refine ⟨fun w1 hS1 => ?_, ?_⟩
    focus (go_simp; first | with_reducible rfl | exact ⟨rfl, rfl⟩)
    refine ⟨.bool q2, fun w1 hS1 hJ1 => HC5.out w1 (endB hS3 hS1), ?_⟩
    simp only [Act.put, List.setIfInBounds_toArray, List.set_cons_zero, List.set_cons_succ]
    repeat (first
      | (refine TxtBL.skip (by rfl) ?_; simp only [Act.put, List.setIfInBounds_toArray, List.set_cons_zero, List.set_cons_succ])
      | (refine TxtBL.take (by rfl) (by rfl) ?_; apply Exists.intro; refine ⟨fun w1 hS1 => ?_, ?_⟩; (focus (skip; go_simp; with_reducible rfl)); simp only [Act.put, List.setIfInBounds_toArray, List.set_cons_zero, List.set_cons_succ])
      | (refine TxtBL.takeE (by rfl) (by rfl) ?_; apply Exists.intro; refine ⟨fun w1 hS1 => ?_, ?_⟩; (focus (skip; go_simp; with_reducible rfl)); simp only [Act.put, List.setIfInBounds_toArray, List.set_cons_zero, List.set_cons_succ]))
    refine TxtBL.nil (fun W4 hS4 _ => ?_)
    have hbl4 := endB hbl2 (endB hS3 hS4)
    clear k0 k1
    go_wp2_with fail
    go_roundw
    case rel => exact ⟨k + 1, by omega, by go_num, hbl4⟩
    case measure => simp [intOf]; omega
end Go.Proofs.YtiljbfeipfdmdaaDoor
