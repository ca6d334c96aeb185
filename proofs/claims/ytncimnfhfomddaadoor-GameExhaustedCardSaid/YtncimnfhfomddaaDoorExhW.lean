/- law25: the walk of GameExhausted. -/
import Derived.Test.YtncimnfhfomddaaDoorSvA
import Derived.Test.YtncimnfhfomddaaDoorBsW
import Derived.Test.YtncimnfhfomddaaDoorNg
import Derived.Test.YtncimnfhfomddaaDoorBxG
namespace Go.Proofs.YtncimnfhfomddaaDoor
open Go.ChangeShapes Go.WideShapes Go.ChangeAt Go.RowKit

set_option maxRecDepth 100000 in
set_option maxHeartbeats 16000000 in
theorem exh_law_any (A : Option Addr) (arg : List Int) (c : Nat) (w : World)
    (hlc : arg.length ≤ c) (hc : c ≤ 9223372036854775807) (hr : RI w A arg) (hx : ∀ x ∈ arg, -9223372036854775808 ≤ x ∧ x ≤ 9223372036854775807) (hT : Tab w) :
    Calls Tryd.prog 9 #[.slice A arg.length c] w (RetB (.bool true) w) := by
  go_enter Tryd.func9, Tryd.ntmps9
  go_wp2_with fail
  refine (new_any A arg c w hlc hc hr hx).mono ?_
  rintro e w1 ⟨p, rfl, hp, hs1, hb1⟩
  clear hr hx
  go_wp2_with fail
  refine (netGraph_any p 4 w1 hs1 (by omega) (by omega)).mono ?_
  rintro e w2 ⟨n, l, AL, cl, rfl, hN1, hN, hv, hrp, hloc, hs2, hg2, hAn⟩
  have hb2 : Below w.heap.size w w2 := hb1.trans (below_of_grownBy hg2 hp hb1.size)
  have HV := Lib.hid hv
  clear hs1 hb1 hg2 hv hloc hs2 hp hAn hN1
  go_upto_region 3 with fail
  obtain ⟨W0, hW, k0, hb0, hs0⟩ := boxA w2 24 #[.int .i64 (n : Int), .slice AL l.length cl]
  rw [hW]
  obtain ⟨z0, z1, -, -⟩ := k0.two
  have hrp0 := hrp.below hb0
  have hB0 := endB hb2 hb0
  have hT0 := hT.below hB0
  have hal : l ≠ [] → ∀ b o, AL = some ⟨b, o, none⟩ → b < W0.heap.size := fun hne b o e => by
    cases l with
    | nil => exact absurd rfl hne
    | cons q l =>
      obtain ⟨b', o', e', h1, -⟩ := hrp0 0 (by simp)
      rw [e] at e'; injection e' with e'; injection e' with e' _ _; subst e'
      exact lt_of_cell h1
  have Hal := Lib.hid hal
  clear hW k0 hb0 hrp hb2 hT hal hs0
  generalize w2.heap.size = G at *
  go_wp2_with fail
  go_loopw [5] (fun t wr => ∃ i : Nat, i ≤ n ∧ t = .int .i64 (i : Int) ∧ Below W0.heap.size W0 wr) (fun t _ => n - (intOf t).toNat)
  case atStart => exact ⟨0, Nat.zero_le _, rfl, Below.refl _ _⟩
  case round =>
    obtain ⟨i, hi, rfl, hbl⟩ := hrel
    have y0 := (hbl.cell (lt_of_cell z0)).trans z0
    have y1 := (hbl.cell (lt_of_cell z1)).trans z1
    by_cases hin : i < n
    case neg =>
      go_wp2_with fail
      refine (awake25_any wr (hT0.below hbl)).mono ?_
      rintro e w5 ⟨rfl, hb5⟩
      go_wp2_with fail
      go_ret
      exact ⟨rfl, endB hB0 (hbl.trans (hb5.mono hbl.size))⟩
    case pos =>
    have hin' : (i : Int) < (n : Int) := by omega
    have hrpr := hrp0.below hbl; have hTr := hT0.below hbl
    have hsz := hbl.size
    go_upto_region 7 with fail
    obtain ⟨WB, hWB, kB, hbB, hsB⟩ := boxA wr 3 #[.int .i64 1, .int .i64 2]
    rw [hWB]
    obtain ⟨b0, b1, -, -⟩ := kB.two
    have q0 := (hbB.cell (lt_of_cell y0)).trans y0
    have q1 := (hbB.cell (lt_of_cell y1)).trans y1
    have hrpB := hrpr.below hbB; have hTB := hTr.below hbB
    have hbWB : Below W0.heap.size W0 WB := hbl.trans (hbB.mono hsz)
    have Hwb := Lib.hid hbWB
    have hszB : W0.heap.size ≤ WB.heap.size := hbWB.size
    clear hWB kB y0 y1 hrpr hTr hbB hbl hbWB hsB hsz
    generalize wr.heap.size = gb at *
    go_wp2_with fail
    go_loopw [24] (fun t wx => ∃ j : Nat, j ≤ 2 ∧ t = .int .i64 (j : Int) ∧ Below WB.heap.size WB wx) (fun t _ => 2 - (intOf t).toNat)
    case atStart => exact ⟨0, Nat.zero_le _, rfl, Below.refl _ _⟩
    case round =>
      obtain ⟨j, hj, rfl, hbr⟩ := hrel
      by_cases hj2 : j < 2
      case neg =>
        go_wp2_with fail
        go_roundw
        case rel => exact ⟨i + 1, by omega, by go_num, Hwb.out.trans (hbr.mono hszB)⟩
        case measure => simp [intOf]; omega
      case pos =>
      have hcj : WB.cell? ⟨gb, j, none⟩ = some (.int .i64 ((j + 1 : Nat) : Int)) := by
        rcases (by omega : j = 0 ∨ j = 1) with rfl | rfl
        · exact b0
        · exact b1
      have hcr := (hbr.cell (lt_of_cell hcj)).trans hcj
      have e0 := (hbr.cell (lt_of_cell q0)).trans q0; have e1 := (hbr.cell (lt_of_cell q1)).trans q1
      have hj0 : (0 : Int) ≤ (j : Int) := by omega
      have hj1 : (j : Int) < 2 := by omega
      have hk : j + 1 = 1 ∨ j + 1 = 2 := by omega
      obtain ⟨k, hkj⟩ : ∃ k, j + 1 = k := ⟨_, rfl⟩
      rw [hkj] at hcr hk
      have Hk := Lib.hid hk
      have hrpX := hrpB.below hbr; have hTX := hTB.below hbr
      have hszr := hbr.size
      obtain ⟨wo, hwo⟩ : ∃ wo, wo = wr := ⟨_, rfl⟩
      subst hwo
      have Hsol := Lib.hid (gSolveU_any AL cl k i hk HV.out hin (by omega) wo hrpX hTX)
      clear hcj hk
      go_wp2_with fail
      refine Hsol.out.mono ?_
      rintro e w5 ⟨OO, A5, c5, rfl, -, -, -, -, -, -, -, hb5⟩
      obtain ⟨BY, hBY⟩ : ∃ BY, byW n l k i = BY := ⟨_, rfl⟩
      have Hby := Lib.hid hBY
      rw [hBY]
      clear hBY Hsol
      go_upto_region 10 with fail
      obtain ⟨W6, hW6, k6, hb6, hs6⟩ := boxA w5 64 #[.int .i64 (k : Int), .int .i64 (i : Int), .int .i64 (BY : Int), .slice A5 OO.length c5]
      rw [hW6]
      have a2 : W6.cell? ⟨w5.heap.size, 2, none⟩ = some (.int .i64 (BY : Int)) := k6.cell 2
      have hb56 := hb5.trans (hb6.mono hb5.size)
      have f0 := (hb56.cell (lt_of_cell e0)).trans e0; have f1 := (hb56.cell (lt_of_cell e1)).trans e1
      have hrp6 := hrpX.below hb56; have hT6 := hTX.below hb56
      have hbr6 := hbr.trans (hb56.mono hszr)
      have hsz6 := hbr6.size
      clear hW6 k6 hb5 hb6 hs6 hb56 hrpX hTX e0 e1 hbr hszr
      generalize w5.heap.size = g5 at *
      have hhas := gnHas_any AL (n : Int) l cl (i : Int) (i : Int) W6 hrp6 HV.out.1.2.1
      rw [hasB_att] at hhas
      have Hhas := Lib.hid hhas
      clear hhas
      go_upto_region 12 with fail
      go_cut [44] (fun t44 wx => t44 = .bool (decide (k = 2) && attQ l i i) ∧ Below W6.heap.size W6 wx)
      case first =>
        by_cases hk2 : k = 2
        · have hq : ((k : Int) == 2) = true := by rw [beq_iff_eq]; omega
          have hd : decide (k = 2) = true := decide_eq_true hk2
          have Hd := Lib.hid hd
          clear hd hk2
          go_wp2_with fail
          refine Hhas.out.mono ?_
          rintro e w7 ⟨rfl, hb7⟩
          go_wp2_with fail
          go_meet
          exact ⟨by rw [Hd.out]; rfl, hb7⟩
        · have hq : ((k : Int) == 2) = false := by rw [beq_eq_false_iff_ne]; omega
          have hd : decide (k = 2) = false := decide_eq_false hk2
          have Hd := Lib.hid hd
          clear hd hk2
          go_wp2_with fail
          go_meet
          exact ⟨by rw [Hd.out]; rfl, Below.refl _ _⟩
      obtain ⟨rfl, hb7⟩ := hcut
      have f0 := (hb7.cell (lt_of_cell f0)).trans f0; have f1 := (hb7.cell (lt_of_cell f1)).trans f1; have a2 := (hb7.cell (lt_of_cell a2)).trans a2
      have hrp7 := hrp6.below hb7; have hT7 := hT6.below hb7
      have hbr7 := hbr6.trans (hb7.mono hsz6)
      have hsz7 := hbr7.size
      clear hrp6 hT6 hb7 hbr6 hsz6 Hhas
      cases hkk : (decide (k = 2) && attQ l i i)
      case true =>
        rw [Bool.and_eq_true, decide_eq_true_iff] at hkk
        have hby2 : BY = 2 := by rw [← Hby.out, hkk.1]; exact byW_self hin hkk.2
        subst hby2
        clear hkk
        go_wp2_with fail
        go_roundw
        case rel => exact ⟨j + 1, by omega, by go_num, hbr7⟩
        case measure => simp [intOf]; omega
      case false =>
      have hself : k = 2 → attQ l i i = false := fun e => by rw [e] at hkk; simpa using hkk
      have Hself := Lib.hid hself
      clear hkk hself
      go_upto_region 16 with fail
      have hg0 := lt_of_cell f0; have hg5 := lt_of_cell a2
      obtain ⟨W8, hW8, k8, hb8, hs8⟩ := boxA wc 3 #[.int .i64 4000]
      rw [hW8]
      have f0 := (hb8.cell (lt_of_cell f0)).trans f0; have f1 := (hb8.cell (lt_of_cell f1)).trans f1; have a2 := (hb8.cell (lt_of_cell a2)).trans a2
      have hrp8 := hrp7.below hb8; have hT8 := hT7.below hb8
      have hbr8 := hbr7.trans (hb8.mono hsz7)
      have htb : 0 < wc.heap.size := lt_of_cell (hT7 0 (by decide))
      have hgw : G < WB.heap.size := lt_of_cell q0
      clear hW8
      go_wp2_with fail
      obtain ⟨W9, hW9, k9, hb9, hs9⟩ := boxA W8 3 #[.int .i64 (i : Int)]
      have hri9 : RI W9 (some ⟨W8.heap.size, 0, none⟩) ([i].map Int.ofNat) := by
        rw [← hW9]
        exact OwnI.ri (l := [(i : Int)]) (c := 1) (own_one W8 (i : Int))
      rw [hW9]
      have f0 := (hb9.cell (lt_of_cell f0)).trans f0; have f1 := (hb9.cell (lt_of_cell f1)).trans f1; have a2 := (hb9.cell (lt_of_cell a2)).trans a2
      have hbr9 := hbr8.trans (hb9.mono (Nat.le_trans hsz7 hb8.size))
      have k8' := k8.below hb9 k8.lt
      have hsz9 := k8'.lt
      have hp8 : W8.heap.size = wc.heap.size + 1 := hs8
      obtain ⟨P8, hP8⟩ : ∃ P8, wc.heap.size = P8 := ⟨_, rfl⟩
      rw [hP8] at hg0 hg5 htb hsz7 k8' hsz9 hp8 ⊢
      have hbest := bst_any AL cl HV.out (by omega) k Hk.out P8 (fun hne b o e => by have := Hal.out hne b o e; omega) (by omega) 4000 [i] (some ⟨W8.heap.size, 0, none⟩) 1 4000 W9 (by decide) (by decide) (by decide) (by simp) (fun x hx => by rw [List.mem_singleton] at hx; rw [hx]; exact hin) (PlOk.one i) (fun e => Hself.out e) (Nat.le_refl _) (hrp8.below hb9) hri9 (fun b o e => by injection e with e; injection e with e _ _; omega) (hT8.below hb9) k8'
      rw [hp8] at hbest
      have Hbest := Lib.hid hbest
      clear hW9 k9 hb9 hs9 hri9 hrp8 hT8 hbr8 hb8 hs8 k8 hbest hrp7 hT7 hbr7 k8'
      refine Hbest.out.mono ?_
      rintro e w10 ⟨r, L', rfl, hmt, hq⟩
      have hG1 : G ≠ P8 := by omega
      have hG2 : g5 ≠ P8 := by omega
      have f0 := hmt.cell f0 hG1 hG1; have f1 := hmt.cell f1 hG1 hG1; have a2 := hmt.cell a2 hG2 hG2
      have cL : w10.cell? ⟨P8, 0, none⟩ = some (.int .i64 L') := hq.1.cell 0
      have Hb10 := Lib.hid (hbr9.trans (hmt.below (B := WB.heap.size) hsz7 hsz7 (by omega)))
      have Hr : RowKit.Hid (0 < L' → r = BY) := Lib.hid fun h => by
        rw [← Hby.out]; exact Val.byW Hk.out HV.out.1 hin Hself.out (hq.2.2.2.2 h)
      clear hmt hq hbr9 Hbest
      by_cases hpos : 0 < L'
      · have hr := Hr.out hpos
        subst hr
        have hd : decide (0 < L') = true := decide_eq_true hpos
        have hne : ((r : Int) != (r : Int)) = false := by simp
        clear hpos
        go_wp2_with fail
        go_roundw
        case rel => exact ⟨j + 1, by omega, by go_num, Hb10.out⟩
        case measure => simp [intOf]; omega
      · have hd : decide (0 < L') = false := decide_eq_false hpos
        clear hpos
        go_wp2_with fail
        go_roundw
        case rel => exact ⟨j + 1, by omega, by go_num, Hb10.out⟩
        case measure => simp [intOf]; omega
end Go.Proofs.YtncimnfhfomddaaDoor
