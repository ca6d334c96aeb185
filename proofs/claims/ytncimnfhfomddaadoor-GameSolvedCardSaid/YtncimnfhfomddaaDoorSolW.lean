/- law25: the walk of GameSolved. -/
import Derived.Test.YtncimnfhfomddaaDoorRf25
import Derived.Test.YtncimnfhfomddaaDoorSlR
namespace Go.Proofs.YtncimnfhfomddaaDoor
open Go.ChangeShapes Go.WideShapes Go.ChangeAt Go.RowKit

theorem nwLight_any (A : Option Addr) (N : Int) (l : List (Int × Int)) (c : Nat) (w : World) :
    Calls Tryd.prog 11 #[.agg #[.int .i64 N, .slice A l.length c]] w (RetB (.bool (decide (l.length ≤ 300))) w) := by
  go_enter Tryd.func11, Tryd.ntmps11
  go_upto_region 1 with fail
  obtain ⟨W0, hW, k0, hb0, hs0⟩ := boxA w 24 #[.int .i64 N, .slice A l.length c]
  rw [hW]
  obtain ⟨c0, c1, -, -⟩ := k0.two
  have Hb := Lib.hid hb0
  obtain ⟨d, hd⟩ : ∃ d, decide (l.length ≤ 300) = d := ⟨_, rfl⟩
  have hd2 : decide ((l.length : Int) ≤ 300) = d := by rw [← hd, decide_eq_decide]; omega
  have Hd := Lib.hid hd
  clear hW k0 hb0
  go_wp2_with fail
  go_ret
  exact ⟨by rw [Hd.out]; rfl, Hb.out⟩
set_option maxRecDepth 100000 in
set_option maxHeartbeats 16000000 in
theorem sol_law_any (A0 : Option Addr) (N0 : Int) (l0 : List (Int × Int)) (c0 : Nat) (A : Option Addr) (arg : List Int) (c : Nat) (k0 root0 : Int) (w : World)
    (_hl0 : l0.length ≤ 9223372036854775807) (hr0 : RP w A0 l0) (_h0n : A0 = none → l0 = [] ∧ c0 = 0)
    (hlc : arg.length ≤ c) (hc : c ≤ 9223372036854775807) (hr : RI w A arg) (hx : ∀ x ∈ arg, -9223372036854775808 ≤ x ∧ x ≤ 9223372036854775807) (hT : Tab w) :
    Calls Tryd.prog 8 #[.agg #[.int .i64 N0, .slice A0 l0.length c0], .slice A arg.length c, .int .i64 k0, .int .i64 root0] w (RetB (.bool true) w) := by
  go_enter Tryd.func8, Tryd.ntmps8
  go_upto_region 1 with fail
  obtain ⟨W1, hW, kr, hb1, hs1⟩ := boxA w 24 #[.int .i64 N0, .slice A0 l0.length c0]
  rw [hW]
  obtain ⟨r0, r1, -, -⟩ := kr.two
  have hr01 := hr0.below hb1; have hri1 := hr.below hb1; have hT1 := hT.below hb1
  obtain ⟨GR, hGR⟩ : ∃ GR, w.heap.size = GR := ⟨_, rfl⟩
  have hszw := hb1.size
  rw [hGR] at r0 r1 ⊢
  have Hb1 := Lib.hid hb1
  clear hW kr hr0 hr hT hb1 hGR
  have Hlt := Lib.hid (nwLight_any A0 N0 l0 c0 W1)
  by_cases h300 : l0.length ≤ 300
  case neg =>
    have hd : decide (l0.length ≤ 300) = false := decide_eq_false h300
    rw [hd] at Hlt
    clear hd h300
    go_wp2_with fail
    refine Hlt.out.mono ?_
    rintro e w2 ⟨rfl, hb2⟩
    go_wp2_with fail
    refine (awake25_any w2 (hT1.below hb2)).mono ?_
    rintro e w3 ⟨rfl, hb3⟩
    have Hb3 := Lib.hid (endB (endB Hb1.out hb2) hb3)
    clear hb2 hb3 r0 r1
    go_wp2_with fail
    go_ret
    exact ⟨rfl, Hb3.out⟩
  have hd : decide (l0.length ≤ 300) = true := decide_eq_true h300
  rw [hd] at Hlt
  clear hd
  go_wp2_with fail
  refine Hlt.out.mono ?_
  rintro e w2 ⟨rfl, hb2⟩
  have r0 := (hb2.cell (lt_of_cell r0)).trans r0; have r1 := (hb2.cell (lt_of_cell r1)).trans r1
  have hr02 := hr01.below hb2; have hri2 := hri1.below hb2; have hT2 := hT1.below hb2
  have Hb2 := Lib.hid (endB Hb1.out hb2)
  clear hr01 hri1 hT1 hb2 Hlt Hb1 hszw hs1
  go_wp2_with fail
  refine (new_any A arg c w2 hlc hc hri2 hx).mono ?_
  rintro e w3 ⟨p, rfl, hp, hs3, hb3⟩
  clear hri2 hx
  have R0 := Lib.hid r0; have R1 := Lib.hid r1
  have r0 := (hb3.cell (lt_of_cell r0)).trans r0
  go_wp2_with fail
  refine (netGraph_any p 9 w3 hs3 (by omega) (by omega)).mono ?_
  rintro e w4 ⟨n, l, AL, cl, rfl, hN1, hN, hv, hrp, hloc, hs4, hg4, hAn⟩
  have hb24 : Below w2.heap.size w2 w4 := hb3.trans (below_of_grownBy hg4 hp hb3.size)
  have HV := Lib.hid hv
  clear r0 r1 hs3 hb3 hg4 hv hloc hs4 hp hAn hN1
  go_upto_region 5 with fail
  obtain ⟨W0, hW, kb, hb0, hs0⟩ := boxA w4 24 #[.int .i64 (n : Int), .slice AL l.length cl]
  rw [hW]
  obtain ⟨z0, z1, -, -⟩ := kb.two
  have hrp0 := hrp.below hb0
  have hB0 : Below w2.heap.size w2 W0 := hb24.trans (hb0.mono hb24.size)
  have hT0 := hT2.below hB0; have hr00 := hr02.below hB0
  have r0 := (hB0.cell (lt_of_cell R0.out)).trans R0.out
  have r1 := (hB0.cell (lt_of_cell R1.out)).trans R1.out
  have HB0 := Lib.hid (endB Hb2.out hB0)
  have Hr00 := Lib.hid hr00; have HT0 := Lib.hid hT0; have Hrp0 := Lib.hid hrp0
  clear hW kb hb0 hrp hb24 hT2 hs0 hr02 R0 R1 hB0 hr00 hT0 hrp0 Hb2
  generalize w4.heap.size = G at *
  go_wp2_with fail
  go_loopw [11] (fun t wr => ∃ i : Nat, i ≤ n ∧ t = .int .i64 (i : Int) ∧ Below W0.heap.size W0 wr) (fun t _ => n - (intOf t).toNat)
  case atStart => exact ⟨0, Nat.zero_le _, rfl, Below.refl _ _⟩
  case round =>
    obtain ⟨i, hi, rfl, hbl⟩ := hrel
    have y0 := (hbl.cell (lt_of_cell z0)).trans z0
    have y1 := (hbl.cell (lt_of_cell z1)).trans z1
    by_cases hin : i < n
    case neg =>
      have r0 := (hbl.cell (lt_of_cell r0)).trans r0; have r1 := (hbl.cell (lt_of_cell r1)).trans r1
      have hrr := Hr00.out.below hbl; have hTr := HT0.out.below hbl
      have hsz := hbl.size
      have Hsol := Lib.hid (gSolveR_any A0 N0 l0 c0 k0 root0 wr hrr (by omega) hTr)
      have Hrr := Lib.hid hrr; have HTr := Lib.hid hTr; have Hbl := Lib.hid hbl
      clear z0 z1 hrr hTr hbl
      go_wp2_with fail
      refine Hsol.out.mono ?_
      rintro e w5 ⟨xa, xb, xd, AS, mS, cS, rfl, hb5⟩
      have r0 := (hb5.cell (lt_of_cell r0)).trans r0; have r1 := (hb5.cell (lt_of_cell r1)).trans r1
      go_upto_region 16 with fail
      obtain ⟨W6, hW6, k6, hb6, hs6⟩ := boxA w5 64 #[.int .i64 xa, .int .i64 xb, .int .i64 xd, .slice AS mS cS]
      rw [hW6]
      have hb56 := hb5.trans (hb6.mono hb5.size)
      have r0 := (hb6.cell (lt_of_cell r0)).trans r0; have r1 := (hb6.cell (lt_of_cell r1)).trans r1
      have Hr6 := Lib.hid (Hrr.out.below hb56); have HT6 := Lib.hid (HTr.out.below hb56)
      have Hb06 := Lib.hid (Hbl.out.trans (hb56.mono hsz))
      have hsz6 := Hb06.out.size
      clear hW6 k6 hb5 hb6 hs6 hb56 Hrr HTr Hsol
      go_wp2_with fail
      obtain ⟨W7, hW7, k7, hb7, hs7⟩ := boxA W6 3 #[.int .i64 root0]
      have hri7 : RI W7 (some ⟨W6.heap.size, 0, none⟩) [root0] := by
        rw [← hW7]
        exact OwnI.ri (l := [root0]) (c := 1) (own_one W6 root0)
      rw [hW7]
      have r0 := (hb7.cell (lt_of_cell r0)).trans r0; have r1 := (hb7.cell (lt_of_cell r1)).trans r1
      have Hmv := Lib.hid (gMovesR_any A0 N0 l0 c0 k0 root0 (some ⟨W6.heap.size, 0, none⟩) 1 W7 (Hr6.out.below hb7) (by omega) hri7 (Nat.le_refl _) (HT6.out.below hb7))
      have Hb07 := Lib.hid (Hb06.out.trans (hb7.mono hsz6))
      have HT7 := Lib.hid (HT6.out.below hb7)
      have hsz7 := Hb07.out.size
      clear hW7 k7 hb7 hs7 hri7
      refine Hmv.out.mono ?_
      rintro e w8 ⟨AM, mM, cM, rfl, hb8⟩
      have r0 := (hb8.cell (lt_of_cell r0)).trans r0
      have Hb08 := Lib.hid (Hb07.out.trans (hb8.mono hsz7))
      have HT8 := Lib.hid (HT7.out.below hb8)
      have hma := mov_arg N0 l0 k0 root0
      have hsa := sol_arg N0 l0 k0 root0
      obtain ⟨M, hM⟩ : ∃ M, movE N0 l0 k0 root0 = M := ⟨_, rfl⟩
      obtain ⟨F, hF⟩ : ∃ F, argE N0 l0 k0 root0 = F := ⟨_, rfl⟩
      obtain ⟨E, hE⟩ : ∃ E, solE N0 l0 k0 root0 = E := ⟨_, rfl⟩
      rw [hM, hF] at hma; rw [hE, hF] at hsa; rw [hM, hE]
      have Hma := Lib.hid hma; have Hsa := Lib.hid hsa
      clear hma hsa hM hF hE hb8 r1 Hmv
      obtain ⟨W8, hW8⟩ : ∃ W8, W8 = w8 := ⟨_, rfl⟩
      subst hW8
      go_upto_if 115 with fail
      go_cut [19] (fun t19 wx => t19 = .int .i64 F ∧ wx = W8)
      case first =>
        by_cases h7 : M = 7
        · have hq : (M == 7) = true := by rw [beq_iff_eq]; exact h7
          have hf := Hma.out
          rw [if_pos h7] at hf
          have Hf := Lib.hid hf
          clear h7 hf
          go_wp2_with fail
          go_meet
          exact ⟨by rw [← Hf.out], rfl⟩
        · have hq : (M == 7) = false := by rw [beq_eq_false_iff_ne]; exact h7
          have hf := Hma.out
          rw [if_neg h7] at hf
          have Hf := Lib.hid hf
          clear h7 hf
          go_wp2_with fail
          go_meet
          exact ⟨by rw [← Hf.out], rfl⟩
      obtain ⟨rfl, rfl⟩ := hcut
      go_upto_region 19 with fail
      go_cut [126] (fun t126 wx => t126 = .bool (decide (F = 0 ∧ k0 = 2 ∧ 10 < N0)) ∧ wx = wc)
      case first =>
        by_cases hF0 : F = 0
        case neg =>
          have hq : (F == 0) = false := by rw [beq_eq_false_iff_ne]; exact hF0
          have Hf : RowKit.Hid (decide (F = 0 ∧ k0 = 2 ∧ 10 < N0) = false) := Lib.hid (decide_eq_false fun e => hF0 e.1)
          clear hF0
          go_wp2_with fail
          go_meet
          exact ⟨by rw [Hf.out], rfl⟩
        case pos =>
        have hq : (F == 0) = true := by rw [beq_iff_eq]; exact hF0
        by_cases hk2 : k0 = 2
        case neg =>
          have hkq : (k0 == 2) = false := by rw [beq_eq_false_iff_ne]; exact hk2
          have Hf : RowKit.Hid (decide (F = 0 ∧ k0 = 2 ∧ 10 < N0) = false) := Lib.hid (decide_eq_false fun e => hk2 e.2.1)
          clear hF0 hk2
          go_wp2_with fail
          go_meet
          exact ⟨by rw [Hf.out], rfl⟩
        case pos =>
        have hkq : (k0 == 2) = true := by rw [beq_iff_eq]; exact hk2
        by_cases hN10 : 10 < N0
        · have hnq : decide (10 < N0) = true := decide_eq_true hN10
          have Hf : RowKit.Hid (decide (F = 0 ∧ k0 = 2 ∧ 10 < N0) = true) := Lib.hid (decide_eq_true ⟨hF0, hk2, hN10⟩)
          clear hF0 hk2 hN10
          go_wp2_with fail
          go_meet
          exact ⟨by rw [Hf.out], rfl⟩
        · have hnq : decide (10 < N0) = false := decide_eq_false hN10
          have Hf : RowKit.Hid (decide (F = 0 ∧ k0 = 2 ∧ 10 < N0) = false) := Lib.hid (decide_eq_false fun e => hN10 e.2.2)
          clear hF0 hk2 hN10
          go_wp2_with fail
          go_meet
          exact ⟨by rw [Hf.out], rfl⟩
      obtain ⟨rfl, rfl⟩ := hcut
      obtain ⟨dq, hdq⟩ : ∃ dq, decide (F = 0 ∧ k0 = 2 ∧ 10 < N0) = dq := ⟨_, rfl⟩
      rw [hdq]
      have Hdq := Lib.hid hdq
      clear hdq
      go_upto_if 126 with fail
      go_cut [19] (fun t19 wx => t19 = .int .i64 E ∧ wx = wc)
      case first =>
        cases dq
        · have hf := Hsa.out
          rw [if_neg (of_decide_eq_false Hdq.out)] at hf
          have Hf := Lib.hid hf
          clear hf
          go_wp2_with fail
          go_meet
          exact ⟨by rw [Hf.out], rfl⟩
        · have hf := Hsa.out
          rw [if_pos (of_decide_eq_true Hdq.out)] at hf
          have Hf := Lib.hid hf
          clear hf
          go_wp2_with fail
          go_meet
          exact ⟨by rw [Hf.out], rfl⟩
      obtain ⟨rfl, rfl⟩ := hcut
      have hee : (E == E) = true := by simp
      have Haw := Lib.hid (awake25_any wc HT8.out)
      have hszc := Hb08.out.size
      clear r0
      go_wp2_with fail
      refine Haw.out.mono ?_
      rintro e w9 ⟨rfl, hb9⟩
      have Hb9 := Lib.hid (endB HB0.out (Hb08.out.trans (hb9.mono hszc)))
      clear hb9
      go_wp2_with fail
      go_ret
      exact ⟨rfl, Hb9.out⟩
    case pos =>
    clear r0 r1
    have hin' : (i : Int) < (n : Int) := by omega
    have hrpr := Hrp0.out.below hbl; have hTr := HT0.out.below hbl
    have hsz := hbl.size
    go_upto_region 9 with fail
    obtain ⟨WB, hWB, kB, hbB, hsB⟩ := boxA wr 3 #[.int .i64 1, .int .i64 2]
    rw [hWB]
    obtain ⟨b0, b1, -, -⟩ := kB.two
    have q0 := (hbB.cell (lt_of_cell y0)).trans y0
    have q1 := (hbB.cell (lt_of_cell y1)).trans y1
    have hrpB := hrpr.below hbB; have hTB := hTr.below hbB
    have hbWB : Below W0.heap.size W0 WB := hbl.trans (hbB.mono hsz)
    have Hwb := Lib.hid hbWB
    have hszB : W0.heap.size ≤ WB.heap.size := hbWB.size
    clear hWB kB y0 y1 hrpr hTr hbB hbl hbWB hsB hsz
    generalize wr.heap.size = gb at *
    go_wp2_with fail
    go_loopw [36] (fun t wx => ∃ j : Nat, j ≤ 2 ∧ t = .int .i64 (j : Int) ∧ Below WB.heap.size WB wx) (fun t _ => 2 - (intOf t).toNat)
    case atStart => exact ⟨0, Nat.zero_le _, rfl, Below.refl _ _⟩
    case round =>
      obtain ⟨j, hj, rfl, hbr⟩ := hrel
      by_cases hj2 : j < 2
      case neg =>
        go_wp2_with fail
        go_roundw
        case rel => exact ⟨i + 1, by omega, by go_num, Hwb.out.trans (hbr.mono hszB)⟩
        case measure => simp [intOf]; omega
      case pos =>
      have hcj : WB.cell? ⟨gb, j, none⟩ = some (.int .i64 ((j + 1 : Nat) : Int)) := by
        rcases (by omega : j = 0 ∨ j = 1) with rfl | rfl
        · exact b0
        · exact b1
      have hcr := (hbr.cell (lt_of_cell hcj)).trans hcj
      have e0 := (hbr.cell (lt_of_cell q0)).trans q0; have e1 := (hbr.cell (lt_of_cell q1)).trans q1
      have hj0 : (0 : Int) ≤ (j : Int) := by omega
      have hj1 : (j : Int) < 2 := by omega
      have hk : j + 1 = 1 ∨ j + 1 = 2 := by omega
      obtain ⟨k, hkj⟩ : ∃ k, j + 1 = k := ⟨_, rfl⟩
      rw [hkj] at hcr hk
      have Hk := Lib.hid hk
      have hrpX := hrpB.below hbr; have hTX := hTB.below hbr
      have hszr := hbr.size
      obtain ⟨wo, hwo⟩ : ∃ wo, wo = wr := ⟨_, rfl⟩
      subst hwo
      have Hsol := Lib.hid (gSolveU_any AL cl k i hk HV.out hin (by omega) wo hrpX hTX)
      clear hcj hk
      go_wp2_with fail
      refine Hsol.out.mono ?_
      rintro e w5 ⟨OO, A5, c5, rfl, hOn, hO1, hO2, -, hO3, hO4, hO5, hO6, hb5⟩
      have hby2 := byW_two (n := n) (l := l) (k := k) (root := i)
      have hchk := chk_of HV.out.1 hin hO5 hO6
      obtain ⟨BY, hBY⟩ : ∃ BY, byW n l k i = BY := ⟨_, rfl⟩
      rw [hBY] at hchk hby2 hO4 hO5
      have HBY := Lib.hid hBY
      rw [hBY]
      go_upto_region 12 with fail
      obtain ⟨W6, hW6, k6, hb6, hs6⟩ := boxA w5 64 #[.int .i64 (k : Int), .int .i64 (i : Int), .int .i64 (BY : Int), .slice A5 OO.length c5]
      rw [hW6]
      have a0 : W6.cell? ⟨w5.heap.size, 0, none⟩ = some (.int .i64 (k : Int)) := k6.cell 0
      have a1 : W6.cell? ⟨w5.heap.size, 1, none⟩ = some (.int .i64 (i : Int)) := k6.cell 1
      have a2 : W6.cell? ⟨w5.heap.size, 2, none⟩ = some (.int .i64 (BY : Int)) := k6.cell 2
      have a3 : W6.cell? ⟨w5.heap.size, 3, none⟩ = some (.slice A5 OO.length c5) := k6.cell 3
      have hb56 := hb5.trans (hb6.mono hb5.size)
      have f0 := (hb56.cell (lt_of_cell e0)).trans e0; have f1 := (hb56.cell (lt_of_cell e1)).trans e1
      have hrp6 := hrpX.below hb56; have hT6 := hTX.below hb56; have hO16 := hO1.below hb6
      have Hbr6 := Lib.hid (hbr.trans (hb56.mono hszr))
      have hsz6 := Hbr6.out.size
      obtain ⟨bw, hbw⟩ : ∃ bw, decide (BY = 1) = bw := ⟨_, rfl⟩
      have hbw1 : ((BY : Int) == 1) = bw := by rw [← hbw, Bool.eq_iff_iff, beq_iff_eq, decide_eq_true_iff]; omega
      have hbne : (bw != bw) = false := by cases bw <;> rfl
      have hkk : ((k : Int) != (k : Int)) = false := by simp
      have hii : ((i : Int) != (i : Int)) = false := by simp
      have hwin := fun W (hW : Below W6.heap.size W6 W) => rWins_any AL cl k i W HV.out.1 (by omega) Hk.out hin (hrp6.below hW)
      rw [hBY, hbw] at hwin
      have hrck := fun W (hW : Below W6.heap.size W6 W) => rChk_any AL cl k i BY A5 OO c5 W HV.out (by omega) Hk.out hby2 hin hO3 hO2 (by omega) hchk (hrp6.below hW) (hO16.below hW)
      have hgck : ∀ W, Below W6.heap.size W6 W → Calls Tryd.prog 38 #[.agg #[.int .i64 (n : Int), .slice AL l.length cl], .agg #[.int .i64 (k : Int), .int .i64 (i : Int), .int .i64 (BY : Int), .slice A5 OO.length c5]] W (RetB (.int .i64 0) W) := fun W hW => by
        refine (gCheckU_any AL cl HV.out (by omega) (by omega) k i BY Hk.out hby2 hin A5 OO c5 hO3 hO2 (by omega) W (hrp6.below hW) (hO16.below hW) (hT6.below hW)).mono ?_
        rintro e w' ⟨b', rfl, hp', hb'⟩
        have := hO4 b' hp'
        subst this
        exact ⟨by rw [if_pos rfl], hb'⟩
      have Hwin := Lib.hid hwin; have Hrck := Lib.hid hrck; have Hgck := Lib.hid hgck; have HO5 := Lib.hid hO5
      clear hW6 k6 hb5 hb6 hs6 hb56 hrpX hTX e0 e1 hbr hszr hrp6 hT6 hO1 hO16 hO2 hO3 hO4 hO5 hO6 hchk hbw hwin hrck hgck Hsol hBY
      generalize w5.heap.size = g5 at *
      go_cut [97] (fun t97 wx => t97 = .bool false ∧ Below W6.heap.size W6 wx)
      case first =>
        refine wp_region_textB [21, 22, 23, 24, 27, 28, 29, 30, 33] (fun w' => Below W6.heap.size W6 w') (fun _ => True) (by kernel_rfl) (by kernel_rfl) (by kernel_rfl) (Below.refl _ _).drew trivial ?_
        repeat (first
          | (refine TxtBL.skip (by rfl) ?_; simp only [Act.put, List.setIfInBounds_toArray, List.set_cons_zero, List.set_cons_succ])
          | (refine TxtBL.take (by rfl) (by rfl) ?_; apply Exists.intro; refine ⟨fun w1 hS1 => ?_, ?_⟩; (focus ((have g0 := (hS1.cell (lt_of_cell f0)).trans f0; have g1 := (hS1.cell (lt_of_cell f1)).trans f1; have g2 := (hS1.cell (lt_of_cell a0)).trans a0; have g3 := (hS1.cell (lt_of_cell a1)).trans a1; have g4 := (hS1.cell (lt_of_cell a2)).trans a2; have g5 := (hS1.cell (lt_of_cell a3)).trans a3); go_simp; with_reducible rfl)); simp only [Act.put, List.setIfInBounds_toArray, List.set_cons_zero, List.set_cons_succ])
          | (refine TxtBL.takeE (by rfl) (by rfl) ?_; apply Exists.intro; refine ⟨fun w1 hS1 => ?_, ?_⟩; (focus ((have g0 := (hS1.cell (lt_of_cell f0)).trans f0; have g1 := (hS1.cell (lt_of_cell f1)).trans f1; have g2 := (hS1.cell (lt_of_cell a0)).trans a0; have g3 := (hS1.cell (lt_of_cell a1)).trans a1; have g4 := (hS1.cell (lt_of_cell a2)).trans a2; have g5 := (hS1.cell (lt_of_cell a3)).trans a3); go_simp; with_reducible rfl)); simp only [Act.put, List.setIfInBounds_toArray, List.set_cons_zero, List.set_cons_succ]))
        refine TxtBL.call (f := 36) (args := #[.agg #[.int .i64 (n : Int), .slice AL l.length cl], .int .i64 (k : Int), .int .i64 (i : Int)]) (fun u => u = .bool bw) (fun _ _ => True) (by rfl) (by rfl) ⟨_, rfl⟩ (fun w1 hS1 hJ1 => by go_simp) (fun w1 hS1 hJ1 => ?_) ?_
        · refine (Hwin.out w1 hS1).mono ?_
          rintro e w' ⟨rfl, hb⟩
          exact ⟨_, rfl, hS1.trans (hb.mono hS1.size), rfl, trivial⟩
        rintro _ rfl
        simp only [Act.put, List.setIfInBounds_toArray, List.set_cons_zero, List.set_cons_succ]
        repeat (first
          | (refine TxtBL.skip (by rfl) ?_; simp only [Act.put, List.setIfInBounds_toArray, List.set_cons_zero, List.set_cons_succ])
          | (refine TxtBL.take (by rfl) (by rfl) ?_; apply Exists.intro; refine ⟨fun w1 hS1 => ?_, ?_⟩; (focus ((have g0 := (hS1.cell (lt_of_cell f0)).trans f0; have g1 := (hS1.cell (lt_of_cell f1)).trans f1; have g2 := (hS1.cell (lt_of_cell a0)).trans a0; have g3 := (hS1.cell (lt_of_cell a1)).trans a1; have g4 := (hS1.cell (lt_of_cell a2)).trans a2; have g5 := (hS1.cell (lt_of_cell a3)).trans a3); go_simp; with_reducible rfl)); simp only [Act.put, List.setIfInBounds_toArray, List.set_cons_zero, List.set_cons_succ])
          | (refine TxtBL.takeE (by rfl) (by rfl) ?_; apply Exists.intro; refine ⟨fun w1 hS1 => ?_, ?_⟩; (focus ((have g0 := (hS1.cell (lt_of_cell f0)).trans f0; have g1 := (hS1.cell (lt_of_cell f1)).trans f1; have g2 := (hS1.cell (lt_of_cell a0)).trans a0; have g3 := (hS1.cell (lt_of_cell a1)).trans a1; have g4 := (hS1.cell (lt_of_cell a2)).trans a2; have g5 := (hS1.cell (lt_of_cell a3)).trans a3); go_simp; with_reducible rfl)); simp only [Act.put, List.setIfInBounds_toArray, List.set_cons_zero, List.set_cons_succ]))
        refine TxtBL.call (f := 37) (args := #[.agg #[.int .i64 (n : Int), .slice AL l.length cl], .agg #[.int .i64 (k : Int), .int .i64 (i : Int), .int .i64 (BY : Int), .slice A5 OO.length c5]]) (fun u => u = .int .i64 0) (fun _ _ => True) (by rfl) (by rfl) ⟨_, rfl⟩ (fun w1 hS1 hJ1 => by go_simp) (fun w1 hS1 hJ1 => ?_) ?_
        · refine (Hrck.out w1 hS1).mono ?_
          rintro e w' ⟨rfl, hb⟩
          exact ⟨_, rfl, hS1.trans (hb.mono hS1.size), rfl, trivial⟩
        rintro _ rfl
        simp only [Act.put, List.setIfInBounds_toArray, List.set_cons_zero, List.set_cons_succ]
        repeat (first
          | (refine TxtBL.skip (by rfl) ?_; simp only [Act.put, List.setIfInBounds_toArray, List.set_cons_zero, List.set_cons_succ])
          | (refine TxtBL.take (by rfl) (by rfl) ?_; apply Exists.intro; refine ⟨fun w1 hS1 => ?_, ?_⟩; (focus ((have g0 := (hS1.cell (lt_of_cell f0)).trans f0; have g1 := (hS1.cell (lt_of_cell f1)).trans f1; have g2 := (hS1.cell (lt_of_cell a0)).trans a0; have g3 := (hS1.cell (lt_of_cell a1)).trans a1; have g4 := (hS1.cell (lt_of_cell a2)).trans a2; have g5 := (hS1.cell (lt_of_cell a3)).trans a3); go_simp; with_reducible rfl)); simp only [Act.put, List.setIfInBounds_toArray, List.set_cons_zero, List.set_cons_succ])
          | (refine TxtBL.takeE (by rfl) (by rfl) ?_; apply Exists.intro; refine ⟨fun w1 hS1 => ?_, ?_⟩; (focus ((have g0 := (hS1.cell (lt_of_cell f0)).trans f0; have g1 := (hS1.cell (lt_of_cell f1)).trans f1; have g2 := (hS1.cell (lt_of_cell a0)).trans a0; have g3 := (hS1.cell (lt_of_cell a1)).trans a1; have g4 := (hS1.cell (lt_of_cell a2)).trans a2; have g5 := (hS1.cell (lt_of_cell a3)).trans a3); go_simp; with_reducible rfl)); simp only [Act.put, List.setIfInBounds_toArray, List.set_cons_zero, List.set_cons_succ]))
        refine TxtBL.call (f := 38) (args := #[.agg #[.int .i64 (n : Int), .slice AL l.length cl], .agg #[.int .i64 (k : Int), .int .i64 (i : Int), .int .i64 (BY : Int), .slice A5 OO.length c5]]) (fun u => u = .int .i64 0) (fun _ _ => True) (by rfl) (by rfl) ⟨_, rfl⟩ (fun w1 hS1 hJ1 => by go_simp) (fun w1 hS1 hJ1 => ?_) ?_
        · refine (Hgck.out w1 hS1).mono ?_
          rintro e w' ⟨rfl, hb⟩
          exact ⟨_, rfl, hS1.trans (hb.mono hS1.size), rfl, trivial⟩
        rintro _ rfl
        simp only [Act.put, List.setIfInBounds_toArray, List.set_cons_zero, List.set_cons_succ]
        by_cases hk2 : k = 2
        · have kq : ((k : Int) == 2) = true := by rw [beq_iff_eq]; omega
          by_cases hB2 : BY = 2
          · have bq : ((BY : Int) == 2) = true := by rw [beq_iff_eq]; omega
            have hl0 : decide (0 < OO.length) = false := by rw [HO5.out hk2 hB2]; rfl
            repeat (first
              | (refine TxtBL.skip (by rfl) ?_; simp only [Act.put, List.setIfInBounds_toArray, List.set_cons_zero, List.set_cons_succ])
              | (refine TxtBL.take (by rfl) (by rfl) ?_; apply Exists.intro; refine ⟨fun w1 hS1 => ?_, ?_⟩; (focus ((have g0 := (hS1.cell (lt_of_cell f0)).trans f0; have g1 := (hS1.cell (lt_of_cell f1)).trans f1; have g2 := (hS1.cell (lt_of_cell a0)).trans a0; have g3 := (hS1.cell (lt_of_cell a1)).trans a1; have g4 := (hS1.cell (lt_of_cell a2)).trans a2; have g5 := (hS1.cell (lt_of_cell a3)).trans a3); go_simp; with_reducible rfl)); simp only [Act.put, List.setIfInBounds_toArray, List.set_cons_zero, List.set_cons_succ])
              | (refine TxtBL.takeE (by rfl) (by rfl) ?_; apply Exists.intro; refine ⟨fun w1 hS1 => ?_, ?_⟩; (focus ((have g0 := (hS1.cell (lt_of_cell f0)).trans f0; have g1 := (hS1.cell (lt_of_cell f1)).trans f1; have g2 := (hS1.cell (lt_of_cell a0)).trans a0; have g3 := (hS1.cell (lt_of_cell a1)).trans a1; have g4 := (hS1.cell (lt_of_cell a2)).trans a2; have g5 := (hS1.cell (lt_of_cell a3)).trans a3); go_simp; with_reducible rfl)); simp only [Act.put, List.setIfInBounds_toArray, List.set_cons_zero, List.set_cons_succ]))
            refine TxtBL.nil (fun W7 hS7 _ => ?_)
            go_wp2_with fail
            go_meet
            exact ⟨rfl, hS7⟩
          · have bq : ((BY : Int) == 2) = false := by rw [beq_eq_false_iff_ne]; omega
            repeat (first
              | (refine TxtBL.skip (by rfl) ?_; simp only [Act.put, List.setIfInBounds_toArray, List.set_cons_zero, List.set_cons_succ])
              | (refine TxtBL.take (by rfl) (by rfl) ?_; apply Exists.intro; refine ⟨fun w1 hS1 => ?_, ?_⟩; (focus ((have g0 := (hS1.cell (lt_of_cell f0)).trans f0; have g1 := (hS1.cell (lt_of_cell f1)).trans f1; have g2 := (hS1.cell (lt_of_cell a0)).trans a0; have g3 := (hS1.cell (lt_of_cell a1)).trans a1; have g4 := (hS1.cell (lt_of_cell a2)).trans a2; have g5 := (hS1.cell (lt_of_cell a3)).trans a3); go_simp; with_reducible rfl)); simp only [Act.put, List.setIfInBounds_toArray, List.set_cons_zero, List.set_cons_succ])
              | (refine TxtBL.takeE (by rfl) (by rfl) ?_; apply Exists.intro; refine ⟨fun w1 hS1 => ?_, ?_⟩; (focus ((have g0 := (hS1.cell (lt_of_cell f0)).trans f0; have g1 := (hS1.cell (lt_of_cell f1)).trans f1; have g2 := (hS1.cell (lt_of_cell a0)).trans a0; have g3 := (hS1.cell (lt_of_cell a1)).trans a1; have g4 := (hS1.cell (lt_of_cell a2)).trans a2; have g5 := (hS1.cell (lt_of_cell a3)).trans a3); go_simp; with_reducible rfl)); simp only [Act.put, List.setIfInBounds_toArray, List.set_cons_zero, List.set_cons_succ]))
            refine TxtBL.nil (fun W7 hS7 _ => ?_)
            go_wp2_with fail
            go_meet
            exact ⟨rfl, hS7⟩
        · have kq : ((k : Int) == 2) = false := by rw [beq_eq_false_iff_ne]; omega
          repeat (first
            | (refine TxtBL.skip (by rfl) ?_; simp only [Act.put, List.setIfInBounds_toArray, List.set_cons_zero, List.set_cons_succ])
            | (refine TxtBL.take (by rfl) (by rfl) ?_; apply Exists.intro; refine ⟨fun w1 hS1 => ?_, ?_⟩; (focus (skip; go_simp; with_reducible rfl)); simp only [Act.put, List.setIfInBounds_toArray, List.set_cons_zero, List.set_cons_succ])
            | (refine TxtBL.takeE (by rfl) (by rfl) ?_; apply Exists.intro; refine ⟨fun w1 hS1 => ?_, ?_⟩; (focus (skip; go_simp; with_reducible rfl)); simp only [Act.put, List.setIfInBounds_toArray, List.set_cons_zero, List.set_cons_succ]))
          refine TxtBL.nil (fun W7 hS7 _ => ?_)
          go_wp2_with fail
          go_meet
          exact ⟨rfl, hS7⟩
      obtain ⟨rfl, hb7⟩ := hcut
      have Hb7 := Lib.hid (Hbr6.out.trans (hb7.mono hsz6))
      clear hb7 f0 f1 a0 a1 a2 a3
      go_wp2_with fail
      go_roundw
      case rel => exact ⟨j + 1, by omega, by go_num, Hb7.out⟩
      case measure => simp [intOf]; omega
end Go.Proofs.YtncimnfhfomddaaDoor
