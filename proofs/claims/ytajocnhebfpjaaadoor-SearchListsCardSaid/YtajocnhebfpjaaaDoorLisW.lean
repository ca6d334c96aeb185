/- law14: the walk of SearchLists. -/
import Derived.Test.YtajocnhebfpjaaaDoorAwN
import Derived.Test.YtajocnhebfpjaaaDoorSpo
import Derived.Test.YtajocnhebfpjaaaDoorPl14p
namespace Go.Proofs.YtajocnhebfpjaaaDoor
open Go.ChangeShapes Go.WideShapes Go.ChangeAt Go.RowKit

theorem compR_small (N : Int) (l : List (Int × Int)) : (compR N l).1.length ≤ 200 ∧ ∀ x ∈ (compR N l).1, x.length ≤ 100 := by
  unfold compR
  split
  · rename_i hv
    have hN : N.toNat ≤ 40 := by
      unfold valE at hv
      split at hv
      · cases hv
      · omega
    split
    · exact ⟨by simp, fun x hx => by cases hx⟩
    · rename_i hs
      exact ⟨by simp only; omega, fun x hx => by have := comp_len hx; omega⟩
  · exact ⟨by simp, fun x hx => by cases hx⟩
theorem navR_small (N : Int) (l : List (Int × Int)) : (navR N l).1.length ≤ 200 ∧ ∀ x ∈ (navR N l).1, x.length ≤ 100 := by
  unfold navR
  split
  · split
    · exact ⟨by simp, fun x hx => by cases hx⟩
    · refine ⟨by rw [List.length_map]; omega, fun x hx => ?_⟩
      rw [List.mem_map] at hx
      obtain ⟨m, _, rfl⟩ := hx
      have := nodesB_length 64 m.testBit
      unfold ndL
      omega
  · exact ⟨by simp, fun x hx => by cases hx⟩

set_option maxRecDepth 100000 in
set_option maxHeartbeats 8000000 in
theorem lists_law_any (A0 : Option Addr) (N0 : Int) (l0 : List (Int × Int)) (c0 : Nat) (A : Option Addr) (arg : List Int) (c : Nat) (w : World)
    (_hl0 : l0.length ≤ 9223372036854775807) (hr0 : RP w A0 l0) (_h0n : A0 = none → l0 = [] ∧ c0 = 0)
    (hlc : arg.length ≤ c) (hc : c ≤ 9223372036854775807) (hr : RI w A arg) (hx : ∀ x ∈ arg, -9223372036854775808 ≤ x ∧ x ≤ 9223372036854775807) (hT : Tab w) :
    Calls Tryd.prog 3 #[.agg #[.int .i64 N0, .slice A0 l0.length c0], .slice A arg.length c] w (RetB (.bool true) w) := by
  go_enter Tryd.func3, Tryd.ntmps3
  go_upto_region 1 with fail
  obtain ⟨W0, hW, b0, b1, hb0, hlt0⟩ := boxed w 24 (.int .i64 N0) (.slice A0 l0.length c0)
  rw [hW]
  clear hW
  by_cases h60 : 60 < l0.length
  · have hd : decide ((60 : Int) < (l0.length : Int)) = true := by rw [decide_eq_true_eq]; omega
    have H60 := Lib.hid h60; clear h60
    go_wp2_with fail
    go_ret
    exact ⟨rfl, hb0⟩
  have hd0 : decide ((60 : Int) < (l0.length : Int)) = false := by rw [decide_eq_false_iff_not]; omega
  have hl60 : l0.length ≤ 100000 := by omega
  by_cases hA : 7 < N0 ∧ N0 ≤ 40
  case pos =>
    obtain ⟨h7, h40⟩ := hA
    clear h60
    go_wp2_with fail
    go_ret
    exact ⟨rfl, hb0⟩
  case neg =>
  go_cut [30] (fun s30 wx => s30 = .bool false ∧ wx = W0)
  case first =>
    clear h60
    by_cases h7 : 7 < N0
    · have h40 : ¬ N0 ≤ 40 := fun h => hA ⟨h7, h⟩
      clear hA
      go_wp2_with fail
      go_meet
      exact ⟨rfl, rfl⟩
    · clear hA
      go_wp2_with fail
      go_meet
      exact ⟨rfl, rfl⟩
  obtain ⟨rfl, hwc⟩ := hcut
  subst hwc
  clear h60 hd0 hA
  have hrR := hr0.below hb0
  have hT0 := hT.below hb0
  go_wp2_with fail
  refine (new_any A arg c wc hlc hc (hr.below hb0) hx).mono ?_
  rintro e w1 ⟨p, rfl, hp, hs1, hb1⟩
  have hp1 := hs1.lt
  clear hr hx hr0 hT
  go_wp2_with fail
  refine (graph2_any p 7 w1 hs1 (by omega)).mono ?_
  rintro e w2 ⟨n, l, AL, cl, rfl, hN, hv, hrp, hloc, hs2, hg2, hAn⟩
  have hb2 : Below wc.heap.size wc w2 := hb1.trans (below_of_grownBy hg2 hp hb1.size)
  clear hs1 hb1 hg2
  go_upto_region 5 with fail
  obtain ⟨W1, hW, k0, k1, hbx, hlt1⟩ := boxed w2 24 (.int .i64 n) (.slice AL l.length cl)
  rw [hW]
  clear hW
  have hst := GSt.start hp hp1 hb2 hs2 hrp hloc hbx k0 k1
  have hlen := hv.1.2.1
  have HV := Lib.hid hv; have HAn := Lib.hid hAn
  clear hs2 hrp hloc hbx k0 k1 hb2 hp1 hv hAn
  generalize w2.heap.size = G at *
  have hbG := hst.hb
  refine wp_region_textB [4, 5] (fun w' => GSt wc p G n l AL cl w' ∧ W1.heap.size ≤ w'.heap.size) (fun _ => True) (by kernel_rfl) (by kernel_rfl) (by kernel_rfl) ⟨hst.below (Below.refl _ _).drew, Nat.le_refl _⟩ trivial ?_
  repeat (first
    | (refine TxtBL.skip (by rfl) ?_; simp only [Act.put, List.setIfInBounds_toArray, List.set_cons_zero, List.set_cons_succ])
    | (refine TxtBL.take (by rfl) (by rfl) ?_; apply Exists.intro; refine ⟨fun w1 hS1 => ?_, ?_⟩; (focus ((have g0 := hS1.1.c0); (have g1 := hS1.1.c1); (have g2 := (hS1.1.hb.cell (lt_of_cell b0)).trans b0); (have g3 := (hS1.1.hb.cell (lt_of_cell b1)).trans b1); go_simp; with_reducible rfl)); simp only [Act.put, List.setIfInBounds_toArray, List.set_cons_zero, List.set_cons_succ])
    | (refine TxtBL.takeE (by rfl) (by rfl) ?_; apply Exists.intro; refine ⟨fun w1 hS1 => ?_, ?_⟩; (focus ((have g0 := hS1.1.c0); (have g1 := hS1.1.c1); (have g2 := (hS1.1.hb.cell (lt_of_cell b0)).trans b0); (have g3 := (hS1.1.hb.cell (lt_of_cell b1)).trans b1); go_simp; with_reducible rfl)); simp only [Act.put, List.setIfInBounds_toArray, List.set_cons_zero, List.set_cons_succ]))
  refine TxtBL.call (f := 17) (args := #[.pointer (some ⟨p, 0, none⟩), .agg #[.int .i64 (n : Int), .slice AL l.length cl]]) (fun v => ∃ N2 A2 k2 c2, v = Value.agg #[.int .i64 N2, .slice A2 k2 c2]) (fun v w' => ∃ N2 l2 A2 c2, v = Value.agg #[.int .i64 N2, .slice A2 l2.length c2] ∧ l2.length ≤ 100000 ∧ RP w' A2 l2) (by rfl) (by rfl) ⟨_, 0, none, 0, 0, rfl⟩ (fun w1 hS1 hJ1 => by go_simp) (fun w1 hS1 hJ1 => ?_) ?_
  · refine (spoilt_any p AL (n : Int) l cl w1 hS1.1.src hS1.1.rp HAn.out hlen).mono ?_
    rintro e w' ⟨N2, l2, A2, c2, rfl, hl2, hr2, _, hs2, hg2⟩
    have hl1600 := len_of_vld HV.out
    exact ⟨_, rfl, ⟨hS1.1.grown hs2 hg2, Nat.le_trans hS1.2 hg2.size⟩, ⟨N2, A2, _, c2, rfl⟩, N2, l2, A2, c2, rfl, by omega, hr2⟩
  rintro v39 ⟨N2, A2, k2, c2, rfl⟩
  simp only [Act.put, List.setIfInBounds_toArray, List.set_cons_zero, List.set_cons_succ]
  refine TxtBL.value (fun u => ∃ q, u = Value.slice (some ⟨q, 0, none⟩) 3 3) (fun u w' => ∃ q l2, u = Value.slice (some ⟨q, 0, none⟩) 3 3 ∧ Blk w' q 24 #[.int .i64 N0, .slice A0 l0.length c0, .int .i64 (n : Int), .slice AL l.length cl, .int .i64 N2, .slice A2 l2.length c2] ∧ l2.length ≤ 100000 ∧ RP w' A2 l2) (by rfl) (by rfl) ⟨_, 0, rfl⟩ (fun w1 hS1 hJ1 => ?_) ?_
  · obtain ⟨N2', l2, A2', c2', he, hl2, hr2⟩ := hJ1
    simp only [Value.agg.injEq, Array.mk.injEq, List.cons.injEq, Value.int.injEq, Value.slice.injEq, true_and, and_true] at he
    obtain ⟨rfl, rfl, rfl, rfl⟩ := he
    exact ⟨.slice (some ⟨w1.heap.size, 0, none⟩) 3 3, w1.alloc (.cells #[.int .i64 N0, .slice A0 l0.length c0, .int .i64 (n : Int), .slice AL l.length cl, .int .i64 N2, .slice A2 l2.length c2] 24), by go_simp, ⟨hS1.1.below (newB _ _), Nat.le_trans hS1.2 (newB _ _).size⟩, ⟨_, rfl⟩, w1.heap.size, l2, rfl, Blk.new _ _ _, hl2, hr2.below (newB _ _)⟩
  rintro v40 ⟨q40, rfl⟩
  simp only [Act.put, List.setIfInBounds_toArray, List.set_cons_zero, List.set_cons_succ]
  repeat (first
    | (refine TxtBL.skip (by rfl) ?_; simp only [Act.put, List.setIfInBounds_toArray, List.set_cons_zero, List.set_cons_succ])
    | (refine TxtBL.take (by rfl) (by rfl) ?_; apply Exists.intro; refine ⟨fun w1 hS1 => ?_, ?_⟩; (focus (skip; go_simp; with_reducible rfl)); simp only [Act.put, List.setIfInBounds_toArray, List.set_cons_zero, List.set_cons_succ])
    | (refine TxtBL.takeE (by rfl) (by rfl) ?_; apply Exists.intro; refine ⟨fun w1 hS1 => ?_, ?_⟩; (focus (skip; go_simp; with_reducible rfl)); simp only [Act.put, List.setIfInBounds_toArray, List.set_cons_zero, List.set_cons_succ]))
  refine TxtBL.nil (fun W2 hS hJ => ?_)
  obtain ⟨hst2, hW12⟩ := hS
  obtain ⟨q, l2, hq, hblk, hl2, hr2⟩ := hJ
  injection hq with hq
  injection hq with hq
  injection hq with hq _ _
  subst hq
  have hbw2 : Below wc.heap.size wc W2 := hst2.hb
  have hr02 := hrR.below hbw2
  have hrl2 := hst2.rp
  have hblt := hblk.lt
  have Hblk := Lib.hid hblk
  have hTW := hT0.below hbw2
  clear hst hst2 hblk
  go_wp2_with fail
  go_loopw [42] (fun j wr => ∃ k : Nat, k ≤ 3 ∧ j = .int .i64 k ∧ Below W2.heap.size W2 wr) (fun j _ => 3 - (intOf j).toNat)
  case atStart => exact ⟨0, by omega, rfl, Below.refl _ _⟩
  case round =>
    obtain ⟨k, hk, rfl, hbl⟩ := hrel
    have hbw := endB hbw2 hbl
    by_cases hk3 : k < 3
    case neg =>
      go_wp2_with fail
      refine (awake14_any wr (hTW.below hbl)).mono ?_
      rintro e w9 ⟨rfl, hb9⟩
      go_wp2_with fail
      go_ret
      exact ⟨rfl, endB hb0 (endB hbw hb9)⟩
    case pos =>
    have hk3' : (k : Int) < 3 := by omega
    have hk0' : (0 : Int) ≤ (k : Int) := by omega
    obtain ⟨N', l', A', c', e0, e1, hrp', hl3⟩ : ∃ (N' : Int) (l' : List (Int × Int)) (A' : Option Addr) (c' : Nat), wr.cell? ⟨q40, k * 2, none⟩ = some (.int .i64 N') ∧ wr.cell? ⟨q40, k * 2 + 1, none⟩ = some (.slice A' l'.length c') ∧ RP wr A' l' ∧ l'.length ≤ 100000 := by
      have hb := Hblk.out.below hbl hblt
      have : k = 0 ∨ k = 1 ∨ k = 2 := by omega
      rcases this with h | h | h <;> subst h
      · exact ⟨N0, l0, A0, c0, by rw [hb.cell]; rfl, by rw [hb.cell]; rfl, hr02.below hbl, hl60⟩
      · exact ⟨n, l, AL, cl, by rw [hb.cell]; rfl, by rw [hb.cell]; rfl, hrl2.below hbl, hlen⟩
      · exact ⟨N2, l2, A2, c2, by rw [hb.cell]; rfl, by rw [hb.cell]; rfl, hr2.below hbl, hl2⟩
    obtain ⟨W3, hW3, f0, f1, hb3, hlt3⟩ := boxed wr 24 (.int .i64 N') (.slice A' l'.length c')
    have hbk3 := endB hbl hb3
    have hrp3 := hrp'.below hb3
    have hT3 := hTW.below hbk3
    by_cases h8 : 8 < N'
    case pos =>
      have h8d : decide ((8 : Int) < N') = true := by rw [decide_eq_true_eq]; exact h8
      by_cases h40 : N' ≤ 40
      case pos =>
        have h40d : decide (N' ≤ (40 : Int)) = true := by rw [decide_eq_true_eq]; exact h40
        go_wp2_with fail
        go_roundw
        case rel => exact ⟨k + 1, by omega, by go_num, hbk3⟩
        case measure => simp [intOf]; omega
      case neg =>
        have h40d : decide (N' ≤ (40 : Int)) = false := by rw [decide_eq_false_iff_not]; exact h40
        go_upto_region 9 with fail
        clear hW3 e0 e1 hrp'
        have hcc := complete_any A' N' l' c' W3 hrp3 hl3 hT3
        obtain ⟨CR, hCR⟩ : ∃ r, compR N' l' = r := ⟨_, rfl⟩
        obtain ⟨NR, hNR⟩ : ∃ r, navR N' l' = r := ⟨_, rfl⟩
        have hcs := compR_small N' l'
        have hns := navR_small N' l'
        rw [hCR] at hcc hcs
        rw [hNR] at hns
        have Hcc := Lib.hid hcc; have HCR := Lib.hid hCR; have HNR := Lib.hid hNR
        obtain ⟨hcs1, hcs2⟩ := hcs
        obtain ⟨hns1, hns2⟩ := hns
        have Hcs2 := Lib.hid hcs2; have Hns2 := Lib.hid hns2
        clear hcc hCR hNR hcs2 hns2
        go_wp2_with fail
        refine Hcc.out.mono ?_
        rintro e w4 ⟨A4, c4, rfl, hr4, _, hb4⟩
        have hb34 := endB hbk3 hb4
        have g40 := (hb4.cell (lt_of_cell f0)).trans f0
        have g41 := (hb4.cell (lt_of_cell f1)).trans f1
        have hc5 := r14Complete_any A' N' l' c' w4 (hrp3.below hb4) hl3 (hT3.below hb4)
        rw [HCR.out] at hc5
        have Hc5 := Lib.hid hc5
        have Hr4 := Lib.hid hr4.rs
        clear hc5 hr4 Hcc
        go_wp2_with fail
        refine Hc5.out.mono ?_
        rintro e w5 ⟨A5, c5, rfl, hr5, _, hb5⟩
        have hb35 := endB hb34 hb5
        have hb45 := hb5
        have g50 := (hb5.cell (lt_of_cell g40)).trans g40
        have g51 := (hb5.cell (lt_of_cell g41)).trans g41
        have hc6 := naive_any A' N' l' c' w5 (hrp3.below (endB hb4 hb5)) hl3 (hT3.below (endB hb4 hb5))
        rw [HNR.out] at hc6
        have Hc6 := Lib.hid hc6
        have Hr5 := Lib.hid hr5.rs
        have Hr45 := Lib.hid (Hr4.out.below hb5)
        clear hc6 hr5 Hc5 g40 g41
        go_wp2_with fail
        refine Hc6.out.mono ?_
        rintro e w6 ⟨A6, c6, rfl, hr6, _, hb6⟩
        have hb36 := endB hb35 hb6
        have g60 := (hb6.cell (lt_of_cell g50)).trans g50
        have g61 := (hb6.cell (lt_of_cell g51)).trans g51
        have hc7 := r14Naive_any A' N' l' c' w6 (hrp3.below (endB (endB hb4 hb5) hb6)) hl3
        rw [HNR.out] at hc7
        have Hc7 := Lib.hid hc7
        have Hr6 := Lib.hid hr6.rs
        have Hr46 := Lib.hid (Hr45.out.below hb6); have Hr56 := Lib.hid (Hr5.out.below hb6)
        clear hc7 hr6 Hc6 g50 g51
        go_wp2_with fail
        refine Hc7.out.mono ?_
        rintro e w7 ⟨A7, c7, rfl, hr7, _, hb7⟩
        have hb37 := endB hb36 hb7
        have hls1 := lists_any A4 A5 CR.1 CR.1 c4 c5 w7 (by omega) (by omega) (fun x hx => by have := Hcs2.out x hx; omega) (fun x hx => by have := Hcs2.out x hx; omega) (Hr46.out.below hb7) (Hr56.out.below hb7)
        rw [(eqLs_iff _ _).2 rfl] at hls1
        have Hls1 := Lib.hid hls1
        have Hr67 := Lib.hid (Hr6.out.below hb7)
        have Hr7 := Lib.hid hr7.rs
        clear hls1 hr7 Hc7 g60 g61
        go_wp2_with fail
        refine Hls1.out.mono ?_
        rintro e w8 ⟨rfl, hb8⟩
        have hb38 := endB hb37 hb8
        have hls2 := lists_any A6 A7 NR.1 NR.1 c6 c7 w8 (by omega) (by omega) (fun x hx => by have := Hns2.out x hx; omega) (fun x hx => by have := Hns2.out x hx; omega) (Hr67.out.below hb8) (Hr7.out.below hb8)
        rw [(eqLs_iff _ _).2 rfl] at hls2
        have Hls2 := Lib.hid hls2
        clear hls2 Hls1
        go_wp2_with fail
        refine Hls2.out.mono ?_
        rintro e w9 ⟨rfl, hb9⟩
        have hb39 := endB hb38 hb9
        go_wp2_with fail
        go_roundw
        case rel => exact ⟨k + 1, by omega, by go_num, hb39⟩
        case measure => simp [intOf]; omega
    case neg =>
      have h8d : decide ((8 : Int) < N') = false := by rw [decide_eq_false_iff_not]; exact h8
      go_upto_region 9 with fail
      clear hW3 e0 e1 hrp'
      have hcc := complete_any A' N' l' c' W3 hrp3 hl3 hT3
      obtain ⟨CR, hCR⟩ : ∃ r, compR N' l' = r := ⟨_, rfl⟩
      obtain ⟨NR, hNR⟩ : ∃ r, navR N' l' = r := ⟨_, rfl⟩
      have hcs := compR_small N' l'
      have hns := navR_small N' l'
      rw [hCR] at hcc hcs
      rw [hNR] at hns
      have Hcc := Lib.hid hcc; have HCR := Lib.hid hCR; have HNR := Lib.hid hNR
      obtain ⟨hcs1, hcs2⟩ := hcs
      obtain ⟨hns1, hns2⟩ := hns
      have Hcs2 := Lib.hid hcs2; have Hns2 := Lib.hid hns2
      clear hcc hCR hNR hcs2 hns2
      go_wp2_with fail
      refine Hcc.out.mono ?_
      rintro e w4 ⟨A4, c4, rfl, hr4, _, hb4⟩
      have hb34 := endB hbk3 hb4
      have g40 := (hb4.cell (lt_of_cell f0)).trans f0
      have g41 := (hb4.cell (lt_of_cell f1)).trans f1
      have hc5 := r14Complete_any A' N' l' c' w4 (hrp3.below hb4) hl3 (hT3.below hb4)
      rw [HCR.out] at hc5
      have Hc5 := Lib.hid hc5
      have Hr4 := Lib.hid hr4.rs
      clear hc5 hr4 Hcc
      go_wp2_with fail
      refine Hc5.out.mono ?_
      rintro e w5 ⟨A5, c5, rfl, hr5, _, hb5⟩
      have hb35 := endB hb34 hb5
      have hb45 := hb5
      have g50 := (hb5.cell (lt_of_cell g40)).trans g40
      have g51 := (hb5.cell (lt_of_cell g41)).trans g41
      have hc6 := naive_any A' N' l' c' w5 (hrp3.below (endB hb4 hb5)) hl3 (hT3.below (endB hb4 hb5))
      rw [HNR.out] at hc6
      have Hc6 := Lib.hid hc6
      have Hr5 := Lib.hid hr5.rs
      have Hr45 := Lib.hid (Hr4.out.below hb5)
      clear hc6 hr5 Hc5 g40 g41
      go_wp2_with fail
      refine Hc6.out.mono ?_
      rintro e w6 ⟨A6, c6, rfl, hr6, _, hb6⟩
      have hb36 := endB hb35 hb6
      have g60 := (hb6.cell (lt_of_cell g50)).trans g50
      have g61 := (hb6.cell (lt_of_cell g51)).trans g51
      have hc7 := r14Naive_any A' N' l' c' w6 (hrp3.below (endB (endB hb4 hb5) hb6)) hl3
      rw [HNR.out] at hc7
      have Hc7 := Lib.hid hc7
      have Hr6 := Lib.hid hr6.rs
      have Hr46 := Lib.hid (Hr45.out.below hb6); have Hr56 := Lib.hid (Hr5.out.below hb6)
      clear hc7 hr6 Hc6 g50 g51
      go_wp2_with fail
      refine Hc7.out.mono ?_
      rintro e w7 ⟨A7, c7, rfl, hr7, _, hb7⟩
      have hb37 := endB hb36 hb7
      have hls1 := lists_any A4 A5 CR.1 CR.1 c4 c5 w7 (by omega) (by omega) (fun x hx => by have := Hcs2.out x hx; omega) (fun x hx => by have := Hcs2.out x hx; omega) (Hr46.out.below hb7) (Hr56.out.below hb7)
      rw [(eqLs_iff _ _).2 rfl] at hls1
      have Hls1 := Lib.hid hls1
      have Hr67 := Lib.hid (Hr6.out.below hb7)
      have Hr7 := Lib.hid hr7.rs
      clear hls1 hr7 Hc7 g60 g61
      go_wp2_with fail
      refine Hls1.out.mono ?_
      rintro e w8 ⟨rfl, hb8⟩
      have hb38 := endB hb37 hb8
      have hls2 := lists_any A6 A7 NR.1 NR.1 c6 c7 w8 (by omega) (by omega) (fun x hx => by have := Hns2.out x hx; omega) (fun x hx => by have := Hns2.out x hx; omega) (Hr67.out.below hb8) (Hr7.out.below hb8)
      rw [(eqLs_iff _ _).2 rfl] at hls2
      have Hls2 := Lib.hid hls2
      clear hls2 Hls1
      go_wp2_with fail
      refine Hls2.out.mono ?_
      rintro e w9 ⟨rfl, hb9⟩
      have hb39 := endB hb38 hb9
      go_wp2_with fail
      go_roundw
      case rel => exact ⟨k + 1, by omega, by go_num, hb39⟩
      case measure => simp [intOf]; omega
end Go.Proofs.YtajocnhebfpjaaaDoor
