/- law15: the walk of ExtensionLists. -/
import Derived.Test.YtajocnhebfpjaaaDoorHas15
import Derived.Test.YtajocnhebfpjaaaDoorSpo
namespace Go.Proofs.YtajocnhebfpjaaaDoor
open Go.ChangeShapes Go.WideShapes Go.ChangeAt Go.RowKit

theorem bestR_small (p : List Int → List Int → Bool) (N : Int) (l : List (Int × Int)) : (bestR p N l).1.length ≤ 200 ∧ ∀ x ∈ (bestR p N l).1, x.length ≤ 100 := by
  obtain ⟨h1, h2⟩ := compR_sm N l
  unfold bestR
  split
  · refine ⟨Nat.le_trans (List.length_filter_le _ _) h1, fun x hx => h2 x (List.mem_filter.1 hx).1⟩
  · exact ⟨by simp, fun x hx => by cases hx⟩

set_option maxRecDepth 100000 in
set_option maxHeartbeats 8000000 in
theorem exl_law_any (A0 : Option Addr) (N0 : Int) (l0 : List (Int × Int)) (c0 : Nat) (A : Option Addr) (arg : List Int) (c : Nat) (w : World)
    (_hl0 : l0.length ≤ 9223372036854775807) (hr0 : RP w A0 l0) (_h0n : A0 = none → l0 = [] ∧ c0 = 0)
    (hlc : arg.length ≤ c) (hc : c ≤ 9223372036854775807) (hr : RI w A arg) (hx : ∀ x ∈ arg, -9223372036854775808 ≤ x ∧ x ≤ 9223372036854775807) (hT : Tab w) :
    Calls Tryd.prog 9 #[.agg #[.int .i64 N0, .slice A0 l0.length c0], .slice A arg.length c] w (RetB (.bool true) w) := by
  go_enter Tryd.func9, Tryd.ntmps9
  go_upto_region 1 with fail
  obtain ⟨W0, hW, b0, b1, hb0, hlt0⟩ := boxed w 24 (.int .i64 N0) (.slice A0 l0.length c0)
  rw [hW]
  clear hW
  by_cases h60 : 60 < l0.length
  · have hd : decide ((60 : Int) < (l0.length : Int)) = true := by rw [decide_eq_true_eq]; omega
    have H60 := Lib.hid h60; clear h60
    go_wp2_with fail
    go_ret
    exact ⟨rfl, hb0⟩
  have hd0 : decide ((60 : Int) < (l0.length : Int)) = false := by rw [decide_eq_false_iff_not]; omega
  have hl60 : l0.length ≤ 100000 := by omega
  by_cases hA : 7 < N0 ∧ N0 ≤ 40
  case pos =>
    obtain ⟨h7, h40⟩ := hA
    clear h60
    go_wp2_with fail
    go_ret
    exact ⟨rfl, hb0⟩
  case neg =>
  go_cut [34] (fun s34 wx => s34 = .bool false ∧ wx = W0)
  case first =>
    clear h60
    by_cases h7 : 7 < N0
    · have h40 : ¬ N0 ≤ 40 := fun h => hA ⟨h7, h⟩
      clear hA
      go_wp2_with fail
      go_meet
      exact ⟨rfl, rfl⟩
    · clear hA
      go_wp2_with fail
      go_meet
      exact ⟨rfl, rfl⟩
  obtain ⟨rfl, hwc⟩ := hcut
  subst hwc
  clear h60 hd0 hA
  have hrR := hr0.below hb0
  have hT0 := hT.below hb0
  go_wp2_with fail
  refine (new_any A arg c wc hlc hc (hr.below hb0) hx).mono ?_
  rintro e w1 ⟨p, rfl, hp, hs1, hb1⟩
  have hp1 := hs1.lt
  clear hr hx hr0 hT
  go_wp2_with fail
  refine (graph2_any p 7 w1 hs1 (by omega)).mono ?_
  rintro e w2 ⟨n, l, AL, cl, rfl, hN, hv, hrp, hloc, hs2, hg2, hAn⟩
  have hb2 : Below wc.heap.size wc w2 := hb1.trans (below_of_grownBy hg2 hp hb1.size)
  clear hs1 hb1 hg2
  go_upto_region 5 with fail
  obtain ⟨W1, hW, k0, k1, hbx, hlt1⟩ := boxed w2 24 (.int .i64 n) (.slice AL l.length cl)
  rw [hW]
  clear hW
  have hst := GSt.start hp hp1 hb2 hs2 hrp hloc hbx k0 k1
  have hlen := hv.1.2.1
  have HV := Lib.hid hv; have HAn := Lib.hid hAn
  clear hs2 hrp hloc hbx k0 k1 hb2 hp1 hv hAn
  generalize w2.heap.size = G at *
  have hbG := hst.hb
  refine wp_region_textB [4, 5] (fun w' => GSt wc p G n l AL cl w' ∧ W1.heap.size ≤ w'.heap.size) (fun _ => True) (by kernel_rfl) (by kernel_rfl) (by kernel_rfl) ⟨hst.below (Below.refl _ _).drew, Nat.le_refl _⟩ trivial ?_
  repeat (first
    | (refine TxtBL.skip (by rfl) ?_; simp only [Act.put, List.setIfInBounds_toArray, List.set_cons_zero, List.set_cons_succ])
    | (refine TxtBL.take (by rfl) (by rfl) ?_; apply Exists.intro; refine ⟨fun w1 hS1 => ?_, ?_⟩; (focus ((have g0 := hS1.1.c0); (have g1 := hS1.1.c1); (have g2 := (hS1.1.hb.cell (lt_of_cell b0)).trans b0); (have g3 := (hS1.1.hb.cell (lt_of_cell b1)).trans b1); go_simp; with_reducible rfl)); simp only [Act.put, List.setIfInBounds_toArray, List.set_cons_zero, List.set_cons_succ])
    | (refine TxtBL.takeE (by rfl) (by rfl) ?_; apply Exists.intro; refine ⟨fun w1 hS1 => ?_, ?_⟩; (focus ((have g0 := hS1.1.c0); (have g1 := hS1.1.c1); (have g2 := (hS1.1.hb.cell (lt_of_cell b0)).trans b0); (have g3 := (hS1.1.hb.cell (lt_of_cell b1)).trans b1); go_simp; with_reducible rfl)); simp only [Act.put, List.setIfInBounds_toArray, List.set_cons_zero, List.set_cons_succ]))
  refine TxtBL.call (f := 17) (args := #[.pointer (some ⟨p, 0, none⟩), .agg #[.int .i64 (n : Int), .slice AL l.length cl]]) (fun v => ∃ N2 A2 k2 c2, v = Value.agg #[.int .i64 N2, .slice A2 k2 c2]) (fun v w' => ∃ N2 l2 A2 c2, v = Value.agg #[.int .i64 N2, .slice A2 l2.length c2] ∧ l2.length ≤ 100000 ∧ RP w' A2 l2) (by rfl) (by rfl) ⟨_, 0, none, 0, 0, rfl⟩ (fun w1 hS1 hJ1 => by go_simp) (fun w1 hS1 hJ1 => ?_) ?_
  · refine (spoilt_any p AL (n : Int) l cl w1 hS1.1.src hS1.1.rp HAn.out hlen).mono ?_
    rintro e w' ⟨N2, l2, A2, c2, rfl, hl2, hr2, _, hs2, hg2⟩
    have hl1600 := len_of_vld HV.out
    exact ⟨_, rfl, ⟨hS1.1.grown hs2 hg2, Nat.le_trans hS1.2 hg2.size⟩, ⟨N2, A2, _, c2, rfl⟩, N2, l2, A2, c2, rfl, by omega, hr2⟩
  rintro v43 ⟨N2, A2, k2, c2, rfl⟩
  simp only [Act.put, List.setIfInBounds_toArray, List.set_cons_zero, List.set_cons_succ]
  refine TxtBL.value (fun u => ∃ q, u = Value.slice (some ⟨q, 0, none⟩) 3 3) (fun u w' => ∃ q l2, u = Value.slice (some ⟨q, 0, none⟩) 3 3 ∧ Blk w' q 24 #[.int .i64 N0, .slice A0 l0.length c0, .int .i64 (n : Int), .slice AL l.length cl, .int .i64 N2, .slice A2 l2.length c2] ∧ l2.length ≤ 100000 ∧ RP w' A2 l2) (by rfl) (by rfl) ⟨_, 0, rfl⟩ (fun w1 hS1 hJ1 => ?_) ?_
  · obtain ⟨N2', l2, A2', c2', he, hl2, hr2⟩ := hJ1
    simp only [Value.agg.injEq, Array.mk.injEq, List.cons.injEq, Value.int.injEq, Value.slice.injEq, true_and, and_true] at he
    obtain ⟨rfl, rfl, rfl, rfl⟩ := he
    exact ⟨.slice (some ⟨w1.heap.size, 0, none⟩) 3 3, w1.alloc (.cells #[.int .i64 N0, .slice A0 l0.length c0, .int .i64 (n : Int), .slice AL l.length cl, .int .i64 N2, .slice A2 l2.length c2] 24), by go_simp, ⟨hS1.1.below (newB _ _), Nat.le_trans hS1.2 (newB _ _).size⟩, ⟨_, rfl⟩, w1.heap.size, l2, rfl, Blk.new _ _ _, hl2, hr2.below (newB _ _)⟩
  rintro v44 ⟨q40, rfl⟩
  simp only [Act.put, List.setIfInBounds_toArray, List.set_cons_zero, List.set_cons_succ]
  repeat (first
    | (refine TxtBL.skip (by rfl) ?_; simp only [Act.put, List.setIfInBounds_toArray, List.set_cons_zero, List.set_cons_succ])
    | (refine TxtBL.take (by rfl) (by rfl) ?_; apply Exists.intro; refine ⟨fun w1 hS1 => ?_, ?_⟩; (focus (skip; go_simp; with_reducible rfl)); simp only [Act.put, List.setIfInBounds_toArray, List.set_cons_zero, List.set_cons_succ])
    | (refine TxtBL.takeE (by rfl) (by rfl) ?_; apply Exists.intro; refine ⟨fun w1 hS1 => ?_, ?_⟩; (focus (skip; go_simp; with_reducible rfl)); simp only [Act.put, List.setIfInBounds_toArray, List.set_cons_zero, List.set_cons_succ]))
  refine TxtBL.nil (fun W2 hS hJ => ?_)
  obtain ⟨hst2, hW12⟩ := hS
  obtain ⟨q, l2, hq, hblk, hl2, hr2⟩ := hJ
  injection hq with hq
  injection hq with hq
  injection hq with hq _ _
  subst hq
  have hbw2 : Below wc.heap.size wc W2 := hst2.hb
  have hr02 := hrR.below hbw2
  have hrl2 := hst2.rp
  have hblt := hblk.lt
  have Hblk := Lib.hid hblk
  have hTW := hT0.below hbw2
  clear hst hst2 hblk
  go_wp2_with fail
  go_loopw [46] (fun j wr => ∃ k : Nat, k ≤ 3 ∧ j = .int .i64 k ∧ Below W2.heap.size W2 wr) (fun j _ => 3 - (intOf j).toNat)
  case atStart => exact ⟨0, by omega, rfl, Below.refl _ _⟩
  case round =>
    obtain ⟨k, hk, rfl, hbl⟩ := hrel
    have hbw := endB hbw2 hbl
    by_cases hk3 : k < 3
    case neg =>
      go_wp2_with fail
      refine (awake15_any wr (hTW.below hbl)).mono ?_
      rintro e w9 ⟨rfl, hb9⟩
      go_wp2_with fail
      go_ret
      exact ⟨rfl, endB hb0 (endB hbw hb9)⟩
    case pos =>
    have hk3' : (k : Int) < 3 := by omega
    have hk0' : (0 : Int) ≤ (k : Int) := by omega
    obtain ⟨N', l', A', c', e0, e1, hrp', hl3⟩ : ∃ (N' : Int) (l' : List (Int × Int)) (A' : Option Addr) (c' : Nat), wr.cell? ⟨q40, k * 2, none⟩ = some (.int .i64 N') ∧ wr.cell? ⟨q40, k * 2 + 1, none⟩ = some (.slice A' l'.length c') ∧ RP wr A' l' ∧ l'.length ≤ 100000 := by
      have hb := Hblk.out.below hbl hblt
      have : k = 0 ∨ k = 1 ∨ k = 2 := by omega
      rcases this with h | h | h <;> subst h
      · exact ⟨N0, l0, A0, c0, by rw [hb.cell]; rfl, by rw [hb.cell]; rfl, hr02.below hbl, hl60⟩
      · exact ⟨n, l, AL, cl, by rw [hb.cell]; rfl, by rw [hb.cell]; rfl, hrl2.below hbl, hlen⟩
      · exact ⟨N2, l2, A2, c2, by rw [hb.cell]; rfl, by rw [hb.cell]; rfl, hr2.below hbl, hl2⟩
    obtain ⟨W3, hW3, f0, f1, hb3, hlt3⟩ := boxed wr 24 (.int .i64 N') (.slice A' l'.length c')
    have hbk3 := endB hbl hb3
    have hrp3 := hrp'.below hb3
    have hT3 := hTW.below hbk3
    go_upto_region 8 with fail
    clear hW3 e0 e1 hrp'
    have hbw0 := Below.refl W3.heap.size W3
    obtain ⟨PR, hPR⟩ : ∃ r, bestR prefP N' l' = r := ⟨_, rfl⟩
    obtain ⟨hP1, hP2⟩ := bestR_small prefP N' l'
    rw [hPR] at hP1 hP2
    have HPR := Lib.hid hPR; have HP2 := Lib.hid hP2
    clear hPR hP2
    obtain ⟨SR, hSR⟩ : ∃ r, bestR stabP N' l' = r := ⟨_, rfl⟩
    obtain ⟨hS1, hS2⟩ := bestR_small stabP N' l'
    rw [hSR] at hS1 hS2
    have HSR := Lib.hid hSR; have HS2 := Lib.hid hS2
    clear hSR hS2
    obtain ⟨MR, hMR⟩ : ∃ r, bestR semiP N' l' = r := ⟨_, rfl⟩
    obtain ⟨hM1, hM2⟩ := bestR_small semiP N' l'
    rw [hMR] at hM1 hM2
    have HMR := Lib.hid hMR; have HM2 := Lib.hid hM2
    clear hMR hM2
    have hc := xPreferred_any A' N' l' c' W3 (hrp3.below hbw0) hl3 (hT3.below hbw0)
    rw [HPR.out] at hc
    have Hc := Lib.hid hc
    clear hc
    go_wp2_with fail
    refine Hc.out.mono ?_
    rintro e w4 ⟨B4, k4, rfl, hr, _, _, hb⟩
    have hbw1 := endB hbw0 hb
    have f2 := (hb.cell (lt_of_cell f0)).trans f0
    have f3 := (hb.cell (lt_of_cell f1)).trans f1
    have Hr4 := Lib.hid hr.rs
    clear hr Hc hb f0 f1
    have hc := r15Preferred_any A' N' l' c' w4 (hrp3.below hbw1) hl3 (hT3.below hbw1)
    rw [HPR.out] at hc
    have Hc := Lib.hid hc
    clear hc
    go_wp2_with fail
    refine Hc.out.mono ?_
    rintro e w5 ⟨B5, k5, rfl, hr, _, hb⟩
    have hbw2 := endB hbw1 hb
    have f4 := (hb.cell (lt_of_cell f2)).trans f2
    have f5 := (hb.cell (lt_of_cell f3)).trans f3
    have Hr5 := Lib.hid hr.rs
    have Hr4' := Lib.hid (Hr4.out.below hb); clear Hr4; have Hr4 := Hr4'; clear Hr4'
    clear hr Hc hb f2 f3
    have hc := xStable_any A' N' l' c' w5 (hrp3.below hbw2) hl3 (hT3.below hbw2)
    rw [HSR.out] at hc
    have Hc := Lib.hid hc
    clear hc
    go_wp2_with fail
    refine Hc.out.mono ?_
    rintro e w6 ⟨B6, k6, rfl, hr, _, _, hb⟩
    have hbw3 := endB hbw2 hb
    have f6 := (hb.cell (lt_of_cell f4)).trans f4
    have f7 := (hb.cell (lt_of_cell f5)).trans f5
    have Hr6 := Lib.hid hr.rs
    have Hr4' := Lib.hid (Hr4.out.below hb); clear Hr4; have Hr4 := Hr4'; clear Hr4'
    have Hr5' := Lib.hid (Hr5.out.below hb); clear Hr5; have Hr5 := Hr5'; clear Hr5'
    clear hr Hc hb f4 f5
    have hc := r15Stable_any A' N' l' c' w6 (hrp3.below hbw3) hl3 (hT3.below hbw3)
    rw [HSR.out] at hc
    have Hc := Lib.hid hc
    clear hc
    go_wp2_with fail
    refine Hc.out.mono ?_
    rintro e w7 ⟨B7, k7, rfl, hr, _, hb⟩
    have hbw4 := endB hbw3 hb
    have f8 := (hb.cell (lt_of_cell f6)).trans f6
    have f9 := (hb.cell (lt_of_cell f7)).trans f7
    have Hr7 := Lib.hid hr.rs
    have Hr4' := Lib.hid (Hr4.out.below hb); clear Hr4; have Hr4 := Hr4'; clear Hr4'
    have Hr5' := Lib.hid (Hr5.out.below hb); clear Hr5; have Hr5 := Hr5'; clear Hr5'
    have Hr6' := Lib.hid (Hr6.out.below hb); clear Hr6; have Hr6 := Hr6'; clear Hr6'
    clear hr Hc hb f6 f7
    have hc := xSemiStable_any A' N' l' c' w7 (hrp3.below hbw4) hl3 (hT3.below hbw4)
    rw [HMR.out] at hc
    have Hc := Lib.hid hc
    clear hc
    go_wp2_with fail
    refine Hc.out.mono ?_
    rintro e w8 ⟨B8, k8, rfl, hr, _, _, hb⟩
    have hbw5 := endB hbw4 hb
    have f10 := (hb.cell (lt_of_cell f8)).trans f8
    have f11 := (hb.cell (lt_of_cell f9)).trans f9
    have Hr8 := Lib.hid hr.rs
    have Hr4' := Lib.hid (Hr4.out.below hb); clear Hr4; have Hr4 := Hr4'; clear Hr4'
    have Hr5' := Lib.hid (Hr5.out.below hb); clear Hr5; have Hr5 := Hr5'; clear Hr5'
    have Hr6' := Lib.hid (Hr6.out.below hb); clear Hr6; have Hr6 := Hr6'; clear Hr6'
    have Hr7' := Lib.hid (Hr7.out.below hb); clear Hr7; have Hr7 := Hr7'; clear Hr7'
    clear hr Hc hb f8 f9
    have hc := r15SemiStable_any A' N' l' c' w8 (hrp3.below hbw5) hl3 (hT3.below hbw5)
    rw [HMR.out] at hc
    have Hc := Lib.hid hc
    clear hc
    go_wp2_with fail
    refine Hc.out.mono ?_
    rintro e w9 ⟨B9, k9, rfl, hr, _, hb⟩
    have hbw6 := endB hbw5 hb
    have f12 := (hb.cell (lt_of_cell f10)).trans f10
    have f13 := (hb.cell (lt_of_cell f11)).trans f11
    have Hr9 := Lib.hid hr.rs
    have Hr4' := Lib.hid (Hr4.out.below hb); clear Hr4; have Hr4 := Hr4'; clear Hr4'
    have Hr5' := Lib.hid (Hr5.out.below hb); clear Hr5; have Hr5 := Hr5'; clear Hr5'
    have Hr6' := Lib.hid (Hr6.out.below hb); clear Hr6; have Hr6 := Hr6'; clear Hr6'
    have Hr7' := Lib.hid (Hr7.out.below hb); clear Hr7; have Hr7 := Hr7'; clear Hr7'
    have Hr8' := Lib.hid (Hr8.out.below hb); clear Hr8; have Hr8 := Hr8'; clear Hr8'
    clear hr Hc hb f10 f11
    have hls := lists_any B4 B5 PR.1 PR.1 k4 k5 w9 (by omega) (by omega) (fun x hx => by have := HP2.out x hx; omega) (fun x hx => by have := HP2.out x hx; omega) Hr4.out Hr5.out
    rw [(eqLs_iff _ _).2 rfl] at hls
    have Hls := Lib.hid hls
    clear hls
    go_wp2_with fail
    refine Hls.out.mono ?_
    rintro e w10 ⟨rfl, hb⟩
    have hbw7 := endB hbw6 hb
    have Hr4' := Lib.hid (Hr4.out.below hb); clear Hr4; have Hr4 := Hr4'; clear Hr4'
    have Hr5' := Lib.hid (Hr5.out.below hb); clear Hr5; have Hr5 := Hr5'; clear Hr5'
    have Hr6' := Lib.hid (Hr6.out.below hb); clear Hr6; have Hr6 := Hr6'; clear Hr6'
    have Hr7' := Lib.hid (Hr7.out.below hb); clear Hr7; have Hr7 := Hr7'; clear Hr7'
    have Hr8' := Lib.hid (Hr8.out.below hb); clear Hr8; have Hr8 := Hr8'; clear Hr8'
    have Hr9' := Lib.hid (Hr9.out.below hb); clear Hr9; have Hr9 := Hr9'; clear Hr9'
    clear Hls hb
    have hls := lists_any B6 B7 SR.1 SR.1 k6 k7 w10 (by omega) (by omega) (fun x hx => by have := HS2.out x hx; omega) (fun x hx => by have := HS2.out x hx; omega) Hr6.out Hr7.out
    rw [(eqLs_iff _ _).2 rfl] at hls
    have Hls := Lib.hid hls
    clear hls
    go_wp2_with fail
    refine Hls.out.mono ?_
    rintro e w11 ⟨rfl, hb⟩
    have hbw8 := endB hbw7 hb
    have Hr4' := Lib.hid (Hr4.out.below hb); clear Hr4; have Hr4 := Hr4'; clear Hr4'
    have Hr5' := Lib.hid (Hr5.out.below hb); clear Hr5; have Hr5 := Hr5'; clear Hr5'
    have Hr6' := Lib.hid (Hr6.out.below hb); clear Hr6; have Hr6 := Hr6'; clear Hr6'
    have Hr7' := Lib.hid (Hr7.out.below hb); clear Hr7; have Hr7 := Hr7'; clear Hr7'
    have Hr8' := Lib.hid (Hr8.out.below hb); clear Hr8; have Hr8 := Hr8'; clear Hr8'
    have Hr9' := Lib.hid (Hr9.out.below hb); clear Hr9; have Hr9 := Hr9'; clear Hr9'
    clear Hls hb
    have hls := lists_any B8 B9 MR.1 MR.1 k8 k9 w11 (by omega) (by omega) (fun x hx => by have := HM2.out x hx; omega) (fun x hx => by have := HM2.out x hx; omega) Hr8.out Hr9.out
    rw [(eqLs_iff _ _).2 rfl] at hls
    have Hls := Lib.hid hls
    clear hls
    go_wp2_with fail
    refine Hls.out.mono ?_
    rintro e w12 ⟨rfl, hb⟩
    have hbw9 := endB hbw8 hb
    have Hr4' := Lib.hid (Hr4.out.below hb); clear Hr4; have Hr4 := Hr4'; clear Hr4'
    have Hr5' := Lib.hid (Hr5.out.below hb); clear Hr5; have Hr5 := Hr5'; clear Hr5'
    have Hr6' := Lib.hid (Hr6.out.below hb); clear Hr6; have Hr6 := Hr6'; clear Hr6'
    have Hr7' := Lib.hid (Hr7.out.below hb); clear Hr7; have Hr7 := Hr7'; clear Hr7'
    have Hr8' := Lib.hid (Hr8.out.below hb); clear Hr8; have Hr8 := Hr8'; clear Hr8'
    have Hr9' := Lib.hid (Hr9.out.below hb); clear Hr9; have Hr9 := Hr9'; clear Hr9'
    clear Hls hb
    go_wp2_with fail
    go_roundw
    case rel => exact ⟨k + 1, by omega, by go_num, endB hbk3 hbw9⟩
    case measure => simp [intOf]; omega
end Go.Proofs.YtajocnhebfpjaaaDoor
