/- law16: the walk of CoreLabels. -/
import Derived.Test.YtcpombepajapjaaGreatDoorCorR
import Derived.Test.YtcpombepajapjaaGreatDoorAw16
import Derived.Test.YtcpombepajapjaaGreatDoorSml
import Derived.Test.YtcpombepajapjaaGreatDoorSpo
namespace Go.Proofs.YtcpombepajapjaaGreatDoor
open Go.ChangeShapes Go.WideShapes Go.ChangeAt Go.RowKit

theorem small_allC {L : List (List Int)} {n : Int} (h : smallB L n = true) : (L.length : Int) ≤ n ∧ ∀ x ∈ L, (x.length : Int) ≤ n := by
  unfold smallB at h
  rw [Bool.and_eq_true, decide_eq_true_iff, List.all_eq_true] at h
  exact ⟨h.2, fun x hx => by have := h.1 x hx; rwa [decide_eq_true_iff] at this⟩
theorem coreR_small (p : List Int → List Int → Bool) (N : Int) (l : List (Int × Int)) (hlen : l.length ≤ 100000) : (coreR p N l).1.length ≤ 1000 := by
  unfold coreR
  split
  · rename_i h
    obtain ⟨n, rfl, hv, _, _⟩ := bestR_zero h hlen
    show (fromL (n : Int).toNat l _).length ≤ 1000
    rw [Int.toNat_natCast, (labB_iff.1 (fromL_lab n l _)).1]
    have := hv.1.1; omega
  · simp
theorem lit3l (w : World) {A1 A2 A3 : Option Addr} {x y z : List Int} {c1 c2 c3 : Nat} (h1 : RI w A1 x) (h2 : RI w A2 y) (h3 : RI w A3 z) : ∃ W, w.alloc (.cells #[.slice A1 x.length c1, .slice A2 y.length c2, .slice A3 z.length c3] 26) = W ∧ RS W (some ⟨w.heap.size, 0, none⟩) [x, y, z] ∧ Below w.heap.size w W :=
  ⟨_, rfl, rs_new3 w h1 h2 h3, newB _ _⟩

set_option maxRecDepth 100000 in
set_option maxHeartbeats 8000000 in
theorem crl_law_any (A0 : Option Addr) (N0 : Int) (l0 : List (Int × Int)) (c0 : Nat) (A1 : Option Addr) (L1 : List (List Int)) (c1 : Nat) (A : Option Addr) (arg : List Int) (c : Nat) (w : World)
    (_hl0 : l0.length ≤ 9223372036854775807) (hr0 : RP w A0 l0) (_h0n : A0 = none → l0 = [] ∧ c0 = 0)
    (hl1 : L1.length ≤ 9223372036854775807) (hr1 : RS w A1 L1) (_h1n : A1 = none → L1 = [] ∧ c1 = 0)
    (hlc : arg.length ≤ c) (hc : c ≤ 9223372036854775807) (hr : RI w A arg) (hx : ∀ x ∈ arg, -9223372036854775808 ≤ x ∧ x ≤ 9223372036854775807) (hT : Tab w) :
    Calls Tryz.prog 3 #[.agg #[.int .i64 N0, .slice A0 l0.length c0], .slice A1 L1.length c1, .slice A arg.length c] w (RetB (.bool true) w) := by
  go_enter Tryz.func3, Tryz.ntmps3
  go_upto_region 1 with fail
  obtain ⟨W0, hW, b0, b1, hb0, hlt0⟩ := boxed w 24 (.int .i64 N0) (.slice A0 l0.length c0)
  rw [hW]
  clear hW
  by_cases h60 : 60 < l0.length
  · have hd : decide ((60 : Int) < (l0.length : Int)) = true := by rw [decide_eq_true_eq]; omega
    have H60 := Lib.hid h60; clear h60
    go_wp2_with fail
    go_ret
    exact ⟨rfl, hb0⟩
  have hd0 : decide ((60 : Int) < (l0.length : Int)) = false := by rw [decide_eq_false_iff_not]; omega
  have hl60 : l0.length ≤ 100000 := by omega
  by_cases hA : 7 < N0 ∧ N0 ≤ 40
  case pos =>
    obtain ⟨h7, h40⟩ := hA
    clear h60
    go_wp2_with fail
    go_ret
    exact ⟨rfl, hb0⟩
  case neg =>
  have hr1W := hr1.below hb0
  have hsl := smallLists_any A1 L1 c1 40 W0 hr1W hl1
  obtain ⟨sm, hsm⟩ : ∃ q, smallB L1 40 = q := ⟨_, rfl⟩
  rw [hsm] at hsl
  have Hsl := Lib.hid hsl; have Hsm := Lib.hid hsm
  clear hsl hsm
  go_cut [39] (fun s39 wx => s39 = .bool (!sm) ∧ wx = W0)
  case first =>
    clear h60
    by_cases h7 : 7 < N0
    · have h40 : ¬ N0 ≤ 40 := fun h => hA ⟨h7, h⟩
      clear hA
      go_wp2_with fail
      refine Hsl.out.mono ?_
      rintro e w1 hret
      obtain ⟨rfl, hw1⟩ := hret
      subst hw1
      go_wp2_with fail
      go_meet
      exact ⟨rfl, rfl⟩
    · clear hA
      go_wp2_with fail
      refine Hsl.out.mono ?_
      rintro e w1 hret
      obtain ⟨rfl, hw1⟩ := hret
      subst hw1
      go_wp2_with fail
      go_meet
      exact ⟨rfl, rfl⟩
  obtain ⟨rfl, hwc⟩ := hcut
  subst hwc
  clear h60 hd0 hA Hsl
  cases sm
  case false =>
    clear Hsm
    go_wp2_with fail
    go_ret
    exact ⟨rfl, hb0⟩
  case true =>
  obtain ⟨hsm1, hsm2⟩ := small_allC Hsm.out
  have Hsm2 := Lib.hid hsm2
  clear hsm2 Hsm
  have hrR := hr0.below hb0
  have hT0 := hT.below hb0
  go_wp2_with fail
  refine (new_any A arg c wc hlc hc (hr.below hb0) hx).mono ?_
  rintro e w1 ⟨p, rfl, hp, hs1, hb1⟩
  have hp1 := hs1.lt
  clear hr hx hr0 hT hr1
  go_wp2_with fail
  refine (graph2_any p 7 w1 hs1 (by omega)).mono ?_
  rintro e w2 ⟨n, l, AL, cl, rfl, hN, hv, hrp, hloc, hs2, hg2, hAn⟩
  have hb2 : Below wc.heap.size wc w2 := hb1.trans (below_of_grownBy hg2 hp hb1.size)
  clear hs1 hb1 hg2
  go_upto_region 5 with fail
  obtain ⟨W1, hW, k0, k1, hbx, hlt1⟩ := boxed w2 24 (.int .i64 n) (.slice AL l.length cl)
  rw [hW]
  clear hW
  have hst := GSt.start hp hp1 hb2 hs2 hrp hloc hbx k0 k1
  have hlen := hv.1.2.1
  have HV := Lib.hid hv; have HAn := Lib.hid hAn
  clear hs2 hrp hloc hbx k0 k1 hb2 hp1 hv hAn
  generalize w2.heap.size = G at *
  have hbG := hst.hb
  refine wp_region_textB [4, 5] (fun w' => GSt wc p G n l AL cl w' ∧ W1.heap.size ≤ w'.heap.size) (fun _ => True) (by kernel_rfl) (by kernel_rfl) (by kernel_rfl) ⟨hst.below (Below.refl _ _).drew, Nat.le_refl _⟩ trivial ?_
  repeat (first
    | (refine TxtBL.skip (by rfl) ?_; simp only [Act.put, List.setIfInBounds_toArray, List.set_cons_zero, List.set_cons_succ])
    | (refine TxtBL.take (by rfl) (by rfl) ?_; apply Exists.intro; refine ⟨fun w1 hS1 => ?_, ?_⟩; (focus ((have g0 := hS1.1.c0); (have g1 := hS1.1.c1); (have g2 := (hS1.1.hb.cell (lt_of_cell b0)).trans b0); (have g3 := (hS1.1.hb.cell (lt_of_cell b1)).trans b1); go_simp; with_reducible rfl)); simp only [Act.put, List.setIfInBounds_toArray, List.set_cons_zero, List.set_cons_succ])
    | (refine TxtBL.takeE (by rfl) (by rfl) ?_; apply Exists.intro; refine ⟨fun w1 hS1 => ?_, ?_⟩; (focus ((have g0 := hS1.1.c0); (have g1 := hS1.1.c1); (have g2 := (hS1.1.hb.cell (lt_of_cell b0)).trans b0); (have g3 := (hS1.1.hb.cell (lt_of_cell b1)).trans b1); go_simp; with_reducible rfl)); simp only [Act.put, List.setIfInBounds_toArray, List.set_cons_zero, List.set_cons_succ]))
  refine TxtBL.call (f := 7) (args := #[.pointer (some ⟨p, 0, none⟩), .agg #[.int .i64 (n : Int), .slice AL l.length cl]]) (fun v => ∃ N2 A2 k2 c2, v = Value.agg #[.int .i64 N2, .slice A2 k2 c2]) (fun v w' => ∃ N2 l2 A2 c2, v = Value.agg #[.int .i64 N2, .slice A2 l2.length c2] ∧ l2.length ≤ 100000 ∧ RP w' A2 l2) (by rfl) (by rfl) ⟨_, 0, none, 0, 0, rfl⟩ (fun w1 hS1 hJ1 => by go_simp) (fun w1 hS1 hJ1 => ?_) ?_
  · refine (spoilt_any p AL (n : Int) l cl w1 hS1.1.src hS1.1.rp HAn.out hlen).mono ?_
    rintro e w' ⟨N2, l2, A2, c2, rfl, hl2, hr2, _, hs2, hg2⟩
    have hl1600 := len_of_vld HV.out
    exact ⟨_, rfl, ⟨hS1.1.grown hs2 hg2, Nat.le_trans hS1.2 hg2.size⟩, ⟨N2, A2, _, c2, rfl⟩, N2, l2, A2, c2, rfl, by omega, hr2⟩
  rintro v43 ⟨N2, A2, k2, c2, rfl⟩
  simp only [Act.put, List.setIfInBounds_toArray, List.set_cons_zero, List.set_cons_succ]
  refine TxtBL.value (fun u => ∃ q, u = Value.slice (some ⟨q, 0, none⟩) 3 3) (fun u w' => ∃ q l2, u = Value.slice (some ⟨q, 0, none⟩) 3 3 ∧ Blk w' q 24 #[.int .i64 N0, .slice A0 l0.length c0, .int .i64 (n : Int), .slice AL l.length cl, .int .i64 N2, .slice A2 l2.length c2] ∧ l2.length ≤ 100000 ∧ RP w' A2 l2) (by rfl) (by rfl) ⟨_, 0, rfl⟩ (fun w1 hS1 hJ1 => ?_) ?_
  · obtain ⟨N2', l2, A2', c2', he, hl2, hr2⟩ := hJ1
    simp only [Value.agg.injEq, Array.mk.injEq, List.cons.injEq, Value.int.injEq, Value.slice.injEq, true_and, and_true] at he
    obtain ⟨rfl, rfl, rfl, rfl⟩ := he
    exact ⟨.slice (some ⟨w1.heap.size, 0, none⟩) 3 3, w1.alloc (.cells #[.int .i64 N0, .slice A0 l0.length c0, .int .i64 (n : Int), .slice AL l.length cl, .int .i64 N2, .slice A2 l2.length c2] 24), by go_simp, ⟨hS1.1.below (newB _ _), Nat.le_trans hS1.2 (newB _ _).size⟩, ⟨_, rfl⟩, w1.heap.size, l2, rfl, Blk.new _ _ _, hl2, hr2.below (newB _ _)⟩
  rintro v44 ⟨q40, rfl⟩
  simp only [Act.put, List.setIfInBounds_toArray, List.set_cons_zero, List.set_cons_succ]
  repeat (first
    | (refine TxtBL.skip (by rfl) ?_; simp only [Act.put, List.setIfInBounds_toArray, List.set_cons_zero, List.set_cons_succ])
    | (refine TxtBL.take (by rfl) (by rfl) ?_; apply Exists.intro; refine ⟨fun w1 hS1 => ?_, ?_⟩; (focus (skip; go_simp; with_reducible rfl)); simp only [Act.put, List.setIfInBounds_toArray, List.set_cons_zero, List.set_cons_succ])
    | (refine TxtBL.takeE (by rfl) (by rfl) ?_; apply Exists.intro; refine ⟨fun w1 hS1 => ?_, ?_⟩; (focus (skip; go_simp; with_reducible rfl)); simp only [Act.put, List.setIfInBounds_toArray, List.set_cons_zero, List.set_cons_succ]))
  refine TxtBL.nil (fun W2 hS hJ => ?_)
  obtain ⟨hst2, hW12⟩ := hS
  obtain ⟨q, l2, hq, hblk, hl2, hr2⟩ := hJ
  injection hq with hq
  injection hq with hq
  injection hq with hq _ _
  subst hq
  have hbw2 : Below wc.heap.size wc W2 := hst2.hb
  have hr02 := hrR.below hbw2
  have hr12 := hr1W.below hbw2
  have hrl2 := hst2.rp
  have hsrc2 := hst2.src
  have hblt := hblk.lt
  have Hblk := Lib.hid hblk
  have hTW := hT0.below hbw2
  clear hst hst2 hblk
  go_wp2_with fail
  go_loopw [51] (fun j wr => ∃ k : Nat, k ≤ 3 ∧ j = .int .i64 k ∧ Below W2.heap.size W2 wr) (fun j _ => 3 - (intOf j).toNat)
  case atStart => exact ⟨0, by omega, rfl, Below.refl _ _⟩
  case round =>
    obtain ⟨k, hk, rfl, hbl⟩ := hrel
    have hbw := endB hbw2 hbl
    by_cases hk3 : k < 3
    case neg =>
      have hsrcr := hsrc2.kept hbl
      have hr1r := hr12.below hbl
      have hTr := hTW.below hbl
      clear hrl2 hr02 hr2 Hblk hrR hr12 hTW hbl b0 b1
      go_wp2_with fail
      refine (n_any p 5 wr hsrcr (by omega) (by omega)).mono ?_
      rintro e w3 ⟨m', rfl, hm0, hm5, hs3, hg3⟩
      obtain ⟨m, rfl⟩ : ∃ n : Nat, m' = n := ⟨m'.toNat, by omega⟩
      have hpr := hsrcr.lt
      have hp3 := hs3.lt
      have hbw3 := hbw.trans (below_of_grownBy hg3 hp hbw.size)
      have hbr3 : Near p wr.heap.size wr w3 := Near.of_grown hg3 (Nat.le_refl _)
      clear hsrcr
      go_wp2_with fail
      refine (labels_any p m w3 hs3 (by omega)).mono ?_
      rintro e w4 ⟨x4, v4, rfl, ho4, hlab4, hs4, hg4⟩
      have hbw4 := hbw3.trans (below_of_grownBy hg4 hp hbw3.size)
      have hp4 := hs4.lt
      have hx4 : x4.length ≤ 40 := by have := (labB_iff.1 hlab4).1; omega
      clear hs3 hlab4
      go_wp2_with fail
      refine (labels_any p m w4 hs4 (by omega)).mono ?_
      rintro e w5 ⟨x5, v5, rfl, ho5, hlab5, hs5, hg5⟩
      have hbw5 := hbw4.trans (below_of_grownBy hg5 hp hbw4.size)
      have hp5 := hs5.lt
      have hx5 : x5.length ≤ 40 := by have := (labB_iff.1 hlab5).1; omega
      have ho4 : OwnI w5 w3.heap.size v4 x4 := ownsRow_far ho4 hg5 hp3
      clear hs4 hlab5
      go_wp2_with fail
      refine (labels_any p m w5 hs5 (by omega)).mono ?_
      rintro e w6 ⟨x6, v6, rfl, ho6, hlab6, hs6, hg6⟩
      have hbw6 := hbw5.trans (below_of_grownBy hg6 hp hbw5.size)
      have hx6 : x6.length ≤ 40 := by have := (labB_iff.1 hlab6).1; omega
      have ho4 : OwnI w6 w3.heap.size v4 x4 := ownsRow_far ho4 hg6 hp3
      have ho5 : OwnI w6 w4.heap.size v5 x5 := ownsRow_far ho5 hg6 hp4
      have hRS6 : RS w6 A1 L1 := hr1W.below hbw6
      have hT6 : Tab w6 := hT0.below hbw6
      obtain ⟨B4, d4, rfl, hri4, _⟩ := ho4.form
      obtain ⟨B5, d5, rfl, hri5, _⟩ := ho5.form
      obtain ⟨B6, d6, rfl, hri6, _⟩ := ho6.form
      clear hs5 hs6 hlab6 ho4 ho5 ho6 hg3 hg4 hg5 hg6 hbw3 hbw4 hbw5 hr1r hTr hbr3
      go_wp2_with fail
      obtain ⟨W7, hW, hrs7, hb7⟩ := lit3l w6 (c1 := d4) (c2 := d5) (c3 := d6) hri4 hri5 hri6
      rw [hW]
      clear hW hri4 hri5 hri6
      have hbw7 := endB hbw6 hb7
      have hRS7 := hRS6.below hb7
      have hT7 := hT6.below hb7
      have hCs : (commonL L1).length ≤ 1000 := common_small (fun y hy => by have := Hsm2.out y hy; omega)
      have hDs : (commonL [x4, x5, x6]).length ≤ 1000 := common_small (fun y hy => by
        simp only [List.mem_cons, List.not_mem_nil, or_false] at hy
        rcases hy with rfl | rfl | rfl <;> omega)
      have hc1 := fun W h => xCommon_any A1 L1 c1 W (hRS7.below h) (by omega) (fun y hy => by have := Hsm2.out y hy; omega)
      have hc2 := fun W h => r16Common_any A1 L1 c1 W (hRS7.below h) (by omega) (fun y hy => by have := Hsm2.out y hy; omega)
      have hsome : ∀ y ∈ [x4, x5, x6], y.length ≤ 1000 := fun y hy => by
        simp only [List.mem_cons, List.not_mem_nil, or_false] at hy
        rcases hy with rfl | rfl | rfl <;> omega
      have hd1 := fun W h => xCommon_any (some ⟨w6.heap.size, 0, none⟩) [x4, x5, x6] 3 W (hrs7.below h) (by simp) hsome
      have hd2 := fun W h => r16Common_any (some ⟨w6.heap.size, 0, none⟩) [x4, x5, x6] 3 W (hrs7.below h) (by simp) hsome
      have he1 := fun W => xCommon_any none [] 0 W (fun k hk => absurd hk (by simp)) (by decide) (by simp)
      obtain ⟨CL, hCL⟩ : ∃ q, commonL L1 = q := ⟨_, rfl⟩
      obtain ⟨DL, hDL⟩ : ∃ q, commonL [x4, x5, x6] = q := ⟨_, rfl⟩
      rw [hCL] at hc1 hc2 hCs; rw [hDL] at hd1 hd2 hDs
      rw [show commonL [] = [] from rfl] at he1
      have hc1' : ∀ W, Below W7.heap.size W7 W → Calls Tryz.prog 15 #[.slice A1 L1.length c1] W (RetI CL W) := hc1
      have hc2' : ∀ W, Below W7.heap.size W7 W → Calls Tryz.prog 16 #[.slice A1 L1.length c1] W (RetI CL W) := hc2
      have hd1' : ∀ W, Below W7.heap.size W7 W → Calls Tryz.prog 15 #[.slice (some ⟨w6.heap.size, 0, none⟩) 3 3] W (RetI DL W) := hd1
      have hd2' : ∀ W, Below W7.heap.size W7 W → Calls Tryz.prog 16 #[.slice (some ⟨w6.heap.size, 0, none⟩) 3 3] W (RetI DL W) := hd2
      have he1' : ∀ W, Calls Tryz.prog 15 #[.slice none 0 0] W (RetI [] W) := he1
      have H1 := Lib.hid hc1'; have H2 := Lib.hid hc2'; have H3 := Lib.hid hd1'; have H4 := Lib.hid hd2'; have H5 := Lib.hid he1'
      clear hc1 hc2 hd1 hd2 he1 hc1' hc2' hd1' hd2' he1' hCL hDL hsome Hsm2 hRS6 hT6 hrs7 hRS7 hb7
      have hbz := Below.refl W7.heap.size W7
      go_wp2_with fail
      refine (H1.out W7 hbz).mono ?_
      rintro e w8 ⟨B8, k8, rfl, _, hr8, _, hb8⟩
      have Hr8 := Lib.hid hr8
      clear hr8
      go_wp2_with fail
      refine (H2.out w8 hb8).mono ?_
      rintro e w9 ⟨B9, k9, rfl, _, hr9, _, hb9⟩
      have hz9 := endB hb8 hb9
      have hq := ints_any B8 B9 CL CL k8 k9 w9 (by omega) (by omega) (Hr8.out.below hb9) hr9
      rw [(eqB_iff _ _).2 rfl] at hq
      have Hq := Lib.hid (hq.mono fun _ _ h => h.below)
      clear hq hr9 Hr8 hb8 hb9 H1 H2
      go_wp2_with fail
      refine Hq.out.mono ?_
      rintro e w10 ⟨rfl, hb10⟩
      have hz10 := endB hz9 hb10
      clear Hq hb10 hz9
      go_wp2_with fail
      refine (H3.out w10 hz10).mono ?_
      rintro e w11 ⟨B11, k11, rfl, _, hr11, _, hb11⟩
      have hz11 := endB hz10 hb11
      have Hr11 := Lib.hid hr11
      clear hr11 hb11 hz10
      go_wp2_with fail
      refine (H4.out w11 hz11).mono ?_
      rintro e w12 ⟨B12, k12, rfl, _, hr12', _, hb12⟩
      have hz12 := endB hz11 hb12
      have hq := ints_any B11 B12 DL DL k11 k12 w12 (by omega) (by omega) (Hr11.out.below hb12) hr12'
      rw [(eqB_iff _ _).2 rfl] at hq
      have Hq := Lib.hid (hq.mono fun _ _ h => h.below)
      clear hq hr12' Hr11 hb12 hz11 H3 H4
      go_wp2_with fail
      refine Hq.out.mono ?_
      rintro e w13 ⟨rfl, hb13⟩
      have hz13 := endB hz12 hb13
      clear Hq hb13 hz12
      go_wp2_with fail
      refine (H5.out w13).mono ?_
      rintro e w14 ⟨B14, k14, rfl, _, _, _, hb14⟩
      have hz14 := endB hz13 hb14
      clear hb14 H5
      go_wp2_with fail
      refine (awake16_any w14 (hT7.below hz14)).mono ?_
      rintro e w15 ⟨rfl, hb15⟩
      go_wp2_with fail
      go_ret
      exact ⟨rfl, endB hb0 (endB hbw7 (endB hz14 hb15))⟩
    case pos =>
    have hk3' : (k : Int) < 3 := by omega
    have hk0' : (0 : Int) ≤ (k : Int) := by omega
    obtain ⟨N', l', A', c', e0, e1, hrp', hl3⟩ : ∃ (N' : Int) (l' : List (Int × Int)) (A' : Option Addr) (c' : Nat), wr.cell? ⟨q40, k * 2, none⟩ = some (.int .i64 N') ∧ wr.cell? ⟨q40, k * 2 + 1, none⟩ = some (.slice A' l'.length c') ∧ RP wr A' l' ∧ l'.length ≤ 100000 := by
      have hb := Hblk.out.below hbl hblt
      have : k = 0 ∨ k = 1 ∨ k = 2 := by omega
      rcases this with h | h | h <;> subst h
      · exact ⟨N0, l0, A0, c0, by rw [hb.cell]; rfl, by rw [hb.cell]; rfl, hr02.below hbl, hl60⟩
      · exact ⟨n, l, AL, cl, by rw [hb.cell]; rfl, by rw [hb.cell]; rfl, hrl2.below hbl, hlen⟩
      · exact ⟨N2, l2, A2, c2, by rw [hb.cell]; rfl, by rw [hb.cell]; rfl, hr2.below hbl, hl2⟩
    obtain ⟨W3, hW3, f0, f1, hb3, hlt3⟩ := boxed wr 24 (.int .i64 N') (.slice A' l'.length c')
    have hbk3 := endB hbl hb3
    have hrp3 := hrp'.below hb3
    have hT3 := hTW.below hbk3
    go_upto_region 8 with fail
    clear hW3 e0 e1 hrp'
    have hbw0 := Below.refl W3.heap.size W3
    have hca := fun W h => xIdeal_any A' N' l' c' W (hrp3.below h) hl3 (hT3.below h)
    have hcb := fun W h => r16Ideal_any A' N' l' c' W (hrp3.below h) hl3 (hT3.below h)
    have hcc := fun W h => xEager_any A' N' l' c' W (hrp3.below h) hl3 (hT3.below h)
    have hcd := fun W h => r16Eager_any A' N' l' c' W (hrp3.below h) hl3 (hT3.below h)
    have hi1 := coreR_small prefP N' l' hl3; have hi2 := coreR_small semiP N' l' hl3
    obtain ⟨PR, hPR⟩ : ∃ r, coreR prefP N' l' = r := ⟨_, rfl⟩
    obtain ⟨MR, hMR⟩ : ∃ r, coreR semiP N' l' = r := ⟨_, rfl⟩
    rw [hPR] at hca hcb hi1; rw [hMR] at hcc hcd hi2
    obtain ⟨PL, pe⟩ := PR
    obtain ⟨ML, me⟩ := MR
    have hca' : ∀ W, Below W3.heap.size W3 W → Calls Tryz.prog 8 #[.agg #[.int .i64 N', .slice A' l'.length c']] W (RetE PL pe W) := hca
    have hcb' : ∀ W, Below W3.heap.size W3 W → Calls Tryz.prog 9 #[.agg #[.int .i64 N', .slice A' l'.length c']] W (RetE PL pe W) := hcb
    have hcc' : ∀ W, Below W3.heap.size W3 W → Calls Tryz.prog 10 #[.agg #[.int .i64 N', .slice A' l'.length c']] W (RetE ML me W) := hcc
    have hcd' : ∀ W, Below W3.heap.size W3 W → Calls Tryz.prog 11 #[.agg #[.int .i64 N', .slice A' l'.length c']] W (RetE ML me W) := hcd
    have hi1' : PL.length ≤ 1000 := hi1; have hi2' : ML.length ≤ 1000 := hi2
    have Hca := Lib.hid hca'; have Hcb := Lib.hid hcb'; have Hcc := Lib.hid hcc'; have Hcd := Lib.hid hcd'
    clear hca hcb hcc hcd hca' hcb' hcc' hcd' hPR hMR hi1 hi2
    go_wp2_with fail
    refine (Hca.out W3 hbw0).mono ?_
    rintro e w4 ⟨B4, k4, rfl, _, hr4, _, hb4⟩
    have f2 := (hb4.cell (lt_of_cell f0)).trans f0
    have f3 := (hb4.cell (lt_of_cell f1)).trans f1
    have Hr4 := Lib.hid hr4
    clear hr4 Hca f0 f1
    go_wp2_with fail
    refine (Hcb.out w4 hb4).mono ?_
    rintro e w5 ⟨B5, k5, rfl, _, hr5, _, hb5⟩
    have hz5 := endB hb4 hb5
    have f4 := (hb5.cell (lt_of_cell f2)).trans f2
    have f5 := (hb5.cell (lt_of_cell f3)).trans f3
    have hq1 := fun W (h : Below w5.heap.size w5 W) => (ints_any B4 B5 PL PL k4 k5 W (by omega) (by omega) ((Hr4.out.below hb5).below h) (hr5.below h)).mono fun _ _ h => h.below
    rw [(eqB_iff _ _).2 rfl] at hq1
    have Hq1 := Lib.hid hq1
    clear hq1 hr5 Hr4 Hcb f2 f3 hb5
    go_wp2_with fail
    refine (Hcc.out w5 hz5).mono ?_
    rintro e w6 ⟨B6, k6, rfl, _, hr6, _, hb6⟩
    have hz6 := endB hz5 hb6
    have f6 := (hb6.cell (lt_of_cell f4)).trans f4
    have f7 := (hb6.cell (lt_of_cell f5)).trans f5
    have Hr6 := Lib.hid hr6
    clear hr6 Hcc f4 f5
    go_wp2_with fail
    refine (Hcd.out w6 hz6).mono ?_
    rintro e w7 ⟨B7, k7, rfl, _, hr7, _, hb7⟩
    have hz7 := endB hz6 hb7
    have h57 := endB hb6 hb7
    have hq2 := fun W (h : Below w7.heap.size w7 W) => (ints_any B6 B7 ML ML k6 k7 W (by omega) (by omega) ((Hr6.out.below hb7).below h) (hr7.below h)).mono fun _ _ h => h.below
    rw [(eqB_iff _ _).2 rfl] at hq2
    have Hq2 := Lib.hid hq2
    clear hq2 hr7 Hr6 Hcd f6 f7 hb6 hb7 hb4 hz5 hz6
    go_wp2_with fail
    refine (Hq1.out w7 h57).mono ?_
    rintro e w8 ⟨rfl, hb8⟩
    go_wp2_with fail
    refine (Hq2.out w8 hb8).mono ?_
    rintro e w9 ⟨rfl, hb9⟩
    go_wp2_with fail
    go_roundw
    case rel => exact ⟨k + 1, by omega, by go_num, endB hbk3 (endB hz7 (endB hb8 hb9))⟩
    case measure => simp [intOf]; omega
end Go.Proofs.YtcpombepajapjaaGreatDoor
