/- law16: the walk of CoreOrder. -/
import Derived.Test.YtcpombepajapjaaDoorAw16
import Derived.Test.YtcpombepajapjaaDoorGk
import Derived.Test.YtcpombepajapjaaDoorLc
namespace Go.Proofs.YtcpombepajapjaaDoor
open Go.ChangeShapes Go.WideShapes Go.ChangeAt Go.RowKit

theorem core_ne {n : Nat} {l : List (Int × Int)} (hv : InR n l) : keptL prefP (compL n l) ≠ [] ∧ keptL semiP (compL n l) ≠ [] :=
  ⟨List.ne_nil_of_length_pos (pref_some hv), List.ne_nil_of_length_pos (semi_some hv)⟩
theorem core_lenO (n : Nat) (l : List (Int × Int)) (L : List (List Int)) : (coreL n l L).length = n := (labB_iff.1 (fromL_lab n l _)).1

set_option maxRecDepth 100000 in
set_option maxHeartbeats 8000000 in
theorem orc_law_any (A : Option Addr) (arg : List Int) (c : Nat) (w : World)
    (hlc : arg.length ≤ c) (hc : c ≤ 9223372036854775807) (hr : RI w A arg) (hx : ∀ x ∈ arg, -9223372036854775808 ≤ x ∧ x ≤ 9223372036854775807) (hT : Tab w) :
    Calls Tryd.prog 8 #[.slice A arg.length c] w (RetB (.bool true) w) := by
  go_enter Tryd.func8, Tryd.ntmps8
  go_wp2_with fail
  refine (new_any A arg c w hlc hc hr hx).mono ?_
  rintro e w1 ⟨p, rfl, hp, hs1, hb1⟩
  have hp1 := hs1.lt
  clear hr hx
  go_wp2_with fail
  refine (graph_any p 9 w1 hs1 (by omega)).mono ?_
  rintro e w2 ⟨n, l, AL, cl, rfl, hN, hv, hrp, hloc, hs2, hg2⟩
  have hb2 : Below w.heap.size w w2 := hb1.trans (below_of_grownBy hg2 hp hb1.size)
  clear hs1 hb1 hg2
  go_wp2_with fail
  obtain ⟨W0, hW, c0, c1, hb0, hlt0⟩ := boxed w2 28 (.int .i64 n) (.slice AL l.length cl)
  rw [hW]
  clear hW
  have hB0 := endB hb2 hb0
  have hrp := hrp.below hb0
  have hlen := hv.1.2.1
  have HV := Lib.hid hv
  have hve := hv.valE
  have hT0 := hT.below hB0
  clear hs2 hb0 hb2 hp1 hv hloc hT
  generalize w2.heap.size = G at *
  obtain ⟨IR, hIR⟩ : ∃ r, coreR prefP n l = r := ⟨_, rfl⟩
  obtain ⟨ER, hER⟩ : ∃ r, coreR semiP n l = r := ⟨_, rfl⟩
  obtain ⟨MR, hMR⟩ : ∃ r, bestR semiP n l = r := ⟨_, rfl⟩
  have HIR := Lib.hid hIR; have HER := Lib.hid hER; have HMR := Lib.hid hMR; have Hve := Lib.hid hve
  clear hIR hER hMR hve
  have hc := xIdeal_any AL n l cl W0 hrp hlen hT0
  rw [HIR.out] at hc
  have Hc := Lib.hid hc
  clear hc
  go_wp2_with fail
  refine Hc.out.mono ?_
  rintro e w3 ⟨AI, ci, rfl, _, hri, _, hb⟩
  have hB1 := endB hB0 hb
  have HI := Lib.hid hri
  have f0 := (hb.cell (lt_of_cell c0)).trans c0
  have f1 := (hb.cell (lt_of_cell c1)).trans c1
  have hrp1 := hrp.below hb
  have hT1 := hT0.below hb
  clear Hc hri hb c0 c1 hrp hT0
  have hc := xEager_any AL n l cl w3 hrp1 hlen hT1
  rw [HER.out] at hc
  have Hc := Lib.hid hc
  clear hc
  go_wp2_with fail
  refine Hc.out.mono ?_
  rintro e w4 ⟨AE, ce, rfl, _, hri, _, hb⟩
  have hB2 := endB hB1 hb
  have HE := Lib.hid hri
  have HI2 := Lib.hid (HI.out.below hb)
  have g0 := (hb.cell (lt_of_cell f0)).trans f0
  have g1 := (hb.cell (lt_of_cell f1)).trans f1
  have hrp2 := hrp1.below hb
  have hT2 := hT1.below hb
  clear Hc hri hb f0 f1 hrp1 hT1 HI
  have hc := xSemiStable_any AL n l cl w4 hrp2 hlen hT2
  rw [HMR.out] at hc
  have Hc := Lib.hid hc
  clear hc
  go_wp2_with fail
  refine Hc.out.mono ?_
  rintro e w5 ⟨AM, cm, rfl, hrs, _, _, hb⟩
  have hB3 := endB hB2 hb
  have HM := Lib.hid hrs.rs
  have HI3 := Lib.hid (HI2.out.below hb)
  have HE3 := Lib.hid (HE.out.below hb)
  have f0 := (hb.cell (lt_of_cell g0)).trans g0
  have f1 := (hb.cell (lt_of_cell g1)).trans g1
  have hrp3 := hrp2.below hb
  have hT3 := hT2.below hb
  clear Hc hrs hb g0 g1 hrp2 hT2 HI2 HE
  have hI := HIR.out; have hE := HER.out; have hM := HMR.out
  clear HIR HER HMR
  rw [bestR_ok Hve.out] at hM
  rw [coreR_ok HV.out] at hI hE
  by_cases hlim : 200 < (compL n l).length
  case pos =>
    rw [if_pos hlim] at hI hE hM
    subst hI hE hM
    clear hlim HI3 HE3 HM
    go_wp2_with fail
    refine (awake16_any w5 hT3).mono ?_
    rintro e w6 ⟨rfl, hb6⟩
    go_wp2_with fail
    go_ret
    exact ⟨rfl, endB hB3 hb6⟩
  case neg =>
  rw [if_neg hlim] at hI hE hM
  subst hI hE hM
  obtain ⟨hPne, hMne⟩ := core_ne HV.out.1
  have hMpos := semi_some HV.out.1
  have hMl : (keptL semiP (compL n l)).length ≤ 200 := Nat.le_trans kept_len (by omega)
  have hn9 : n ≤ 9 := by omega
  have hMx : ∀ x ∈ keptL semiP (compL n l), x.length ≤ 9 := fun x hx => by rw [comp_len (mem_kept.1 hx).1]; exact hn9
  have hIl := core_lenO n l (keptL prefP (compL n l))
  have hEl := core_lenO n l (keptL semiP (compL n l))
  have hIc := core_com HV.out.1 kept_com hPne
  have hEc := core_com HV.out.1 kept_com hMne
  have hgI := gr_less HV.out.1 hIc
  have hIE := core_core HV.out.1 kept_com hPne (fun y hy => semi_pref HV.out.1 hy) hMne
  have hEM : ∀ x ∈ keptL semiP (compL n l), lessB (coreL n l (keptL semiP (compL n l))) x = true := fun x hx => core_less HV.out.1 kept_com hx
  clear hlim Hve hPne hMne
  generalize coreL n l (keptL prefP (compL n l)) = I at *
  generalize coreL n l (keptL semiP (compL n l)) = E at *
  generalize keptL semiP (compL n l) = ML at *
  have hIl' : I.length ≤ 9 := by omega
  have hEl' : E.length ≤ 9 := by omega
  have Hgr := fun W (h1 : RP W AL l) (h2 : Tab W) => gLabel_any AL n l cl W h1 HV.out h2
  have hgl : (lst n (grL n l)).length ≤ 9 := by rw [lst_length]; exact hn9
  generalize lst n (grL n l) = GL at *
  have hIC : ∀ W, Below w5.heap.size w5 W → Calls Tryd.prog 33 #[.agg #[.int .i64 (n : Int), .slice AL l.length cl], .slice AI I.length ci] W (RetB (.bool true) W) := fun W h => by
    have H := lIsComplete_any AL n l cl AI I ci W (hrp3.below h) HV.out (HI3.out.below h) (by omega) (hT3.below h)
    rwa [hIc] at H
  have hEC : ∀ W, Below w5.heap.size w5 W → Calls Tryd.prog 33 #[.agg #[.int .i64 (n : Int), .slice AL l.length cl], .slice AE E.length ce] W (RetB (.bool true) W) := fun W h => by
    have H := lIsComplete_any AL n l cl AE E ce W (hrp3.below h) HV.out (HE3.out.below h) (by omega) (hT3.below h)
    rwa [hEc] at H
  have hGI : ∀ A c W, RI W A GL → Below w5.heap.size w5 W → Calls Tryd.prog 32 #[.slice A GL.length c, .slice AI I.length ci] W (Ret (.bool true) W) := fun A c W h1 h => by
    have H := lLess_any A AI GL I c ci W h1 (HI3.out.below h) (by omega) (by omega)
    rwa [hgI] at H
  have hIE2 : ∀ W, Below w5.heap.size w5 W → Calls Tryd.prog 32 #[.slice AI I.length ci, .slice AE E.length ce] W (Ret (.bool true) W) := fun W h => by
    have H := lLess_any AI AE I E ci ce W (HI3.out.below h) (HE3.out.below h) (by omega) (by omega)
    rwa [hIE] at H
  have HIC := Lib.hid hIC; have HEC := Lib.hid hEC; have HGI := Lib.hid hGI; have HIE := Lib.hid hIE2; have HGr := Lib.hid Hgr; have HEM := Lib.hid hEM; have HMx := Lib.hid hMx
  clear hIC hEC hGI hIE2 hIE hgI hIc hEc hEM hMx Hgr HV HI3 hIl hEl hN hn9
  have hM0 : ((ML.length : Int) == 0) = false := by rw [beq_eq_false_iff_ne]; omega
  go_wp2_with fail
  go_loopw [60] (fun j wr => ∃ k : Nat, k ≤ ML.length ∧ j = .int .i64 k ∧ Below w5.heap.size w5 wr) (fun j _ => ML.length - (intOf j).toNat)
  case atStart => exact ⟨0, by omega, rfl, Below.refl _ _⟩
  case round =>
    obtain ⟨k, hk, rfl, hbl⟩ := hrel
    have g0 := (hbl.cell (lt_of_cell f0)).trans f0
    have g1 := (hbl.cell (lt_of_cell f1)).trans f1
    by_cases hkl : k < ML.length
    case pos =>
      have hkl' : (k : Int) < (ML.length : Int) := by omega
      obtain ⟨b, o, A', c', hA, hcell, hri⟩ := (HM.out.below hbl).at_ hkl
      subst hA
      have hmem := List.getElem_mem hkl
      obtain ⟨x, hx⟩ : ∃ x, ML[k] = x := ⟨_, rfl⟩
      rw [hx] at hcell hri hmem
      have hxl := HMx.out x hmem
      have hq := lLess_any AE A' E x ce c' wr (HE3.out.below hbl) hri (by omega) (by omega)
      rw [HEM.out x hmem] at hq
      have Hq := Lib.hid hq
      clear hq hx
      go_wp2_with fail
      refine Hq.out.mono ?_
      rintro e w6 ⟨rfl, rfl⟩
      go_wp2_with fail
      go_roundw
      case rel => exact ⟨k + 1, by omega, by go_num, hbl⟩
      case measure => simp [intOf]; omega
    case neg =>
    obtain rfl : k = ML.length := by omega
    have hBr := endB hB3 hbl
    clear HM HEM HMx HE3
    go_wp2_with fail
    refine (HIC.out wr hbl).mono ?_
    rintro e w6 ⟨rfl, hb6⟩
    have hbl6 := endB hbl hb6
    have h0 := (hb6.cell (lt_of_cell g0)).trans g0
    have h1 := (hb6.cell (lt_of_cell g1)).trans g1
    go_wp2_with fail
    refine (HEC.out w6 hbl6).mono ?_
    rintro e w7 ⟨rfl, hb7⟩
    have hbl7 := endB hbl6 hb7
    have i0 := (hb7.cell (lt_of_cell h0)).trans h0
    have i1 := (hb7.cell (lt_of_cell h1)).trans h1
    clear h0 h1 g0 g1
    go_wp2_with fail
    refine (HGr.out w7 (hrp3.below hbl7) (hT3.below hbl7)).mono ?_
    rintro e w8 ⟨A8, c8, rfl, _, hr8, _, hb8⟩
    have hbl8 := endB hbl7 hb8
    have Hq := Lib.hid (HGI.out A8 c8 w8 hr8 hbl8)
    clear hr8
    go_wp2_with fail
    refine Hq.out.mono ?_
    rintro e w9 ⟨rfl, rfl⟩
    go_wp2_with fail
    refine (HIE.out w8 hbl8).mono ?_
    rintro e w9 ⟨rfl, rfl⟩
    go_wp2_with fail
    refine (awake16_any w8 (hT3.below hbl8)).mono ?_
    rintro e w9 ⟨rfl, hb9⟩
    go_wp2_with fail
    go_ret
    exact ⟨rfl, endB hB3 (endB hbl8 hb9)⟩
end Go.Proofs.YtcpombepajapjaaDoor
