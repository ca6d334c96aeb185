/- law15: the walk of ExtensionNested. -/
import Derived.Test.YtajocnhebfpjaaaDoorPl15
import Derived.Test.YtajocnhebfpjaaaDoorHas15
namespace Go.Proofs.YtajocnhebfpjaaaDoor
open Go.ChangeShapes Go.WideShapes Go.ChangeAt Go.RowKit

theorem bestR_ok {p : List Int → List Int → Bool} {n : Nat} {l : List (Int × Int)} (hv : valE n l = 0) : bestR p n l = if 200 < (compL n l).length then ([], 2) else (keptL p (compL n l), 0) := by
  unfold bestR
  rw [compR_ok hv]
  split <;> simp
theorem kept_len {p : List Int → List Int → Bool} {L : List (List Int)} : (keptL p L).length ≤ L.length := List.length_filter_le _ _
theorem has_self {L : List (List Int)} {x : List Int} (h : x ∈ L) : L.any (hasP x (withL x 1)) = true := by
  refine List.any_eq_true.2 ⟨x, h, ?_⟩
  unfold hasP
  rw [(eqB_iff _ _).2 rfl, (eqB_iff _ _).2 rfl]; rfl

set_option maxRecDepth 100000 in
set_option maxHeartbeats 8000000 in
theorem nes_law_any (A : Option Addr) (arg : List Int) (c : Nat) (w : World)
    (hlc : arg.length ≤ c) (hc : c ≤ 9223372036854775807) (hr : RI w A arg) (hx : ∀ x ∈ arg, -9223372036854775808 ≤ x ∧ x ≤ 9223372036854775807) (hT : Tab w) :
    Calls Tryd.prog 11 #[.slice A arg.length c] w (RetB (.bool true) w) := by
  go_enter Tryd.func11, Tryd.ntmps11
  go_wp2_with fail
  refine (new_any A arg c w hlc hc hr hx).mono ?_
  rintro e w1 ⟨p, rfl, hp, hs1, hb1⟩
  have hp1 := hs1.lt
  clear hr hx
  go_wp2_with fail
  refine (graph_any p 9 w1 hs1 (by omega)).mono ?_
  rintro e w2 ⟨n, l, AL, cl, rfl, hN, hv, hrp, hloc, hs2, hg2⟩
  have hb2 : Below w.heap.size w w2 := hb1.trans (below_of_grownBy hg2 hp hb1.size)
  clear hs1 hb1 hg2
  go_wp2_with fail
  obtain ⟨W0, hW, c0, c1, hb0, hlt0⟩ := boxed w2 24 (.int .i64 n) (.slice AL l.length cl)
  rw [hW]
  clear hW
  have hB0 := endB hb2 hb0
  have hrp := hrp.below hb0
  have hlen := hv.1.2.1
  have HV := Lib.hid hv
  have hve := hv.valE
  have hT0 := hT.below hB0
  clear hs2 hb0 hb2 hp1 hv hloc hT
  generalize w2.heap.size = G at *
  obtain ⟨PR, hPR⟩ : ∃ r, bestR prefP n l = r := ⟨_, rfl⟩
  obtain ⟨SR, hSR⟩ : ∃ r, bestR stabP n l = r := ⟨_, rfl⟩
  obtain ⟨MR, hMR⟩ : ∃ r, bestR semiP n l = r := ⟨_, rfl⟩
  have HPR := Lib.hid hPR; have HSR := Lib.hid hSR; have HMR := Lib.hid hMR; have Hve := Lib.hid hve
  clear hPR hSR hMR hve
  have hc := xPreferred_any AL n l cl W0 hrp hlen hT0
  rw [HPR.out] at hc
  have Hc := Lib.hid hc
  clear hc
  go_wp2_with fail
  refine Hc.out.mono ?_
  rintro e w3 ⟨AP, cp, rfl, hrs, _, _, hb⟩
  have hB1 := endB hB0 hb
  have HP := Lib.hid hrs.rs
  have f0 := (hb.cell (lt_of_cell c0)).trans c0
  have f1 := (hb.cell (lt_of_cell c1)).trans c1
  have hrp1 := hrp.below hb
  have hT1 := hT0.below hb
  clear Hc hrs hb c0 c1 hrp hT0
  have hc := xStable_any AL n l cl w3 hrp1 hlen hT1
  rw [HSR.out] at hc
  have Hc := Lib.hid hc
  clear hc
  go_wp2_with fail
  refine Hc.out.mono ?_
  rintro e w4 ⟨AS, cs, rfl, hrs, _, _, hb⟩
  have hB2 := endB hB1 hb
  have HS := Lib.hid hrs.rs
  have HP2 := Lib.hid (HP.out.below hb)
  have g0 := (hb.cell (lt_of_cell f0)).trans f0
  have g1 := (hb.cell (lt_of_cell f1)).trans f1
  have hrp2 := hrp1.below hb
  have hT2 := hT1.below hb
  clear Hc hrs hb f0 f1 hrp1 hT1 HP
  have hc := xSemiStable_any AL n l cl w4 hrp2 hlen hT2
  rw [HMR.out] at hc
  have Hc := Lib.hid hc
  clear hc
  go_wp2_with fail
  refine Hc.out.mono ?_
  rintro e w5 ⟨AM, cm, rfl, hrs, _, _, hb⟩
  have hB3 := endB hB2 hb
  have HM := Lib.hid hrs.rs
  have HP3 := Lib.hid (HP2.out.below hb)
  have HS3 := Lib.hid (HS.out.below hb)
  have hT3 := hT2.below hb
  clear Hc hrs hb g0 g1 hrp2 hT2 HP2 HS
  have hP := HPR.out; have hS := HSR.out; have hM := HMR.out
  clear HPR HSR HMR
  rw [bestR_ok Hve.out] at hP hS hM
  by_cases hlim : 200 < (compL n l).length
  case pos =>
    rw [if_pos hlim] at hP hS hM
    subst hP hS hM
    clear hlim HP3 HS3 HM
    go_wp2_with fail
    refine (awake15_any w5 hT3).mono ?_
    rintro e w6 ⟨rfl, hb6⟩
    go_wp2_with fail
    go_ret
    exact ⟨rfl, endB hB3 hb6⟩
  case neg =>
  rw [if_neg hlim] at hP hS hM
  subst hP hS hM
  have hPm : ∀ x ∈ keptL semiP (compL n l), (keptL prefP (compL n l)).any (hasP x (withL x 1)) = true := fun x hx => has_self (semi_pref HV.out.1 hx)
  have hSm : ∀ x ∈ keptL stabP (compL n l), (keptL semiP (compL n l)).any (hasP x (withL x 1)) = true := fun x hx => has_self (stab_semi hx)
  have hM0 := semi_some HV.out.1
  have hSM := stab_is_semi (n := n) (l := l)
  have hPl : (keptL prefP (compL n l)).length ≤ 200 := Nat.le_trans kept_len (by omega)
  have hSl : (keptL stabP (compL n l)).length ≤ 200 := Nat.le_trans kept_len (by omega)
  have hMl : (keptL semiP (compL n l)).length ≤ 200 := Nat.le_trans kept_len (by omega)
  have hn9 : n ≤ 9 := by omega
  have hPx : ∀ x ∈ keptL prefP (compL n l), x.length ≤ 9 := fun x hx => by rw [comp_len (mem_kept.1 hx).1]; exact hn9
  have hSx : ∀ x ∈ keptL stabP (compL n l), x.length ≤ 9 := fun x hx => by rw [comp_len (mem_kept.1 hx).1]; exact hn9
  have hMx : ∀ x ∈ keptL semiP (compL n l), x.length ≤ 9 := fun x hx => by rw [comp_len (mem_kept.1 hx).1]; exact hn9
  clear hlim Hve HV
  generalize keptL prefP (compL n l) = PL at *
  generalize keptL stabP (compL n l) = SL at *
  generalize keptL semiP (compL n l) = ML at *
  have HPm := Lib.hid hPm; have HSm := Lib.hid hSm; have HSM := Lib.hid hSM; have HPx := Lib.hid hPx; have HSx := Lib.hid hSx; have HMx := Lib.hid hMx
  clear hPm hSm hSM hPx hSx hMx hN hn9
  go_wp2_with fail
  go_loopw [59] (fun j wr => ∃ k : Nat, k ≤ ML.length ∧ j = .int .i64 k ∧ Below w5.heap.size w5 wr) (fun j _ => ML.length - (intOf j).toNat)
  case atStart => exact ⟨0, by omega, rfl, Below.refl _ _⟩
  case round =>
    obtain ⟨k, hk, rfl, hbl⟩ := hrel
    have hPr := HP3.out.below hbl; have hSr := HS3.out.below hbl; have hMr := HM.out.below hbl
    have hTr := hT3.below hbl
    have hBr := endB hB3 hbl
    by_cases hkl : k < ML.length
    case pos =>
      have hkl' : (k : Int) < (ML.length : Int) := by omega
      obtain ⟨b, o, A', c', hA, hcell, hri⟩ := hMr.at_ hkl
      subst hA
      have hmem := List.getElem_mem hkl
      obtain ⟨x, hx⟩ : ∃ x, ML[k] = x := ⟨_, rfl⟩
      rw [hx] at hcell hri hmem
      have hxl := HMx.out x hmem
      have hwl : (withL x 1).length ≤ 9 := Nat.le_trans (nodesB_length _ _) hxl
      have hq := fun A B C ca cb cc w h1 h2 h3 => has15_any A B C PL x (withL x 1) ca cb cc w h1 h2 h3 (by omega) (fun z hz => by have := HPx.out z hz; omega) (by omega) (by omega)
      rw [HPm.out x hmem] at hq
      have Hq := Lib.hid hq
      obtain ⟨s, hs⟩ : ∃ s, withL x 1 = s := ⟨_, rfl⟩
      have hwi := with_any A' x c' 1 wr hri (by omega)
      rw [hs] at hwi
      have Hwi := Lib.hid hwi; have Hs := Lib.hid hs
      clear hq hwi hx hs hwl
      go_wp2_with fail
      refine Hwi.out.mono ?_
      rintro e w6 ⟨A6, c6, rfl, _, hr6, _, hb6⟩
      have Hq2 := Lib.hid (Hq.out AP A' A6 cp c' c6 w6 (hPr.below hb6) (hri.below hb6) (by rw [Hs.out]; exact hr6))
      rw [Hs.out] at Hq2
      go_wp2_with fail
      refine Hq2.out.mono ?_
      rintro e w7 ⟨rfl, hb7⟩
      go_wp2_with fail
      go_roundw
      case rel => exact ⟨k + 1, by omega, by go_num, endB hbl (endB hb6 hb7)⟩
      case measure => simp [intOf]; omega
    case neg =>
    clear HP3 HS3 HM HPm HPx
    go_wp2_with fail
    go_loopw [72] (fun j ws => ∃ k : Nat, k ≤ SL.length ∧ j = .int .i64 k ∧ Below wr.heap.size wr ws) (fun j _ => SL.length - (intOf j).toNat)
    case atStart => exact ⟨0, by omega, rfl, Below.refl _ _⟩
    case round =>
      obtain ⟨t, ht, rfl, hbs⟩ := hrel
      obtain ⟨ws, hwws⟩ : ∃ q, q = wr := ⟨_, rfl⟩
      subst hwws
      have hSs := hSr.below hbs; have hMs := hMr.below hbs
      have hTs := hTr.below hbs
      have hBs := endB hBr hbs
      by_cases htl : t < SL.length
      case pos =>
        have htl' : (t : Int) < (SL.length : Int) := by omega
        obtain ⟨b, o, A', c', hA, hcell, hri⟩ := hSs.at_ htl
        subst hA
        have hmem := List.getElem_mem htl
        obtain ⟨x, hx⟩ : ∃ x, SL[t] = x := ⟨_, rfl⟩
        rw [hx] at hcell hri hmem
        have hxl := HSx.out x hmem
        have hwl : (withL x 1).length ≤ 9 := Nat.le_trans (nodesB_length _ _) hxl
        have hq := fun A B C ca cb cc w h1 h2 h3 => has15_any A B C ML x (withL x 1) ca cb cc w h1 h2 h3 (by omega) (fun z hz => by have := HMx.out z hz; omega) (by omega) (by omega)
        rw [HSm.out x hmem] at hq
        have Hq := Lib.hid hq
        obtain ⟨s, hs⟩ : ∃ s, withL x 1 = s := ⟨_, rfl⟩
        have hwi := with_any A' x c' 1 ws hri (by omega)
        rw [hs] at hwi
        have Hwi := Lib.hid hwi; have Hs := Lib.hid hs
        clear hq hwi hx hs hwl
        go_wp2_with fail
        refine Hwi.out.mono ?_
        rintro e w6 ⟨A6, c6, rfl, _, hr6, _, hb6⟩
        have Hq2 := Lib.hid (Hq.out AM A' A6 cm c' c6 w6 (hMs.below hb6) (hri.below hb6) (by rw [Hs.out]; exact hr6))
        rw [Hs.out] at Hq2
        go_wp2_with fail
        refine Hq2.out.mono ?_
        rintro e w7 ⟨rfl, hb7⟩
        go_wp2_with fail
        go_roundw
        case rel => exact ⟨t + 1, by omega, by go_num, endB hbs (endB hb6 hb7)⟩
        case measure => simp [intOf]; omega
      case neg =>
      have hM0' : (0 : Int) < (ML.length : Int) := by omega
      have hM0d : decide ((0 : Int) < (ML.length : Int)) = true := decide_eq_true hM0'
      clear hbl
      rcases Classical.em (SL.length = 0) with h0 | h0
      · have h0' : ((SL.length : Int) == 0) = true := by rw [h0]; rfl
        have H0 := Lib.hid h0
        clear h0
        go_wp2_with fail
        refine (awake15_any ws hTs).mono ?_
        rintro e w6 ⟨rfl, hb6⟩
        go_wp2_with fail
        go_ret
        exact ⟨rfl, endB hBs hb6⟩
      · have h0' : ((SL.length : Int) == 0) = false := by rw [beq_eq_false_iff_ne]; omega
        have hq := lists_any AS AM SL ML cs cm ws (by omega) (by omega) (fun x hx => by have := HSx.out x hx; omega) (fun x hx => by have := HMx.out x hx; omega) hSs hMs
        rw [(eqLs_iff _ _).2 (HSM.out h0)] at hq
        have Hq := Lib.hid hq
        clear hq
        go_wp2_with fail
        refine Hq.out.mono ?_
        rintro e w6 ⟨rfl, hb6⟩
        go_wp2_with fail
        refine (awake15_any w6 (hTs.below hb6)).mono ?_
        rintro e w7 ⟨rfl, hb7⟩
        go_wp2_with fail
        go_ret
        exact ⟨rfl, endB hBs (endB hb6 hb7)⟩
end Go.Proofs.YtajocnhebfpjaaaDoor
