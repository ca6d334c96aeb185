/- law16: the walk of CoreSingle. -/
import Derived.Test.YtcpombepajapjaaDoorAw16
namespace Go.Proofs.YtcpombepajapjaaDoor
open Go.ChangeShapes Go.WideShapes Go.ChangeAt Go.RowKit

theorem core_single {n : Nat} {l : List (Int × Int)} (hv : InR n l) (h1 : (keptL prefP (compL n l)).length ≤ 1) (h : 0 < (keptL prefP (compL n l)).length) :
    coreL n l (keptL prefP (compL n l)) = (keptL prefP (compL n l))[0] ∧ coreL n l (keptL semiP (compL n l)) = (keptL prefP (compL n l))[0] := by
  have hx := List.getElem_mem h
  have hall : ∀ y ∈ keptL prefP (compL n l), y = (keptL prefP (compL n l))[0] := fun y hy => by
    obtain ⟨k, hk, e⟩ := List.mem_iff_getElem.1 hy
    have : k = 0 := by omega
    subst this
    exact e.symm
  refine ⟨core_one hv kept_com hx hall, ?_⟩
  obtain ⟨y, hy⟩ := List.exists_mem_of_length_pos (semi_some hv)
  have e := hall y (semi_pref hv hy)
  rw [← e]
  exact core_one hv kept_com hy fun z hz => (hall z (semi_pref hv hz)).trans e.symm
theorem core_len (n : Nat) (l : List (Int × Int)) (L : List (List Int)) : (coreL n l L).length = n := (labB_iff.1 (fromL_lab n l _)).1

set_option maxRecDepth 100000 in
set_option maxHeartbeats 8000000 in
theorem sin_law_any (A : Option Addr) (arg : List Int) (c : Nat) (w : World)
    (hlc : arg.length ≤ c) (hc : c ≤ 9223372036854775807) (hr : RI w A arg) (hx : ∀ x ∈ arg, -9223372036854775808 ≤ x ∧ x ≤ 9223372036854775807) (hT : Tab w) :
    Calls Tryd.prog 6 #[.slice A arg.length c] w (RetB (.bool true) w) := by
  go_enter Tryd.func6, Tryd.ntmps6
  go_wp2_with fail
  refine (new_any A arg c w hlc hc hr hx).mono ?_
  rintro e w1 ⟨p, rfl, hp, hs1, hb1⟩
  have hp1 := hs1.lt
  clear hr hx
  go_wp2_with fail
  refine (graph_any p 8 w1 hs1 (by omega)).mono ?_
  rintro e w2 ⟨n, l, AL, cl, rfl, hN, hv, hrp, hloc, hs2, hg2⟩
  have hb2 : Below w.heap.size w w2 := hb1.trans (below_of_grownBy hg2 hp hb1.size)
  clear hs1 hb1 hg2
  go_wp2_with fail
  obtain ⟨W0, hW, c0, c1, hb0, hlt0⟩ := boxed w2 28 (.int .i64 n) (.slice AL l.length cl)
  rw [hW]
  clear hW
  have hB0 := endB hb2 hb0
  have hrp := hrp.below hb0
  have hlen := hv.1.2.1
  have HV := Lib.hid hv
  have hve := hv.valE
  have hT0 := hT.below hB0
  clear hs2 hb0 hb2 hp1 hv hloc hT
  generalize w2.heap.size = G at *
  obtain ⟨PR, hPR⟩ : ∃ r, bestR prefP n l = r := ⟨_, rfl⟩
  obtain ⟨IR, hIR⟩ : ∃ r, coreR prefP n l = r := ⟨_, rfl⟩
  obtain ⟨ER, hER⟩ : ∃ r, coreR semiP n l = r := ⟨_, rfl⟩
  have HPR := Lib.hid hPR; have HIR := Lib.hid hIR; have HER := Lib.hid hER; have Hve := Lib.hid hve
  clear hPR hIR hER hve
  have hc := xPreferred_any AL n l cl W0 hrp hlen hT0
  rw [HPR.out] at hc
  have Hc := Lib.hid hc
  clear hc
  go_wp2_with fail
  refine Hc.out.mono ?_
  rintro e w3 ⟨AP, cp, rfl, hrs, _, _, hb⟩
  have hB1 := endB hB0 hb
  have HP := Lib.hid hrs.rs
  have f0 := (hb.cell (lt_of_cell c0)).trans c0
  have f1 := (hb.cell (lt_of_cell c1)).trans c1
  have hrp1 := hrp.below hb
  have hT1 := hT0.below hb
  clear Hc hrs hb c0 c1 hrp hT0
  have hc := xIdeal_any AL n l cl w3 hrp1 hlen hT1
  rw [HIR.out] at hc
  have Hc := Lib.hid hc
  clear hc
  go_wp2_with fail
  refine Hc.out.mono ?_
  rintro e w4 ⟨AI, ci, rfl, _, hri, _, hb⟩
  have hB2 := endB hB1 hb
  have HI := Lib.hid hri
  have HP2 := Lib.hid (HP.out.below hb)
  have g0 := (hb.cell (lt_of_cell f0)).trans f0
  have g1 := (hb.cell (lt_of_cell f1)).trans f1
  have hrp2 := hrp1.below hb
  have hT2 := hT1.below hb
  clear Hc hri hb f0 f1 hrp1 hT1 HP
  have hc := xEager_any AL n l cl w4 hrp2 hlen hT2
  rw [HER.out] at hc
  have Hc := Lib.hid hc
  clear hc
  go_wp2_with fail
  refine Hc.out.mono ?_
  rintro e w5 ⟨AE, ce, rfl, _, hri, _, hb⟩
  have hB3 := endB hB2 hb
  have HE := Lib.hid hri
  have HP3 := Lib.hid (HP2.out.below hb)
  have HI3 := Lib.hid (HI.out.below hb)
  have hT3 := hT2.below hb
  clear Hc hri hb g0 g1 hrp2 hT2 HP2 HI
  have hP := HPR.out; have hI := HIR.out; have hE := HER.out
  clear HPR HIR HER
  rw [bestR_ok Hve.out] at hP
  rw [coreR_ok HV.out] at hI hE
  by_cases hlim : 200 < (compL n l).length
  case pos =>
    rw [if_pos hlim] at hP hI hE
    subst hP hI hE
    clear hlim HP3 HI3 HE
    go_wp2_with fail
    refine (awake16_any w5 hT3).mono ?_
    rintro e w6 ⟨rfl, hb6⟩
    go_wp2_with fail
    go_ret
    exact ⟨rfl, endB hB3 hb6⟩
  case neg =>
  rw [if_neg hlim] at hP hI hE
  subst hP hI hE
  have hPpos := pref_some HV.out.1
  have hPl : (keptL prefP (compL n l)).length ≤ 200 := Nat.le_trans kept_len (by omega)
  have hn8 : n ≤ 8 := by omega
  have hPx : ∀ x ∈ keptL prefP (compL n l), x.length ≤ 8 := fun x hx => by rw [comp_len (mem_kept.1 hx).1]; exact hn8
  have hone := core_single HV.out.1
  have hIl := core_len n l (keptL prefP (compL n l))
  have hEl := core_len n l (keptL semiP (compL n l))
  clear hlim Hve HV
  generalize coreL n l (keptL prefP (compL n l)) = I at *
  generalize coreL n l (keptL semiP (compL n l)) = E at *
  generalize keptL prefP (compL n l) = PL at *
  have Hone := Lib.hid hone; have HPx := Lib.hid hPx
  have hIl' : I.length ≤ 8 := by omega
  have hEl' : E.length ≤ 8 := by omega
  clear hone hPx hIl hEl hN hn8
  have hP0 : ((PL.length : Int) == 0) = false := by rw [beq_eq_false_iff_ne]; omega
  by_cases h1 : 1 < PL.length
  case pos =>
    have h1' : (1 : Int) < (PL.length : Int) := by omega
    go_wp2_with fail
    refine (awake16_any w5 hT3).mono ?_
    rintro e w6 ⟨rfl, hb6⟩
    go_wp2_with fail
    go_ret
    exact ⟨rfl, endB hB3 hb6⟩
  case neg =>
  have h1' : ¬ ((1 : Int) < (PL.length : Int)) := by omega
  have hPI : (0 : Int) < (PL.length : Int) := by omega
  obtain ⟨b, o, A', c', hA, hcell, hri⟩ := HP3.out.at_ hPpos
  subst hA
  obtain ⟨e1, e2⟩ := Hone.out (by omega) hPpos
  have hxl := HPx.out _ (List.getElem_mem hPpos)
  obtain ⟨x, hx⟩ : ∃ x, PL[0] = x := ⟨_, rfl⟩
  rw [hx] at hcell hri e1 e2 hxl
  have hI' : RI w5 AI x := by rw [← e1]; exact HI3.out
  have hE' : RI w5 AE x := by rw [← e2]; exact HE.out
  rw [e1, e2]
  clear e1 e2
  have hcell0 : w5.cell? ⟨b, o, none⟩ = some (.slice A' x.length c') := by rw [Nat.add_zero] at hcell; exact hcell
  clear Hone HPx hx hEl'
  have hI1 : ∀ W, Below w5.heap.size w5 W → Calls Tryd.prog 31 #[.slice A' x.length c', .slice AI x.length ci] W (RetB (.bool true) W) := fun W hb => by
    have h := ints_any A' AI x x c' ci W (by omega) (by omega) (hri.below hb) (hI'.below hb)
    rw [(eqB_iff _ _).2 rfl] at h
    exact h.mono fun _ _ h => h.below
  have hE1 : ∀ W, Below w5.heap.size w5 W → Calls Tryd.prog 31 #[.slice A' x.length c', .slice AE x.length ce] W (RetB (.bool true) W) := fun W hb => by
    have h := ints_any A' AE x x c' ce W (by omega) (by omega) (hri.below hb) (hE'.below hb)
    rw [(eqB_iff _ _).2 rfl] at h
    exact h.mono fun _ _ h => h.below
  have HI1 := Lib.hid hI1; have HE1 := Lib.hid hE1
  clear hI1 hE1 HI3 HE HP3 hri hI' hE'
  go_wp2_with fail
  refine (HI1.out w5 (Below.refl _ _)).mono ?_
  rintro e w6 ⟨rfl, hb6⟩
  have hcell6 := (hb6.cell (lt_of_cell hcell)).trans hcell
  have hcell60 := (hb6.cell (lt_of_cell hcell0)).trans hcell0
  go_wp2_with fail
  refine (HE1.out w6 hb6).mono ?_
  rintro e w7 ⟨rfl, hb7⟩
  have hb57 := endB hb6 hb7
  go_wp2_with fail
  refine (awake16_any w7 (hT3.below hb57)).mono ?_
  rintro e w8 ⟨rfl, hb8⟩
  go_wp2_with fail
  go_ret
  exact ⟨rfl, endB hB3 (endB hb57 hb8)⟩
end Go.Proofs.YtcpombepajapjaaDoor
