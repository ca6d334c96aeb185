/- law16: the walk of CoreGreatest. -/
import Derived.Test.YtcpombepajapjaaDoorAw16
import Derived.Test.YtcpombepajapjaaDoorPl14x
namespace Go.Proofs.YtcpombepajapjaaDoor
open Go.ChangeShapes Go.WideShapes Go.ChangeAt Go.RowKit

theorem all_stepY {α : Type} (p : α → Bool) (L : List α) {k : Nat} (h : k < L.length) : (L.take (k + 1)).all p = ((L.take k).all p && p L[k]) := by
  rw [List.take_succ_eq_append_getElem h, List.all_append]; simp
theorem inside_eq {x y : List Int} (h : eqB x y = true) : insideB x y = true := by
  rw [(eqB_iff _ _).1 h]; exact insideB_iff.2 fun _ h => h
theorem coreE_sound {n : Nat} {l : List (Int × Int)} (hv : InR n l) {L : List (List Int)} (hL : ∀ y ∈ L, comB n l y = true) : soundL n l (coreE n l L) = true := by
  unfold soundL
  rw [core_mask hv hL, (core_sound hv hL).1, Bool.and_true]
  exact setB_nodes n _
theorem core_neG {n : Nat} {l : List (Int × Int)} (hv : InR n l) : keptL prefP (compL n l) ≠ [] ∧ keptL semiP (compL n l) ≠ [] :=
  ⟨List.ne_nil_of_length_pos (pref_some hv), List.ne_nil_of_length_pos (semi_some hv)⟩
theorem core_lenG (n : Nat) (l : List (Int × Int)) (L : List (List Int)) : (coreL n l L).length = n := (labB_iff.1 (fromL_lab n l _)).1

set_option maxRecDepth 100000 in
set_option maxHeartbeats 8000000 in
theorem grt_law_any (A : Option Addr) (arg : List Int) (c : Nat) (w : World)
    (hlc : arg.length ≤ c) (hc : c ≤ 9223372036854775807) (hr : RI w A arg) (hx : ∀ x ∈ arg, -9223372036854775808 ≤ x ∧ x ≤ 9223372036854775807) (hT : Tab w) :
    Calls Tryd.prog 7 #[.slice A arg.length c] w (RetB (.bool true) w) := by
  go_enter Tryd.func7, Tryd.ntmps7
  go_wp2_with fail
  refine (new_any A arg c w hlc hc hr hx).mono ?_
  rintro e w1 ⟨p, rfl, hp, hs1, hb1⟩
  have hp1 := hs1.lt
  clear hr hx
  go_wp2_with fail
  refine (graph_any p 6 w1 hs1 (by omega)).mono ?_
  rintro e w2 ⟨n, l, AL, cl, rfl, hN, hv, hrp, hloc, hs2, hg2⟩
  have hb2 : Below w.heap.size w w2 := hb1.trans (below_of_grownBy hg2 hp hb1.size)
  clear hs1 hb1 hg2
  go_wp2_with fail
  obtain ⟨W0, hW, c0, c1, hb0, hlt0⟩ := boxed w2 28 (.int .i64 n) (.slice AL l.length cl)
  rw [hW]
  clear hW
  have hB0 := endB hb2 hb0
  have hrp := hrp.below hb0
  have hlen := hv.1.2.1
  have HV := Lib.hid hv
  have hve := hv.valE
  have hT0 := hT.below hB0
  clear hs2 hb0 hb2 hp1 hv hloc hT
  generalize w2.heap.size = G at *
  have hfew : ¬ 200 < (compL n l).length := by have := comp_few HV.out.1 hN; omega
  obtain ⟨hPne, hMne⟩ := core_neG HV.out.1
  have hPl : (keptL prefP (compL n l)).length ≤ 200 := Nat.le_trans kept_len (by omega)
  have hMl : (keptL semiP (compL n l)).length ≤ 200 := Nat.le_trans kept_len (by omega)
  have hPx : ∀ x ∈ keptL prefP (compL n l), x.length ≤ 6 := fun x hx => by rw [comp_len (mem_kept.1 hx).1]; exact hN
  have hMx : ∀ x ∈ keptL semiP (compL n l), x.length ≤ 6 := fun x hx => by rw [comp_len (mem_kept.1 hx).1]; exact hN
  have hIw := core_with (n := n) (l := l) (L := keptL prefP (compL n l))
  have hEw := core_with (n := n) (l := l) (L := keptL semiP (compL n l))
  have hIs := coreE_sound HV.out.1 (L := keptL prefP (compL n l)) kept_com
  have hEs := coreE_sound HV.out.1 (L := keptL semiP (compL n l)) kept_com
  have hIl := core_lenG n l (keptL prefP (compL n l))
  have hEl := core_lenG n l (keptL semiP (compL n l))
  have hIel : (coreE n l (keptL prefP (compL n l))).length ≤ 6 := Nat.le_trans (nodesB_length _ _) hN
  have hEel : (coreE n l (keptL semiP (compL n l))).length ≤ 6 := Nat.le_trans (nodesB_length _ _) hN
  have hPa : ∀ x, soundL n l x = true → ((keptL prefP (compL n l)).all fun y => insideB x (withL y 1)) = insideB x (coreE n l (keptL prefP (compL n l))) := fun x hx => core_all HV.out.1 kept_com hPne hx
  have hMa : ∀ x, soundL n l x = true → ((keptL semiP (compL n l)).all fun y => insideB x (withL y 1)) = insideB x (coreE n l (keptL semiP (compL n l))) := fun x hx => core_all HV.out.1 kept_com hMne hx
  have hP1 := xPreferred_any AL n l cl W0 hrp hlen hT0
  have hM1 := fun W h1 h2 => xSemiStable_any AL n l cl W h1 hlen h2
  have hI1 := fun W h1 h2 => xIdeal_any AL n l cl W h1 hlen h2
  have hE1 := fun W h1 h2 => xEager_any AL n l cl W h1 hlen h2
  rw [bestR_ok hve, if_neg hfew] at hP1
  simp only [bestR_ok hve, if_neg hfew] at hM1
  simp only [coreR_ok HV.out, if_neg hfew] at hI1 hE1
  have hset : ∀ x ∈ setsL n, setB n x = true := fun x hx => sets_mem hx
  have hsl : (setsL n).length ≤ 64 := by rw [sets_len]; exact Nat.le_trans (Nat.pow_le_pow_right (by omega) hN) (by decide)
  have hsm : ∀ k (h : k < (setsL n).length), (setsL n)[k].length ≤ 6 := fun k h => Nat.le_trans (sets_small h) hN
  clear hfew hve hPne hMne
  generalize coreL n l (keptL prefP (compL n l)) = I at *
  generalize coreL n l (keptL semiP (compL n l)) = E at *
  generalize coreE n l (keptL prefP (compL n l)) = IS at *
  generalize coreE n l (keptL semiP (compL n l)) = ES at *
  generalize keptL prefP (compL n l) = PL at *
  generalize keptL semiP (compL n l) = ML at *
  have hIl' : I.length ≤ 6 := by omega
  have hEl' : E.length ≤ 6 := by omega
  have hP1' : Calls Tryd.prog 11 #[.agg #[.int .i64 n, .slice AL l.length cl]] W0 (RetLC (PL, 0) W0) := hP1
  have hM1' : ∀ W, RP W AL l → Tab W → Calls Tryd.prog 21 #[.agg #[.int .i64 n, .slice AL l.length cl]] W (RetLC (ML, 0) W) := hM1
  have hI1' : ∀ W, RP W AL l → Tab W → Calls Tryd.prog 28 #[.agg #[.int .i64 n, .slice AL l.length cl]] W (RetE I 0 W) := hI1
  have hE1' : ∀ W, RP W AL l → Tab W → Calls Tryd.prog 29 #[.agg #[.int .i64 n, .slice AL l.length cl]] W (RetE E 0 W) := hE1
  have HP1 := Lib.hid hP1'; have HM1 := Lib.hid hM1'; have HI1 := Lib.hid hI1'; have HE1 := Lib.hid hE1'
  have HPx := Lib.hid hPx; have HMx := Lib.hid hMx; have HIw := Lib.hid hIw; have HEw := Lib.hid hEw; have HIs := Lib.hid hIs; have HEs := Lib.hid hEs; have HPa := Lib.hid hPa; have HMa := Lib.hid hMa
  have Hset := Lib.hid hset; have Hsm := Lib.hid hsm
  clear hP1 hM1 hI1 hE1 hP1' hM1' hI1' hE1' hPx hMx hIw hEw hIs hEs hPa hMa hIl hEl hset hsm
  go_wp2_with fail
  refine HP1.out.mono ?_
  rintro e w3 ⟨AP, cp, rfl, hrs, _, _, hb⟩
  have hB1 := endB hB0 hb
  have HP := Lib.hid (show RS w3 AP PL from hrs.rs)
  have f0 := (hb.cell (lt_of_cell c0)).trans c0
  have f1 := (hb.cell (lt_of_cell c1)).trans c1
  have hrp1 := hrp.below hb
  have hT1 := hT0.below hb
  clear HP1 hrs hb c0 c1 hrp hT0
  have Hc := Lib.hid (HM1.out w3 hrp1 hT1)
  go_wp2_with fail
  refine Hc.out.mono ?_
  rintro e w4 ⟨AM, cm, rfl, hrs, _, _, hb⟩
  have hB2 := endB hB1 hb
  have HM := Lib.hid (show RS w4 AM ML from hrs.rs)
  have HP2 := Lib.hid (HP.out.below hb)
  have g0 := (hb.cell (lt_of_cell f0)).trans f0
  have g1 := (hb.cell (lt_of_cell f1)).trans f1
  have hrp2 := hrp1.below hb
  have hT2 := hT1.below hb
  clear Hc HM1 hrs hb f0 f1 hrp1 hT1 HP
  have Hc := Lib.hid (HI1.out w4 hrp2 hT2)
  go_wp2_with fail
  refine Hc.out.mono ?_
  rintro e w5 ⟨AI, ci, rfl, _, hri, _, hb⟩
  have hB3 := endB hB2 hb
  have HI := Lib.hid hri
  have HP3 := Lib.hid (HP2.out.below hb)
  have HM3 := Lib.hid (HM.out.below hb)
  have f0 := (hb.cell (lt_of_cell g0)).trans g0
  have f1 := (hb.cell (lt_of_cell g1)).trans g1
  have hrp3 := hrp2.below hb
  have hT3 := hT2.below hb
  clear Hc HI1 hri hb g0 g1 hrp2 hT2 HP2 HM
  have Hc := Lib.hid (HE1.out w5 hrp3 hT3)
  go_wp2_with fail
  refine Hc.out.mono ?_
  rintro e w6 ⟨AE, ce, rfl, _, hri, _, hb⟩
  have hB4 := endB hB3 hb
  have HE := Lib.hid hri
  have HI4 := Lib.hid (HI.out.below hb)
  have HP4 := Lib.hid (HP3.out.below hb)
  have HM4 := Lib.hid (HM3.out.below hb)
  have g0 := (hb.cell (lt_of_cell f0)).trans f0
  have g1 := (hb.cell (lt_of_cell f1)).trans f1
  have hrp4 := hrp3.below hb
  have hT4 := hT3.below hb
  clear Hc HE1 hri hb f0 f1 hrp3 hT3 HP3 HM3 HI
  have hw1 := with_any AI I ci 1 w6 HI4.out (by omega)
  rw [HIw.out] at hw1
  have Hw1 := Lib.hid hw1
  have hw2 := fun W h => with_any AE E ce 1 W h (by omega)
  rw [HEw.out] at hw2
  have Hw2 := Lib.hid hw2
  clear hw1 hw2
  go_wp2_with fail
  refine Hw1.out.mono ?_
  rintro e w7 ⟨AIS, cis, rfl, _, hri7, _, hb7⟩
  have Hc := Lib.hid (Hw2.out w7 (HE.out.below hb7))
  clear Hw1 Hw2
  go_wp2_with fail
  refine Hc.out.mono ?_
  rintro e w8 ⟨AES, ces, rfl, _, hri8, _, hb8⟩
  have hb68 := endB hb7 hb8
  have hB5 := endB hB4 hb68
  have HIS := Lib.hid (hri7.below hb8); have HES := Lib.hid hri8
  have HP5 := Lib.hid (HP4.out.below hb68); have HM5 := Lib.hid (HM4.out.below hb68)
  have f0 := (hb68.cell (lt_of_cell g0)).trans g0
  have f1 := (hb68.cell (lt_of_cell g1)).trans g1
  have hrp5 := hrp4.below hb68
  have hT5 := hT4.below hb68
  clear Hc hri7 hri8 hb7 hb8 hb68 g0 g1 hrp4 hT4 HP4 HM4 HI4 HE
  have hA1 := aAdmissible_any AL n l cl AIS IS cis w8 hrp5 HV.out.1 HIS.out (by omega)
  rw [show (setB n IS && soundB n l (maskN IS)) = soundL n l IS from rfl, HIs.out] at hA1
  have hA2 := fun W h1 h2 => aAdmissible_any AL n l cl AES ES ces W h1 HV.out.1 h2 (by omega)
  rw [show (setB n ES && soundB n l (maskN ES)) = soundL n l ES from rfl, HEs.out] at hA2
  have HA1 := Lib.hid hA1; have HA2 := Lib.hid hA2
  clear hA1 hA2
  go_wp2_with fail
  refine HA1.out.mono ?_
  rintro e w9 ⟨rfl, hb9⟩
  have g0 := (hb9.cell (lt_of_cell f0)).trans f0
  have g1 := (hb9.cell (lt_of_cell f1)).trans f1
  have Hc := Lib.hid (HA2.out w9 (hrp5.below hb9) (HES.out.below hb9))
  clear HA1 HA2
  go_wp2_with fail
  refine Hc.out.mono ?_
  rintro e w10 ⟨rfl, hb10⟩
  have hb810 := endB hb9 hb10
  have h0 := (hb10.cell (lt_of_cell g0)).trans g0
  have h1 := (hb10.cell (lt_of_cell g1)).trans g1
  have hB6 := endB hB5 hb810
  clear Hc
  go_wp2_with fail
  refine (sets_any n w10 (by omega)).mono ?_
  rintro e B ⟨AS, cS, rfl, hrs, hbS⟩
  have hb8B := endB hb810 hbS
  have HS := Lib.hid hrs.rs
  have HIS6 := Lib.hid (HIS.out.below hb8B); have HES6 := Lib.hid (HES.out.below hb8B)
  have HP6 := Lib.hid (HP5.out.below hb8B); have HM6 := Lib.hid (HM5.out.below hb8B)
  have i0 := (hbS.cell (lt_of_cell h0)).trans h0
  have i1 := (hbS.cell (lt_of_cell h1)).trans h1
  have hrp6 := hrp5.below hb8B
  have hT6 := hT5.below hb8B
  have hB7 := endB hB5 hb8B
  clear hrs hbS hb810 hb8B hb9 hb10 h0 h1 g0 g1 f0 f1 HIS HES HP5 HM5 hrp5 hT5 hB5 hB6 hB4 hB3 hB2 hB1 hB0
  obtain ⟨S, hS⟩ : ∃ S, setsL n = S := ⟨_, rfl⟩
  rw [hS] at hsl Hset Hsm HS ⊢
  clear hS
  go_wp2_with fail
  go_loopw [79] (fun j wr => ∃ k : Nat, k ≤ S.length ∧ j = .int .i64 k ∧ Below B.heap.size B wr) (fun j _ => S.length - (intOf j).toNat)
  case atStart => exact ⟨0, by omega, rfl, Below.refl _ _⟩
  case round =>
    obtain ⟨k, hk, rfl, hbl⟩ := hrel
    by_cases hkl : k < S.length
    case neg =>
      have hTr := hT6.below hbl
      have hBr := endB hB7 hbl
      go_wp2_with fail
      refine (awake16_any wr hTr).mono ?_
      rintro e w11 ⟨rfl, hb11⟩
      go_wp2_with fail
      go_ret
      exact ⟨rfl, endB hBr hb11⟩
    case pos =>
    have hkl' : (k : Int) < (S.length : Int) := by omega
    obtain ⟨b, o, A', c', hA, hcell, hri⟩ := (HS.out.below hbl).at_ hkl
    subst hA
    have hmem := List.getElem_mem hkl
    have hsm := Hsm.out k hkl
    obtain ⟨x, hx⟩ : ∃ x, S[k] = x := ⟨_, rfl⟩
    rw [hx] at hcell hri hmem
    have hxl : x.length ≤ 6 := by rw [hx] at hsm; exact hsm
    have g0 := (hbl.cell (lt_of_cell i0)).trans i0
    have g1 := (hbl.cell (lt_of_cell i1)).trans i1
    have hcl := aAdmissible_any AL n l cl A' x c' wr (hrp6.below hbl) HV.out.1 hri (by omega)
    rw [show (setB n x && soundB n l (maskN x)) = soundL n l x from rfl] at hcl
    have hpa := HPa.out x; have hma := HMa.out x
    obtain ⟨q, hq⟩ : ∃ q, soundL n l x = q := ⟨_, rfl⟩
    rw [hq] at hcl hpa hma
    have Hcl := Lib.hid hcl; have Hpa0 := Lib.hid hpa; have Hma0 := Lib.hid hma
    clear hcl hpa hma hq hx hmem hsm
    go_wp2_with fail
    refine Hcl.out.mono ?_
    rintro e w11 ⟨rfl, hb11⟩
    have hbl11 := endB hbl hb11
    cases q
    case false =>
      go_wp2_with fail
      go_roundw
      case rel => exact ⟨k + 1, by omega, by go_num, hbl11⟩
      case measure => simp [intOf]; omega
    case true =>
    have hpa := Hpa0.out rfl; have hma := Hma0.out rfl
    clear Hpa0 Hma0
    have hri11 := hri.below hb11
    obtain ⟨P, hP⟩ : ∃ P, insideB x IS = P := ⟨_, rfl⟩
    obtain ⟨M, hM⟩ : ∃ M, insideB x ES = M := ⟨_, rfl⟩
    obtain ⟨Q, hQ⟩ : ∃ Q, eqB x IS = Q := ⟨_, rfl⟩
    obtain ⟨R, hR⟩ : ∃ R, eqB x ES = R := ⟨_, rfl⟩
    have hQP : Q = true → P = true := fun h => by rw [← hP]; exact inside_eq (hQ.trans h)
    have hRM : R = true → M = true := fun h => by rw [← hM]; exact inside_eq (hR.trans h)
    have hXP : ∀ W, Below w11.heap.size w11 W → Calls Tryd.prog 18 #[.slice A' x.length c', .slice AIS IS.length cis] W (Ret (.bool P) W) := fun W h => by
      have := inside_any A' AIS x IS c' cis W (by omega) (by omega) (hri11.below h) (HIS6.out.below (endB hbl11 h))
      rwa [hP] at this
    have hXM : ∀ W, Below w11.heap.size w11 W → Calls Tryd.prog 18 #[.slice A' x.length c', .slice AES ES.length ces] W (Ret (.bool M) W) := fun W h => by
      have := inside_any A' AES x ES c' ces W (by omega) (by omega) (hri11.below h) (HES6.out.below (endB hbl11 h))
      rwa [hM] at this
    have hXQ : ∀ W, Below w11.heap.size w11 W → Calls Tryd.prog 31 #[.slice A' x.length c', .slice AIS IS.length cis] W (RetB (.bool Q) W) := fun W h => by
      have := ints_any A' AIS x IS c' cis W (by omega) (by omega) (hri11.below h) (HIS6.out.below (endB hbl11 h))
      rw [hQ] at this
      exact this.mono fun _ _ h => h.below
    have hXR : ∀ W, Below w11.heap.size w11 W → Calls Tryd.prog 31 #[.slice A' x.length c', .slice AES ES.length ces] W (RetB (.bool R) W) := fun W h => by
      have := ints_any A' AES x ES c' ces W (by omega) (by omega) (hri11.below h) (HES6.out.below (endB hbl11 h))
      rw [hR] at this
      exact this.mono fun _ _ h => h.below
    rw [hP] at hpa; rw [hM] at hma
    have HXP := Lib.hid hXP; have HXM := Lib.hid hXM; have HXQ := Lib.hid hXQ; have HXR := Lib.hid hXR
    have Hpa := Lib.hid hpa; have Hma := Lib.hid hma; have HQP := Lib.hid hQP; have HRM := Lib.hid hRM
    clear hXP hXM hXQ hXR hpa hma hQP hRM hP hM hQ hR g0 g1 hcell hri Hcl
    go_wp2_with fail
    go_loopw [17, 89] (fun s17 j ws => ∃ t : Nat, t ≤ PL.length ∧ j = .int .i64 t ∧ s17 = .bool ((PL.take t).all fun y => insideB x (withL y 1)) ∧ Below w11.heap.size w11 ws) (fun _ j _ => PL.length - (intOf j).toNat)
    case atStart => exact ⟨0, by omega, rfl, rfl, Below.refl _ _⟩
    case round =>
      obtain ⟨t, ht, rfl, rfl, hbs⟩ := hrel
      obtain ⟨ws, hwws⟩ : ∃ q, q = wr := ⟨_, rfl⟩
      subst hwws
      by_cases htl : t < PL.length
      case pos =>
        have htl' : (t : Int) < (PL.length : Int) := by omega
        obtain ⟨b2, o2, A2, c2, hA, hcell, hri2⟩ := (HP6.out.below (endB hbl11 hbs)).at_ htl
        subst hA
        have hyl := HPx.out _ (List.getElem_mem htl)
        have hst := all_stepY (fun y => insideB x (withL y 1)) PL htl
        obtain ⟨y, hy⟩ : ∃ y, PL[t] = y := ⟨_, rfl⟩
        rw [hy] at hcell hri2 hyl hst
        obtain ⟨q, hq⟩ : ∃ q, (PL.take t).all (fun y => insideB x (withL y 1)) = q := ⟨_, rfl⟩
        rw [hq] at hst ⊢
        have Hst := Lib.hid hst
        clear hst hy hq
        cases q
        case false =>
          go_wp2_with fail
          go_roundw
          case rel => exact ⟨t + 1, by omega, by go_num, by rw [Hst.out]; rfl, hbs⟩
          case measure => simp [intOf]; omega
        case true =>
        have hwi := with_any A2 y c2 1 ws hri2 (by omega)
        have hwl : (withL y 1).length ≤ 100 := Nat.le_trans (nodesB_length _ _) (by omega)
        obtain ⟨s, hs⟩ : ∃ s, withL y 1 = s := ⟨_, rfl⟩
        rw [hs] at hwi hwl Hst
        have Hwi := Lib.hid hwi
        clear hwi hs
        go_wp2_with fail
        refine Hwi.out.mono ?_
        rintro e w12 ⟨A7, c7, rfl, _, hr7, _, hb7⟩
        have hqq := inside_any A' A7 x s c' c7 w12 (by omega) (by omega) (hri11.below (endB hbs hb7)) hr7
        have Hqq := Lib.hid hqq
        clear hqq
        go_wp2_with fail
        refine Hqq.out.mono ?_
        rintro e w13 hret
        obtain ⟨rfl, hw8⟩ := hret
        subst hw8
        go_wp2_with fail
        go_roundw
        case rel => exact ⟨t + 1, by omega, by go_num, by rw [Hst.out]; rfl, endB hbs hb7⟩
        case measure => simp [intOf]; omega
      case neg =>
      rw [List.take_of_length_le (by omega), Hpa.out]
      go_wp2_with fail
      go_loopw [18, 103] (fun s18 j wt => ∃ t : Nat, t ≤ ML.length ∧ j = .int .i64 t ∧ s18 = .bool ((ML.take t).all fun y => insideB x (withL y 1)) ∧ Below w11.heap.size w11 wt) (fun _ j _ => ML.length - (intOf j).toNat)
      case atStart => exact ⟨0, by omega, rfl, rfl, hbs⟩
      case round =>
        clear ht htl hbs
        obtain ⟨t, ht, rfl, rfl, hbs⟩ := hrel
        obtain ⟨wt, hwwt⟩ : ∃ q, q = wr := ⟨_, rfl⟩
        subst hwwt
        by_cases htl : t < ML.length
        case pos =>
          have htl' : (t : Int) < (ML.length : Int) := by omega
          obtain ⟨b2, o2, A2, c2, hA, hcell, hri2⟩ := (HM6.out.below (endB hbl11 hbs)).at_ htl
          subst hA
          have hyl := HMx.out _ (List.getElem_mem htl)
          have hst := all_stepY (fun y => insideB x (withL y 1)) ML htl
          obtain ⟨y, hy⟩ : ∃ y, ML[t] = y := ⟨_, rfl⟩
          rw [hy] at hcell hri2 hyl hst
          obtain ⟨q, hq⟩ : ∃ q, (ML.take t).all (fun y => insideB x (withL y 1)) = q := ⟨_, rfl⟩
          rw [hq] at hst ⊢
          have Hst := Lib.hid hst
          clear hst hy hq
          cases q
          case false =>
            go_wp2_with fail
            go_roundw
            case rel => exact ⟨t + 1, by omega, by go_num, by rw [Hst.out]; rfl, hbs⟩
            case measure => simp [intOf]; omega
          case true =>
          have hwi := with_any A2 y c2 1 wt hri2 (by omega)
          have hwl : (withL y 1).length ≤ 100 := Nat.le_trans (nodesB_length _ _) (by omega)
          obtain ⟨s, hs⟩ : ∃ s, withL y 1 = s := ⟨_, rfl⟩
          rw [hs] at hwi hwl Hst
          have Hwi := Lib.hid hwi
          clear hwi hs
          go_wp2_with fail
          refine Hwi.out.mono ?_
          rintro e w12 ⟨A7, c7, rfl, _, hr7, _, hb7⟩
          have hqq := inside_any A' A7 x s c' c7 w12 (by omega) (by omega) (hri11.below (endB hbs hb7)) hr7
          have Hqq := Lib.hid hqq
          clear hqq
          go_wp2_with fail
          refine Hqq.out.mono ?_
          rintro e w13 hret
          obtain ⟨rfl, hw8⟩ := hret
          subst hw8
          go_wp2_with fail
          go_roundw
          case rel => exact ⟨t + 1, by omega, by go_num, by rw [Hst.out]; rfl, endB hbs hb7⟩
          case measure => simp [intOf]; omega
        case neg =>
        rw [List.take_of_length_le (by omega), Hma.out]
        clear HP6 HM6 HPx HMx
        cases P
        case false =>
          cases M
          case false =>
            cases Q
            case false =>
              cases R
              case false =>
                go_wp2_with fail
                refine (HXQ.out _ hbs).mono ?_
                rintro e w20 ⟨rfl, hb20⟩
                have hbs0 := endB hbs hb20
                go_wp2_with fail
                refine (HXR.out _ hbs0).mono ?_
                rintro e w21 ⟨rfl, hb21⟩
                have hbs1 := endB hbs0 hb21
                go_wp2_with fail
                go_roundw
                case rel => exact ⟨k + 1, by omega, by go_num, endB hbl11 hbs1⟩
                case measure => simp [intOf]; omega
              case true =>
                exact absurd (HRM.out rfl) (by decide)
            case true =>
              exact absurd (HQP.out rfl) (by decide)
          case true =>
            cases Q
            case false =>
              cases R
              case false =>
                go_wp2_with fail
                refine (HXM.out _ hbs).mono ?_
                rintro e w20 hret
                obtain ⟨rfl, hw20⟩ := hret
                subst hw20
                go_wp2_with fail
                refine (HXQ.out _ hbs).mono ?_
                rintro e w21 ⟨rfl, hb21⟩
                have hbs1 := endB hbs hb21
                go_wp2_with fail
                refine (HXR.out _ hbs1).mono ?_
                rintro e w22 ⟨rfl, hb22⟩
                have hbs2 := endB hbs1 hb22
                go_wp2_with fail
                go_roundw
                case rel => exact ⟨k + 1, by omega, by go_num, endB hbl11 hbs2⟩
                case measure => simp [intOf]; omega
              case true =>
                go_wp2_with fail
                refine (HXM.out _ hbs).mono ?_
                rintro e w20 hret
                obtain ⟨rfl, hw20⟩ := hret
                subst hw20
                go_wp2_with fail
                refine (HXQ.out _ hbs).mono ?_
                rintro e w21 ⟨rfl, hb21⟩
                have hbs1 := endB hbs hb21
                go_wp2_with fail
                refine (HXR.out _ hbs1).mono ?_
                rintro e w22 ⟨rfl, hb22⟩
                have hbs2 := endB hbs1 hb22
                go_wp2_with fail
                go_roundw
                case rel => exact ⟨k + 1, by omega, by go_num, endB hbl11 hbs2⟩
                case measure => simp [intOf]; omega
            case true =>
              exact absurd (HQP.out rfl) (by decide)
        case true =>
          cases M
          case false =>
            cases Q
            case false =>
              cases R
              case false =>
                go_wp2_with fail
                refine (HXP.out _ hbs).mono ?_
                rintro e w20 hret
                obtain ⟨rfl, hw20⟩ := hret
                subst hw20
                go_wp2_with fail
                refine (HXQ.out _ hbs).mono ?_
                rintro e w21 ⟨rfl, hb21⟩
                have hbs1 := endB hbs hb21
                go_wp2_with fail
                refine (HXR.out _ hbs1).mono ?_
                rintro e w22 ⟨rfl, hb22⟩
                have hbs2 := endB hbs1 hb22
                go_wp2_with fail
                go_roundw
                case rel => exact ⟨k + 1, by omega, by go_num, endB hbl11 hbs2⟩
                case measure => simp [intOf]; omega
              case true =>
                exact absurd (HRM.out rfl) (by decide)
            case true =>
              cases R
              case false =>
                go_wp2_with fail
                refine (HXP.out _ hbs).mono ?_
                rintro e w20 hret
                obtain ⟨rfl, hw20⟩ := hret
                subst hw20
                go_wp2_with fail
                refine (HXQ.out _ hbs).mono ?_
                rintro e w21 ⟨rfl, hb21⟩
                have hbs1 := endB hbs hb21
                go_wp2_with fail
                refine (HXR.out _ hbs1).mono ?_
                rintro e w22 ⟨rfl, hb22⟩
                have hbs2 := endB hbs1 hb22
                go_wp2_with fail
                go_roundw
                case rel => exact ⟨k + 1, by omega, by go_num, endB hbl11 hbs2⟩
                case measure => simp [intOf]; omega
              case true =>
                exact absurd (HRM.out rfl) (by decide)
          case true =>
            cases Q
            case false =>
              cases R
              case false =>
                go_wp2_with fail
                refine (HXP.out _ hbs).mono ?_
                rintro e w20 hret
                obtain ⟨rfl, hw20⟩ := hret
                subst hw20
                go_wp2_with fail
                refine (HXM.out _ hbs).mono ?_
                rintro e w21 hret
                obtain ⟨rfl, hw21⟩ := hret
                subst hw21
                go_wp2_with fail
                refine (HXQ.out _ hbs).mono ?_
                rintro e w22 ⟨rfl, hb22⟩
                have hbs2 := endB hbs hb22
                go_wp2_with fail
                refine (HXR.out _ hbs2).mono ?_
                rintro e w23 ⟨rfl, hb23⟩
                have hbs3 := endB hbs2 hb23
                go_wp2_with fail
                go_roundw
                case rel => exact ⟨k + 1, by omega, by go_num, endB hbl11 hbs3⟩
                case measure => simp [intOf]; omega
              case true =>
                go_wp2_with fail
                refine (HXP.out _ hbs).mono ?_
                rintro e w20 hret
                obtain ⟨rfl, hw20⟩ := hret
                subst hw20
                go_wp2_with fail
                refine (HXM.out _ hbs).mono ?_
                rintro e w21 hret
                obtain ⟨rfl, hw21⟩ := hret
                subst hw21
                go_wp2_with fail
                refine (HXQ.out _ hbs).mono ?_
                rintro e w22 ⟨rfl, hb22⟩
                have hbs2 := endB hbs hb22
                go_wp2_with fail
                refine (HXR.out _ hbs2).mono ?_
                rintro e w23 ⟨rfl, hb23⟩
                have hbs3 := endB hbs2 hb23
                go_wp2_with fail
                go_roundw
                case rel => exact ⟨k + 1, by omega, by go_num, endB hbl11 hbs3⟩
                case measure => simp [intOf]; omega
            case true =>
              cases R
              case false =>
                go_wp2_with fail
                refine (HXP.out _ hbs).mono ?_
                rintro e w20 hret
                obtain ⟨rfl, hw20⟩ := hret
                subst hw20
                go_wp2_with fail
                refine (HXM.out _ hbs).mono ?_
                rintro e w21 hret
                obtain ⟨rfl, hw21⟩ := hret
                subst hw21
                go_wp2_with fail
                refine (HXQ.out _ hbs).mono ?_
                rintro e w22 ⟨rfl, hb22⟩
                have hbs2 := endB hbs hb22
                go_wp2_with fail
                refine (HXR.out _ hbs2).mono ?_
                rintro e w23 ⟨rfl, hb23⟩
                have hbs3 := endB hbs2 hb23
                go_wp2_with fail
                go_roundw
                case rel => exact ⟨k + 1, by omega, by go_num, endB hbl11 hbs3⟩
                case measure => simp [intOf]; omega
              case true =>
                go_wp2_with fail
                refine (HXP.out _ hbs).mono ?_
                rintro e w20 hret
                obtain ⟨rfl, hw20⟩ := hret
                subst hw20
                go_wp2_with fail
                refine (HXM.out _ hbs).mono ?_
                rintro e w21 hret
                obtain ⟨rfl, hw21⟩ := hret
                subst hw21
                go_wp2_with fail
                refine (HXQ.out _ hbs).mono ?_
                rintro e w22 ⟨rfl, hb22⟩
                have hbs2 := endB hbs hb22
                go_wp2_with fail
                refine (HXR.out _ hbs2).mono ?_
                rintro e w23 ⟨rfl, hb23⟩
                have hbs3 := endB hbs2 hb23
                go_wp2_with fail
                go_roundw
                case rel => exact ⟨k + 1, by omega, by go_num, endB hbl11 hbs3⟩
                case measure => simp [intOf]; omega
end Go.Proofs.YtcpombepajapjaaDoor
