/- law15: the walk of ExtensionExact. -/
import Derived.Test.YtcpombepajapjaaDoorPl15x
import Derived.Test.YtcpombepajapjaaDoorHas15
import Derived.Test.YtcpombepajapjaaDoorPl14x
namespace Go.Proofs.YtcpombepajapjaaDoor
open Go.ChangeShapes Go.WideShapes Go.ChangeAt Go.RowKit

def cntX (P : List Int → Bool) (S : List (List Int)) (k : Nat) : Nat := ((S.take k).filter P).length
theorem cntx_step (P : List Int → Bool) {S : List (List Int)} {k : Nat} (h : k < S.length) : cntX P S (k + 1) = if P S[k] = true then cntX P S k + 1 else cntX P S k := by
  unfold cntX
  rw [List.take_succ_eq_append_getElem h, List.filter_append, List.length_append]
  by_cases e : P S[k] = true
  · rw [if_pos e]; simp [e]
  · rw [if_neg e]; simp [e]
theorem cntx_le (P : List Int → Bool) (S : List (List Int)) (k : Nat) : cntX P S k ≤ S.length := by
  unfold cntX
  exact Nat.le_trans (List.length_filter_le _ _) (by rw [List.length_take]; omega)
theorem cntx_all (P : List Int → Bool) {S : List (List Int)} {k : Nat} (h : S.length ≤ k) : cntX P S k = (S.filter P).length := by
  unfold cntX; rw [List.take_of_length_le h]
theorem most_nil (n : Nat) (l : List (Int × Int)) (x : List Int) (S : List (List Int)) : mostB n l x (S.take 0) = soundL n l x := by unfold mostB; simp
theorem wide_nil (n : Nat) (l : List (Int × Int)) (x : List Int) (S : List (List Int)) : wideB n l x (S.take 0) = complL n l x := by unfold wideB; simp
theorem range_len (n : Nat) (l : List (Int × Int)) (x : List Int) : (rangeL n l x).length ≤ n := by
  unfold rangeL; split
  · exact nodesB_length _ _
  · simp

set_option maxRecDepth 100000 in
set_option maxHeartbeats 8000000 in
theorem exc_law_any (A : Option Addr) (arg : List Int) (c : Nat) (w : World)
    (hlc : arg.length ≤ c) (hc : c ≤ 9223372036854775807) (hr : RI w A arg) (hx : ∀ x ∈ arg, -9223372036854775808 ≤ x ∧ x ≤ 9223372036854775807) (hT : Tab w) :
    Calls Tryd.prog 5 #[.slice A arg.length c] w (RetB (.bool true) w) := by
  go_enter Tryd.func5, Tryd.ntmps5
  go_wp2_with fail
  refine (new_any A arg c w hlc hc hr hx).mono ?_
  rintro e w1 ⟨p, rfl, hp, hs1, hb1⟩
  have hp1 := hs1.lt
  clear hr hx
  go_wp2_with fail
  refine (graph_any p 6 w1 hs1 (by omega)).mono ?_
  rintro e w2 ⟨n, l, AL, cl, rfl, hN, hv, hrp, hloc, hs2, hg2⟩
  have hb2 : Below w.heap.size w w2 := hb1.trans (below_of_grownBy hg2 hp hb1.size)
  clear hs1 hb1 hg2
  go_wp2_with fail
  obtain ⟨W0, hW, c0, c1, hb0, hlt0⟩ := boxed w2 28 (.int .i64 n) (.slice AL l.length cl)
  rw [hW]
  clear hW
  have hB0 := endB hb2 hb0
  have hrp := hrp.below hb0
  have hlen := hv.1.2.1
  have HV := Lib.hid hv
  have hve := hv.valE
  have hT0 := hT.below hB0
  clear hs2 hb0 hb2 hp1 hv hloc hT
  generalize w2.heap.size = G at *
  have hfew : ¬ 200 < (compL n l).length := by have := comp_few HV.out.1 hN; omega
  have hPl : (keptL prefP (compL n l)).length ≤ 200 := Nat.le_trans kept_len (by omega)
  have hSl : (keptL stabP (compL n l)).length ≤ 200 := Nat.le_trans kept_len (by omega)
  have hMl : (keptL semiP (compL n l)).length ≤ 200 := Nat.le_trans kept_len (by omega)
  have hPx : ∀ x ∈ keptL prefP (compL n l), x.length ≤ 1000 := fun x hx => by rw [comp_len (mem_kept.1 hx).1]; omega
  have hSx : ∀ x ∈ keptL stabP (compL n l), x.length ≤ 1000 := fun x hx => by rw [comp_len (mem_kept.1 hx).1]; omega
  have hMx : ∀ x ∈ keptL semiP (compL n l), x.length ≤ 1000 := fun x hx => by rw [comp_len (mem_kept.1 hx).1]; omega
  have hfp : ∀ x ∈ setsL n, mostB n l x (setsL n) = (keptL prefP (compL n l)).any (hasP (fromL n l x) x) := fun x hx => most_from HV.out.1 (sets_mem hx)
  have hfs : ∀ x ∈ setsL n, stabL n l x = (keptL stabP (compL n l)).any (hasP (fromL n l x) x) := fun x hx => stable_from HV.out.1 (sets_mem hx)
  have hfm : ∀ x ∈ setsL n, wideB n l x (setsL n) = (keptL semiP (compL n l)).any (hasP (fromL n l x) x) := fun x hx => wide_from HV.out.1 (sets_mem hx)
  have hcp : ((setsL n).filter fun x => mostB n l x (setsL n)).length = (keptL prefP (compL n l)).length := count_from HV.out.1 (kept_nodup _) (fun y hy => mem_comp.1 (mem_kept.1 hy).1) (fun x => mostB n l x (setsL n)) hfp
  have hcs : ((setsL n).filter fun x => stabL n l x).length = (keptL stabP (compL n l)).length := count_from HV.out.1 (kept_nodup _) (fun y hy => mem_comp.1 (mem_kept.1 hy).1) (fun x => stabL n l x) hfs
  have hcm : ((setsL n).filter fun x => wideB n l x (setsL n)).length = (keptL semiP (compL n l)).length := count_from HV.out.1 (kept_nodup _) (fun y hy => mem_comp.1 (mem_kept.1 hy).1) (fun x => wideB n l x (setsL n)) hfm
  have hP1 := xPreferred_any AL n l cl W0 hrp hlen hT0
  have hS1 := fun W h1 h2 => xStable_any AL n l cl W h1 hlen h2
  have hM1 := fun W h1 h2 => xSemiStable_any AL n l cl W h1 hlen h2
  rw [bestR_ok hve, if_neg hfew] at hP1
  simp only [bestR_ok hve, if_neg hfew] at hS1 hM1
  have hfl : ∀ x, (fromL n l x).length ≤ 1000 := fun x => by rw [from_len]; omega
  have hsl : (setsL n).length ≤ 64 := by rw [sets_len]; exact Nat.le_trans (Nat.pow_le_pow_right (by omega) hN) (by decide)
  have hsm : ∀ k (h : k < (setsL n).length), (setsL n)[k].length ≤ 6 := fun k h => Nat.le_trans (sets_small h) hN
  clear hfew hve
  generalize keptL prefP (compL n l) = PL at *
  generalize keptL stabP (compL n l) = SL at *
  generalize keptL semiP (compL n l) = ML at *
  have hP1' : Calls Tryd.prog 11 #[.agg #[.int .i64 n, .slice AL l.length cl]] W0 (RetLC (PL, 0) W0) := hP1
  have hS1' : ∀ W, RP W AL l → Tab W → Calls Tryd.prog 12 #[.agg #[.int .i64 n, .slice AL l.length cl]] W (RetLC (SL, 0) W) := hS1
  have hM1' : ∀ W, RP W AL l → Tab W → Calls Tryd.prog 21 #[.agg #[.int .i64 n, .slice AL l.length cl]] W (RetLC (ML, 0) W) := hM1
  have HP1 := Lib.hid hP1'; have HS1 := Lib.hid hS1'; have HM1 := Lib.hid hM1'
  have HPx := Lib.hid hPx; have HSx := Lib.hid hSx; have HMx := Lib.hid hMx; have Hfp := Lib.hid hfp; have Hfs := Lib.hid hfs; have Hfm := Lib.hid hfm
  have Hcp := Lib.hid hcp; have Hcs := Lib.hid hcs; have Hcm := Lib.hid hcm; have Hsm := Lib.hid hsm; have Hfl := Lib.hid hfl
  clear hP1 hS1 hM1 hP1' hS1' hM1' hPx hSx hMx hfp hfs hfm hcp hcs hcm hsm hfl
  go_wp2_with fail
  refine HP1.out.mono ?_
  rintro e w3 ⟨AP, cp, rfl, hrs, _, _, hb⟩
  have hB1 := endB hB0 hb
  have HP := Lib.hid (show RS w3 AP PL from hrs.rs)
  have f0 := (hb.cell (lt_of_cell c0)).trans c0
  have f1 := (hb.cell (lt_of_cell c1)).trans c1
  have hrp1 := hrp.below hb
  have hT1 := hT0.below hb
  clear HP1 hrs hb c0 c1 hrp hT0
  have Hc := Lib.hid (HS1.out w3 hrp1 hT1)
  go_wp2_with fail
  refine Hc.out.mono ?_
  rintro e w4 ⟨AS, cs, rfl, hrs, _, _, hb⟩
  have hB2 := endB hB1 hb
  have HSs := Lib.hid (show RS w4 AS SL from hrs.rs)
  have HP2 := Lib.hid (HP.out.below hb)
  have g0 := (hb.cell (lt_of_cell f0)).trans f0
  have g1 := (hb.cell (lt_of_cell f1)).trans f1
  have hrp2 := hrp1.below hb
  have hT2 := hT1.below hb
  clear Hc HS1 hrs hb f0 f1 hrp1 hT1 HP
  have Hc := Lib.hid (HM1.out w4 hrp2 hT2)
  go_wp2_with fail
  refine Hc.out.mono ?_
  rintro e w5 ⟨AM, cm, rfl, hrs, _, _, hb⟩
  have hB3 := endB hB2 hb
  have HM := Lib.hid (show RS w5 AM ML from hrs.rs)
  have HP3 := Lib.hid (HP2.out.below hb)
  have HS3 := Lib.hid (HSs.out.below hb)
  have f0 := (hb.cell (lt_of_cell g0)).trans g0
  have f1 := (hb.cell (lt_of_cell g1)).trans g1
  have hrp3 := hrp2.below hb
  have hT3 := hT2.below hb
  clear Hc HM1 hrs hb g0 g1 hrp2 hT2 HP2 HSs
  go_wp2_with fail
  refine (sets_any n w5 (by omega)).mono ?_
  rintro e B ⟨AX, cX, rfl, hrs, hbS⟩
  have HS := Lib.hid hrs.rs
  have HP6 := Lib.hid (HP3.out.below hbS); have HS6 := Lib.hid (HS3.out.below hbS); have HM6 := Lib.hid (HM.out.below hbS)
  have i0 := (hbS.cell (lt_of_cell f0)).trans f0
  have i1 := (hbS.cell (lt_of_cell f1)).trans f1
  have hrp6 := hrp3.below hbS
  have hT6 := hT3.below hbS
  have hB7 := endB hB3 hbS
  clear hrs hbS f0 f1 HP3 HS3 HM hrp3 hT3 hB3 hB2 hB1 hB0
  obtain ⟨S, hS⟩ : ∃ S, setsL n = S := ⟨_, rfl⟩
  rw [hS] at hsl Hsm HS Hfp Hfs Hfm Hcp Hcs Hcm ⊢
  clear hS
  obtain ⟨fp, hfp⟩ : ∃ f : List Int → Bool, (fun x => mostB n l x S) = f := ⟨_, rfl⟩
  obtain ⟨fs, hfs⟩ : ∃ f : List Int → Bool, (fun x => stabL n l x) = f := ⟨_, rfl⟩
  obtain ⟨fm, hfm⟩ : ∃ f : List Int → Bool, (fun x => wideB n l x S) = f := ⟨_, rfl⟩
  have hfp' : ∀ x, mostB n l x S = fp x := fun x => congrFun hfp x
  have hfs' : ∀ x, stabL n l x = fs x := fun x => congrFun hfs x
  have hfm' : ∀ x, wideB n l x S = fm x := fun x => congrFun hfm x
  rw [hfp] at Hcp; rw [hfs] at Hcs; rw [hfm] at Hcm
  have HFp := Lib.hid hfp'; have HFs := Lib.hid hfs'; have HFm := Lib.hid hfm'
  clear hfp hfs hfm hfp' hfs' hfm'
  go_wp2_with fail
  go_loopw [12, 13, 14, 56] (fun s12 s13 s14 j wr => ∃ k : Nat, k ≤ S.length ∧ j = .int .i64 k ∧ s12 = .int .i64 (cntX fp S k : Nat) ∧ s13 = .int .i64 (cntX fs S k : Nat) ∧ s14 = .int .i64 (cntX fm S k : Nat) ∧ Below B.heap.size B wr) (fun _ _ _ j _ => S.length - (intOf j).toNat)
  case atStart => exact ⟨0, by omega, rfl, rfl, rfl, rfl, Below.refl _ _⟩
  case round =>
    obtain ⟨k, hk, rfl, rfl, rfl, rfl, hbl⟩ := hrel
    by_cases hkl : k < S.length
    case neg =>
      have e1 : cntX fp S k = PL.length := (cntx_all fp (by omega)).trans Hcp.out
      have e2 : cntX fs S k = SL.length := (cntx_all fs (by omega)).trans Hcs.out
      have e3 : cntX fm S k = ML.length := (cntx_all fm (by omega)).trans Hcm.out
      rw [e1, e2, e3]
      have hTr := hT6.below hbl
      have hBr := endB hB7 hbl
      have r1 : ((PL.length : Int) == (PL.length : Int)) = true := beq_self_eq_true _
      have r2 : ((SL.length : Int) == (SL.length : Int)) = true := beq_self_eq_true _
      have r3 : ((ML.length : Int) == (ML.length : Int)) = true := beq_self_eq_true _
      clear e1 e2 e3
      go_wp2_with fail
      refine (awake15_any wr hTr).mono ?_
      rintro e w11 ⟨rfl, hb11⟩
      go_wp2_with fail
      go_ret
      exact ⟨rfl, endB hBr hb11⟩
    case pos =>
    have hkl' : (k : Int) < (S.length : Int) := by omega
    obtain ⟨b, o, A', c', hA, hcell, hri⟩ := (HS.out.below hbl).at_ hkl
    subst hA
    have hmem := List.getElem_mem hkl
    have hsm := Hsm.out k hkl
    have hs1 := cntx_step fp hkl; have hs2 := cntx_step fs hkl; have hs3 := cntx_step fm hkl
    have hq1 := Hfp.out _ hmem; have hq2 := Hfs.out _ hmem; have hq3 := Hfm.out _ hmem
    have hl1 : cntX fp S k ≤ 64 := Nat.le_trans (cntx_le _ _ _) hsl
    have hl2 : cntX fs S k ≤ 64 := Nat.le_trans (cntx_le _ _ _) hsl
    have hl3 : cntX fm S k ≤ 64 := Nat.le_trans (cntx_le _ _ _) hsl
    obtain ⟨x, hx⟩ : ∃ x, S[k] = x := ⟨_, rfl⟩
    rw [hx] at hcell hri hs1 hs2 hs3 hq1 hq2 hq3
    have hxl : x.length ≤ 6 := by rw [hx] at hsm; exact hsm
    rw [HFp.out] at hq1; rw [HFs.out] at hq2; rw [HFm.out] at hq3
    have g0 := (hbl.cell (lt_of_cell i0)).trans i0
    have g1 := (hbl.cell (lt_of_cell i1)).trans i1
    have hca := fun W h => aAdmissible_any AL n l cl A' x c' W (hrp6.below (endB hbl h)) HV.out.1 (hri.below h) (by omega)
    have hcb := fun W h => aIsComplete_any AL n l cl A' x c' W (hrp6.below (endB hbl h)) HV.out.1 (hri.below h) (by omega)
    have hcc := fun W h => aIsStable_any AL n l cl A' x c' W (hrp6.below (endB hbl h)) HV.out.1 (hri.below h) (by omega)
    rw [show (setB n x && soundB n l (maskN x)) = soundL n l x from rfl] at hca
    rw [show (setB n x && complB n l (maskN x)) = complL n l x from rfl] at hcb
    rw [show (setB n x && stabB n l (maskN x)) = stabL n l x from rfl, HFs.out] at hcc
    have hcr := fun W h => aRange_any AL n l cl A' x c' W (hrp6.below (endB hbl h)) HV.out.1 (hri.below h) (by omega) (hT6.below (endB hbl h))
    have hcf := fun W h => lFromSet_any AL n l cl A' x c' W (hrp6.below (endB hbl h)) HV.out (hri.below h) (by omega)
    have hm0 := most_nil n l x S; have hw0 := wide_nil n l x S
    have hrl := range_len n l x; have hfl := Hfl.out x
    obtain ⟨qa, hqa⟩ : ∃ q, soundL n l x = q := ⟨_, rfl⟩
    obtain ⟨qb, hqb⟩ : ∃ q, complL n l x = q := ⟨_, rfl⟩
    rw [hqa] at hca hm0; rw [hqb] at hcb hw0
    have Hca := Lib.hid hca; have Hcb := Lib.hid hcb; have Hcc := Lib.hid hcc; have Hcr := Lib.hid hcr; have Hcf := Lib.hid hcf; have Hm0 := Lib.hid hm0; have Hw0 := Lib.hid hw0
    have Hs1 := Lib.hid hs1; have Hs2 := Lib.hid hs2; have Hs3 := Lib.hid hs3; have Hq1 := Lib.hid hq1; have Hq2 := Lib.hid hq2; have Hq3 := Lib.hid hq3
    clear hca hcb hcc hcr hcf hm0 hw0 hs1 hs2 hs3 hq1 hq2 hq3 hqa hqb hx hmem hsm
    go_upto_region 13 with fail
    obtain ⟨W0, hW0⟩ : ∃ W0, W0 = wr := ⟨_, rfl⟩
    subst hW0
    refine wp_region_text (S := fun w' => Below W0.heap.size W0 w') (by kernel_rfl) (by kernel_rfl) (Below.refl _ _).drew ?_
    repeat (first
      | (refine TxtL.skip (by rfl) ?_; simp only [Act.put, List.setIfInBounds_toArray, List.set_cons_zero, List.set_cons_succ])
      | (refine TxtL.take' (by rfl) ?_; apply Exists.intro; refine ⟨fun w1 hS1 => ?_, ?_⟩; (focus ((have h0 := (hS1.cell (lt_of_cell g0)).trans g0); (have h1 := (hS1.cell (lt_of_cell g1)).trans g1); go_simp; with_reducible rfl)); simp only [Act.put, List.setIfInBounds_toArray, List.set_cons_zero, List.set_cons_succ])
      | (refine TxtL.call' (by rfl) ?_; apply Exists.intro; apply Exists.intro; refine ⟨fun w1 hS1 => ?_, ?_⟩; (focus (go_simp; first | with_reducible rfl | exact ⟨rfl, rfl⟩)); apply Exists.intro; refine ⟨fun w1 hS1 => ?_, ?_⟩; (focus ((have h0 := (hS1.cell (lt_of_cell g0)).trans g0); (have h1 := (hS1.cell (lt_of_cell g1)).trans g1); first | (refine (Hca.out w1 hS1).mono ?_; rintro e w' ⟨rfl, hbb⟩; exact ⟨rfl, hS1.trans (hbb.mono hS1.size)⟩) | (refine (Hcb.out w1 hS1).mono ?_; rintro e w' ⟨rfl, hbb⟩; exact ⟨rfl, hS1.trans (hbb.mono hS1.size)⟩))); simp only [Act.put, List.setIfInBounds_toArray, List.set_cons_zero, List.set_cons_succ]))
    refine TxtL.nil (fun w1 hS1 => ?_)
    have h0 := (hS1.cell (lt_of_cell g0)).trans g0
    have h1 := (hS1.cell (lt_of_cell g1)).trans g1
    clear Hca Hcb
    go_wp2_with fail
    go_loopw [17, 18, 68] (fun s17 s18 j ws => ∃ t : Nat, t ≤ S.length ∧ j = .int .i64 t ∧ s17 = .bool (mostB n l x (S.take t)) ∧ s18 = .bool (wideB n l x (S.take t)) ∧ Below W0.heap.size W0 ws) (fun _ _ j _ => S.length - (intOf j).toNat)
    case atStart => exact ⟨0, by omega, rfl, by rw [Hm0.out], by rw [Hw0.out], hS1⟩
    case round =>
      obtain ⟨t, ht, rfl, rfl, rfl, hbs⟩ := hrel
      obtain ⟨ws, hwws⟩ : ∃ q, q = wr := ⟨_, rfl⟩
      subst hwws
      have j0 := (hbs.cell (lt_of_cell g0)).trans g0
      have j1 := (hbs.cell (lt_of_cell g1)).trans g1
      by_cases htl : t < S.length
      case pos =>
        have htl' : (t : Int) < (S.length : Int) := by omega
        obtain ⟨b2, o2, A2, c2, hA, hcell2, hri2⟩ := (HS.out.below (endB hbl hbs)).at_ htl
        injection hA with hA
        injection hA with hA1 hA2 _
        subst hA1 hA2
        have hyl := Hsm.out t htl
        have hst1 := most_step (n := n) (l := l) (x := x) htl
        have hst2 := wide_step (n := n) (l := l) (x := x) htl
        obtain ⟨y, hy⟩ : ∃ y, S[t] = y := ⟨_, rfl⟩
        rw [hy] at hcell2 hri2 hst1 hst2
        have hyl' : y.length ≤ 6 := by rw [hy] at hyl; exact hyl
        have hda := fun W h => aAdmissible_any AL n l cl A2 y c2 W (hrp6.below (endB (endB hbl hbs) h)) HV.out.1 (hri2.below h) (by omega)
        have hdb := fun W h => aIsComplete_any AL n l cl A2 y c2 W (hrp6.below (endB (endB hbl hbs) h)) HV.out.1 (hri2.below h) (by omega)
        rw [show (setB n y && soundB n l (maskN y)) = soundL n l y from rfl] at hda
        rw [show (setB n y && complB n l (maskN y)) = complL n l y from rfl] at hdb
        have hdr := fun W h => aRange_any AL n l cl A2 y c2 W (hrp6.below (endB (endB hbl hbs) h)) HV.out.1 (hri2.below h) (by omega) (hT6.below (endB (endB hbl hbs) h))
        have hxr := fun W h => Hcr.out W (endB hbs h)
        have hpp := fun W h => r15Proper_any A' A2 x y c' c2 W (by omega) (by omega) (hri.below (endB hbs h)) (hri2.below h)
        have hrly := range_len n l y
        have hpr := fun C D cc cd W h1 h2 => r15Proper_any C D (rangeL n l x) (rangeL n l y) cc cd W (by omega) (by omega) h1 h2
        obtain ⟨RX, hRX⟩ : ∃ q, rangeL n l x = q := ⟨_, rfl⟩
        obtain ⟨RY, hRY⟩ : ∃ q, rangeL n l y = q := ⟨_, rfl⟩
        rw [hRX] at hxr hpr hst2; rw [hRY] at hdr hpr hst2
        obtain ⟨pq, hpq⟩ : ∃ q, withinB x y = q := ⟨_, rfl⟩
        obtain ⟨rq, hrq⟩ : ∃ q, withinB RX RY = q := ⟨_, rfl⟩
        obtain ⟨ya, hya⟩ : ∃ q, soundL n l y = q := ⟨_, rfl⟩
        obtain ⟨yb, hyb⟩ : ∃ q, complL n l y = q := ⟨_, rfl⟩
        rw [hpq] at hpp hst1; rw [hrq] at hpr hst2; rw [hya] at hda hst1; rw [hyb] at hdb hst2
        obtain ⟨mo, hmo⟩ : ∃ q, mostB n l x (S.take t) = q := ⟨_, rfl⟩
        obtain ⟨wi, hwi⟩ : ∃ q, wideB n l x (S.take t) = q := ⟨_, rfl⟩
        rw [hmo] at hst1 ⊢; rw [hwi] at hst2 ⊢
        have hda' : ∀ W, Below ws.heap.size ws W → Calls Tryd.prog 17 #[.agg #[.int .i64 n, .slice AL l.length cl], .slice A2 y.length c2] W (RetB (.bool ya) W) := hda
        have hdb' : ∀ W, Below ws.heap.size ws W → Calls Tryd.prog 22 #[.agg #[.int .i64 n, .slice AL l.length cl], .slice A2 y.length c2] W (RetB (.bool yb) W) := hdb
        have hdr' : ∀ W, Below ws.heap.size ws W → Calls Tryd.prog 24 #[.agg #[.int .i64 n, .slice AL l.length cl], .slice A2 y.length c2] W (RetI RY W) := hdr
        have hxr' : ∀ W, Below ws.heap.size ws W → Calls Tryd.prog 24 #[.agg #[.int .i64 n, .slice AL l.length cl], .slice A' x.length c'] W (RetI RX W) := hxr
        have hpp' : ∀ W, Below ws.heap.size ws W → Calls Tryd.prog 23 #[.slice A' x.length c', .slice A2 y.length c2] W (Ret (.bool pq) W) := hpp
        have hpr' : ∀ C D (cc cd : Nat) W, RI W C RX → RI W D RY → Calls Tryd.prog 23 #[.slice C RX.length cc, .slice D RY.length cd] W (Ret (.bool rq) W) := hpr
        have Hda := Lib.hid hda'; have Hdb := Lib.hid hdb'; have Hdr := Lib.hid hdr'; have Hxr := Lib.hid hxr'; have Hpp := Lib.hid hpp'; have Hpr := Lib.hid hpr'
        have Hst1 := Lib.hid hst1; have Hst2 := Lib.hid hst2
        clear hda hdb hdr hxr hpp hpr hda' hdb' hdr' hxr' hpp' hpr' hst1 hst2 hRX hRY hpq hrq hya hyb hmo hwi hyl hy h0 h1 hrly hrl
        cases mo
        case false =>
          cases wi
          case false =>
            go_upto_region 18 with fail
            obtain ⟨W0, hW0⟩ : ∃ q, q = ws := ⟨_, rfl⟩
            subst hW0
            refine wp_region_text (S := fun w' => Below W0.heap.size W0 w') (by kernel_rfl) (by kernel_rfl) (Below.refl _ _).drew ?_
            repeat (first
              | (refine TxtL.skip (by rfl) ?_; simp only [Act.put, List.setIfInBounds_toArray, List.set_cons_zero, List.set_cons_succ])
              | (refine TxtL.take' (by rfl) ?_; apply Exists.intro; refine ⟨fun w1 hS1 => ?_, ?_⟩; (focus (skip; go_simp; with_reducible rfl)); simp only [Act.put, List.setIfInBounds_toArray, List.set_cons_zero, List.set_cons_succ]))
            refine TxtL.nil (fun w1 hS1 => ?_)
            go_wp2_with fail
            go_roundw
            case rel => exact ⟨t + 1, by omega, by go_num, by rw [Hst1.out]; rfl, by rw [Hst2.out]; rfl, endB hbs hS1⟩
            case measure => simp [intOf]; omega
          case true =>
          cases rq
          case false =>
            go_upto_region 18 with fail
            have q0 := j0
            have q1 := j1
            have hbw : Below ws.heap.size ws ws := Below.refl _ _
            refine wp_region_textB [4, 7, 8] (fun w' => Below ws.heap.size ws w') (fun _ => True) (by kernel_rfl) (by kernel_rfl) (by kernel_rfl) (Below.refl _ _).drew trivial ?_
            repeat (first
              | (refine TxtBL.skip (by rfl) ?_; simp only [Act.put, List.setIfInBounds_toArray, List.set_cons_zero, List.set_cons_succ])
              | (refine TxtBL.take (by rfl) (by rfl) ?_; apply Exists.intro; refine ⟨fun w1 hS1 => ?_, ?_⟩; (focus ((have v0 := (hS1.cell (lt_of_cell q0)).trans q0); (have v1 := (hS1.cell (lt_of_cell q1)).trans q1); go_simp; with_reducible rfl)); simp only [Act.put, List.setIfInBounds_toArray, List.set_cons_zero, List.set_cons_succ])
              | (refine TxtBL.takeE (by rfl) (by rfl) ?_; apply Exists.intro; refine ⟨fun w1 hS1 => ?_, ?_⟩; (focus ((have v0 := (hS1.cell (lt_of_cell q0)).trans q0); (have v1 := (hS1.cell (lt_of_cell q1)).trans q1); go_simp; with_reducible rfl)); simp only [Act.put, List.setIfInBounds_toArray, List.set_cons_zero, List.set_cons_succ]))
            refine TxtBL.call (f := 24) (args := #[.agg #[.int .i64 n, .slice AL l.length cl], .slice A' x.length c']) (fun v => ∃ A c, v = Value.slice A RX.length c) (fun v w' => ∃ A c, v = Value.slice A RX.length c ∧ RI w' A RX) (by rfl) (by rfl) ⟨_, none, 0, rfl⟩ (fun w1 hS1 hJ1 => by go_simp) (fun w1 hS1 hJ1 => ?_) ?_
            · refine (Hxr.out w1 (endB hbw hS1)).mono ?_
              rintro e w' ⟨A', c', rfl, ho, hri, _, hb⟩
              exact ⟨_, rfl, endB hS1 hb, ⟨A', c', rfl⟩, ⟨A', c', rfl, hri⟩⟩
            rintro v8 ⟨A8, c8, rfl⟩
            simp only [Act.put, List.setIfInBounds_toArray, List.set_cons_zero, List.set_cons_succ]
            repeat (first
              | (refine TxtBL.skip (by rfl) ?_; simp only [Act.put, List.setIfInBounds_toArray, List.set_cons_zero, List.set_cons_succ])
              | (refine TxtBL.take (by rfl) (by rfl) ?_; apply Exists.intro; refine ⟨fun w1 hS1 => ?_, ?_⟩; (focus ((have v0 := (hS1.cell (lt_of_cell q0)).trans q0); (have v1 := (hS1.cell (lt_of_cell q1)).trans q1); go_simp; with_reducible rfl)); simp only [Act.put, List.setIfInBounds_toArray, List.set_cons_zero, List.set_cons_succ])
              | (refine TxtBL.takeE (by rfl) (by rfl) ?_; apply Exists.intro; refine ⟨fun w1 hS1 => ?_, ?_⟩; (focus ((have v0 := (hS1.cell (lt_of_cell q0)).trans q0); (have v1 := (hS1.cell (lt_of_cell q1)).trans q1); go_simp; with_reducible rfl)); simp only [Act.put, List.setIfInBounds_toArray, List.set_cons_zero, List.set_cons_succ]))
            refine TxtBL.call (f := 24) (args := #[.agg #[.int .i64 n, .slice AL l.length cl], .slice A2 y.length c2]) (fun v => ∃ A c, v = Value.slice A RY.length c) (fun v w' => RI w' A8 RX ∧ ∃ A c, v = Value.slice A RY.length c ∧ RI w' A RY) (by rfl) (by rfl) ⟨_, none, 0, rfl⟩ (fun w1 hS1 hJ1 => by go_simp) (fun w1 hS1 hJ1 => ?_) ?_
            · obtain ⟨A9, c9, he, hri8⟩ := hJ1
              have heA : A8 = A9 := by simp at he; exact he.1
              subst heA
              refine (Hdr.out w1 (endB hbw hS1)).mono ?_
              rintro e w' ⟨A', c', rfl, ho, hri, _, hb⟩
              exact ⟨_, rfl, endB hS1 hb, ⟨A', c', rfl⟩, ⟨hri8.below hb, A', c', rfl, hri⟩⟩
            rintro v9 ⟨A9, c9, rfl⟩
            simp only [Act.put, List.setIfInBounds_toArray, List.set_cons_zero, List.set_cons_succ]
            repeat (first
              | (refine TxtBL.skip (by rfl) ?_; simp only [Act.put, List.setIfInBounds_toArray, List.set_cons_zero, List.set_cons_succ])
              | (refine TxtBL.take (by rfl) (by rfl) ?_; apply Exists.intro; refine ⟨fun w1 hS1 => ?_, ?_⟩; (focus ((have v0 := (hS1.cell (lt_of_cell q0)).trans q0); (have v1 := (hS1.cell (lt_of_cell q1)).trans q1); go_simp; with_reducible rfl)); simp only [Act.put, List.setIfInBounds_toArray, List.set_cons_zero, List.set_cons_succ])
              | (refine TxtBL.takeE (by rfl) (by rfl) ?_; apply Exists.intro; refine ⟨fun w1 hS1 => ?_, ?_⟩; (focus ((have v0 := (hS1.cell (lt_of_cell q0)).trans q0); (have v1 := (hS1.cell (lt_of_cell q1)).trans q1); go_simp; with_reducible rfl)); simp only [Act.put, List.setIfInBounds_toArray, List.set_cons_zero, List.set_cons_succ]))
            refine TxtBL.call (f := 23) (args := #[.slice A8 RX.length c8, .slice A9 RY.length c9]) (fun v => v = Value.bool false) (fun v w' => True) (by rfl) (by rfl) ⟨_, rfl⟩ (fun w1 hS1 hJ1 => by go_simp) (fun w1 hS1 hJ1 => ?_) ?_
            · obtain ⟨hri8, A10, c10, he, hri9⟩ := hJ1
              have heA : A9 = A10 := by simp at he; exact he.1
              subst heA
              refine (Hpr.out A8 A9 c8 c9 w1 hri8 hri9).mono ?_
              rintro e w' hret
              obtain ⟨rfl, hw'⟩ := hret
              subst hw'
              exact ⟨_, rfl, hS1, rfl, trivial⟩
            rintro v10 rfl
            simp only [Act.put, List.setIfInBounds_toArray, List.set_cons_zero, List.set_cons_succ]
            repeat (first
              | (refine TxtBL.skip (by rfl) ?_; simp only [Act.put, List.setIfInBounds_toArray, List.set_cons_zero, List.set_cons_succ])
              | (refine TxtBL.take (by rfl) (by rfl) ?_; apply Exists.intro; refine ⟨fun w1 hS1 => ?_, ?_⟩; (focus ((have v0 := (hS1.cell (lt_of_cell q0)).trans q0); (have v1 := (hS1.cell (lt_of_cell q1)).trans q1); go_simp; with_reducible rfl)); simp only [Act.put, List.setIfInBounds_toArray, List.set_cons_zero, List.set_cons_succ])
              | (refine TxtBL.takeE (by rfl) (by rfl) ?_; apply Exists.intro; refine ⟨fun w1 hS1 => ?_, ?_⟩; (focus ((have v0 := (hS1.cell (lt_of_cell q0)).trans q0); (have v1 := (hS1.cell (lt_of_cell q1)).trans q1); go_simp; with_reducible rfl)); simp only [Act.put, List.setIfInBounds_toArray, List.set_cons_zero, List.set_cons_succ]))
            refine TxtBL.nil (fun W1 hS hJ => ?_)
            clear hJ
            go_wp2_with fail
            go_roundw
            case rel => exact ⟨t + 1, by omega, by go_num, by rw [Hst1.out]; rfl, by rw [Hst2.out]; rfl, endB hbs (endB hbw hS)⟩
            case measure => simp [intOf]; omega
          case true =>
            go_upto_region 18 with fail
            have q0 := j0
            have q1 := j1
            have hbw : Below ws.heap.size ws ws := Below.refl _ _
            refine wp_region_textB [4, 7, 8, 9, 12] (fun w' => Below ws.heap.size ws w') (fun _ => True) (by kernel_rfl) (by kernel_rfl) (by kernel_rfl) (Below.refl _ _).drew trivial ?_
            repeat (first
              | (refine TxtBL.skip (by rfl) ?_; simp only [Act.put, List.setIfInBounds_toArray, List.set_cons_zero, List.set_cons_succ])
              | (refine TxtBL.take (by rfl) (by rfl) ?_; apply Exists.intro; refine ⟨fun w1 hS1 => ?_, ?_⟩; (focus ((have v0 := (hS1.cell (lt_of_cell q0)).trans q0); (have v1 := (hS1.cell (lt_of_cell q1)).trans q1); go_simp; with_reducible rfl)); simp only [Act.put, List.setIfInBounds_toArray, List.set_cons_zero, List.set_cons_succ])
              | (refine TxtBL.takeE (by rfl) (by rfl) ?_; apply Exists.intro; refine ⟨fun w1 hS1 => ?_, ?_⟩; (focus ((have v0 := (hS1.cell (lt_of_cell q0)).trans q0); (have v1 := (hS1.cell (lt_of_cell q1)).trans q1); go_simp; with_reducible rfl)); simp only [Act.put, List.setIfInBounds_toArray, List.set_cons_zero, List.set_cons_succ]))
            refine TxtBL.call (f := 24) (args := #[.agg #[.int .i64 n, .slice AL l.length cl], .slice A' x.length c']) (fun v => ∃ A c, v = Value.slice A RX.length c) (fun v w' => ∃ A c, v = Value.slice A RX.length c ∧ RI w' A RX) (by rfl) (by rfl) ⟨_, none, 0, rfl⟩ (fun w1 hS1 hJ1 => by go_simp) (fun w1 hS1 hJ1 => ?_) ?_
            · refine (Hxr.out w1 (endB hbw hS1)).mono ?_
              rintro e w' ⟨A', c', rfl, ho, hri, _, hb⟩
              exact ⟨_, rfl, endB hS1 hb, ⟨A', c', rfl⟩, ⟨A', c', rfl, hri⟩⟩
            rintro v8 ⟨A8, c8, rfl⟩
            simp only [Act.put, List.setIfInBounds_toArray, List.set_cons_zero, List.set_cons_succ]
            repeat (first
              | (refine TxtBL.skip (by rfl) ?_; simp only [Act.put, List.setIfInBounds_toArray, List.set_cons_zero, List.set_cons_succ])
              | (refine TxtBL.take (by rfl) (by rfl) ?_; apply Exists.intro; refine ⟨fun w1 hS1 => ?_, ?_⟩; (focus ((have v0 := (hS1.cell (lt_of_cell q0)).trans q0); (have v1 := (hS1.cell (lt_of_cell q1)).trans q1); go_simp; with_reducible rfl)); simp only [Act.put, List.setIfInBounds_toArray, List.set_cons_zero, List.set_cons_succ])
              | (refine TxtBL.takeE (by rfl) (by rfl) ?_; apply Exists.intro; refine ⟨fun w1 hS1 => ?_, ?_⟩; (focus ((have v0 := (hS1.cell (lt_of_cell q0)).trans q0); (have v1 := (hS1.cell (lt_of_cell q1)).trans q1); go_simp; with_reducible rfl)); simp only [Act.put, List.setIfInBounds_toArray, List.set_cons_zero, List.set_cons_succ]))
            refine TxtBL.call (f := 24) (args := #[.agg #[.int .i64 n, .slice AL l.length cl], .slice A2 y.length c2]) (fun v => ∃ A c, v = Value.slice A RY.length c) (fun v w' => RI w' A8 RX ∧ ∃ A c, v = Value.slice A RY.length c ∧ RI w' A RY) (by rfl) (by rfl) ⟨_, none, 0, rfl⟩ (fun w1 hS1 hJ1 => by go_simp) (fun w1 hS1 hJ1 => ?_) ?_
            · obtain ⟨A9, c9, he, hri8⟩ := hJ1
              have heA : A8 = A9 := by simp at he; exact he.1
              subst heA
              refine (Hdr.out w1 (endB hbw hS1)).mono ?_
              rintro e w' ⟨A', c', rfl, ho, hri, _, hb⟩
              exact ⟨_, rfl, endB hS1 hb, ⟨A', c', rfl⟩, ⟨hri8.below hb, A', c', rfl, hri⟩⟩
            rintro v9 ⟨A9, c9, rfl⟩
            simp only [Act.put, List.setIfInBounds_toArray, List.set_cons_zero, List.set_cons_succ]
            repeat (first
              | (refine TxtBL.skip (by rfl) ?_; simp only [Act.put, List.setIfInBounds_toArray, List.set_cons_zero, List.set_cons_succ])
              | (refine TxtBL.take (by rfl) (by rfl) ?_; apply Exists.intro; refine ⟨fun w1 hS1 => ?_, ?_⟩; (focus ((have v0 := (hS1.cell (lt_of_cell q0)).trans q0); (have v1 := (hS1.cell (lt_of_cell q1)).trans q1); go_simp; with_reducible rfl)); simp only [Act.put, List.setIfInBounds_toArray, List.set_cons_zero, List.set_cons_succ])
              | (refine TxtBL.takeE (by rfl) (by rfl) ?_; apply Exists.intro; refine ⟨fun w1 hS1 => ?_, ?_⟩; (focus ((have v0 := (hS1.cell (lt_of_cell q0)).trans q0); (have v1 := (hS1.cell (lt_of_cell q1)).trans q1); go_simp; with_reducible rfl)); simp only [Act.put, List.setIfInBounds_toArray, List.set_cons_zero, List.set_cons_succ]))
            refine TxtBL.call (f := 23) (args := #[.slice A8 RX.length c8, .slice A9 RY.length c9]) (fun v => v = Value.bool true) (fun v w' => True) (by rfl) (by rfl) ⟨_, rfl⟩ (fun w1 hS1 hJ1 => by go_simp) (fun w1 hS1 hJ1 => ?_) ?_
            · obtain ⟨hri8, A10, c10, he, hri9⟩ := hJ1
              have heA : A9 = A10 := by simp at he; exact he.1
              subst heA
              refine (Hpr.out A8 A9 c8 c9 w1 hri8 hri9).mono ?_
              rintro e w' hret
              obtain ⟨rfl, hw'⟩ := hret
              subst hw'
              exact ⟨_, rfl, hS1, rfl, trivial⟩
            rintro v10 rfl
            simp only [Act.put, List.setIfInBounds_toArray, List.set_cons_zero, List.set_cons_succ]
            repeat (first
              | (refine TxtBL.skip (by rfl) ?_; simp only [Act.put, List.setIfInBounds_toArray, List.set_cons_zero, List.set_cons_succ])
              | (refine TxtBL.take (by rfl) (by rfl) ?_; apply Exists.intro; refine ⟨fun w1 hS1 => ?_, ?_⟩; (focus ((have v0 := (hS1.cell (lt_of_cell q0)).trans q0); (have v1 := (hS1.cell (lt_of_cell q1)).trans q1); go_simp; with_reducible rfl)); simp only [Act.put, List.setIfInBounds_toArray, List.set_cons_zero, List.set_cons_succ])
              | (refine TxtBL.takeE (by rfl) (by rfl) ?_; apply Exists.intro; refine ⟨fun w1 hS1 => ?_, ?_⟩; (focus ((have v0 := (hS1.cell (lt_of_cell q0)).trans q0); (have v1 := (hS1.cell (lt_of_cell q1)).trans q1); go_simp; with_reducible rfl)); simp only [Act.put, List.setIfInBounds_toArray, List.set_cons_zero, List.set_cons_succ]))
            refine TxtBL.call (f := 22) (args := #[.agg #[.int .i64 n, .slice AL l.length cl], .slice A2 y.length c2]) (fun v => v = Value.bool yb) (fun v w' => True) (by rfl) (by rfl) ⟨_, rfl⟩ (fun w1 hS1 hJ1 => by go_simp) (fun w1 hS1 hJ1 => ?_) ?_
            · refine (Hdb.out w1 (endB hbw hS1)).mono ?_
              rintro e w' ⟨rfl, hb⟩
              exact ⟨_, rfl, endB hS1 hb, rfl, trivial⟩
            rintro v11 rfl
            simp only [Act.put, List.setIfInBounds_toArray, List.set_cons_zero, List.set_cons_succ]
            repeat (first
              | (refine TxtBL.skip (by rfl) ?_; simp only [Act.put, List.setIfInBounds_toArray, List.set_cons_zero, List.set_cons_succ])
              | (refine TxtBL.take (by rfl) (by rfl) ?_; apply Exists.intro; refine ⟨fun w1 hS1 => ?_, ?_⟩; (focus ((have v0 := (hS1.cell (lt_of_cell q0)).trans q0); (have v1 := (hS1.cell (lt_of_cell q1)).trans q1); go_simp; with_reducible rfl)); simp only [Act.put, List.setIfInBounds_toArray, List.set_cons_zero, List.set_cons_succ])
              | (refine TxtBL.takeE (by rfl) (by rfl) ?_; apply Exists.intro; refine ⟨fun w1 hS1 => ?_, ?_⟩; (focus ((have v0 := (hS1.cell (lt_of_cell q0)).trans q0); (have v1 := (hS1.cell (lt_of_cell q1)).trans q1); go_simp; with_reducible rfl)); simp only [Act.put, List.setIfInBounds_toArray, List.set_cons_zero, List.set_cons_succ]))
            refine TxtBL.nil (fun W1 hS hJ => ?_)
            clear hJ
            go_wp2_with fail
            go_roundw
            case rel => exact ⟨t + 1, by omega, by go_num, by rw [Hst1.out]; rfl, by rw [Hst2.out]; rfl, endB hbs (endB hbw hS)⟩
            case measure => simp [intOf]; omega
        case true =>
        cases pq
        case false =>
          go_wp2_with fail
          refine (Hpp.out ws (Below.refl _ _)).mono ?_
          rintro e w12 hret
          obtain ⟨rfl, hw12⟩ := hret
          subst hw12
          cases wi
          case false =>
            go_upto_region 18 with fail
            obtain ⟨W0, hW0⟩ : ∃ q, q = ws := ⟨_, rfl⟩
            subst hW0
            refine wp_region_text (S := fun w' => Below W0.heap.size W0 w') (by kernel_rfl) (by kernel_rfl) (Below.refl _ _).drew ?_
            repeat (first
              | (refine TxtL.skip (by rfl) ?_; simp only [Act.put, List.setIfInBounds_toArray, List.set_cons_zero, List.set_cons_succ])
              | (refine TxtL.take' (by rfl) ?_; apply Exists.intro; refine ⟨fun w1 hS1 => ?_, ?_⟩; (focus (skip; go_simp; with_reducible rfl)); simp only [Act.put, List.setIfInBounds_toArray, List.set_cons_zero, List.set_cons_succ]))
            refine TxtL.nil (fun w1 hS1 => ?_)
            go_wp2_with fail
            go_roundw
            case rel => exact ⟨t + 1, by omega, by go_num, by rw [Hst1.out]; rfl, by rw [Hst2.out]; rfl, endB hbs hS1⟩
            case measure => simp [intOf]; omega
          case true =>
          cases rq
          case false =>
            go_upto_region 18 with fail
            have q0 := j0
            have q1 := j1
            have hbw : Below ws.heap.size ws ws := Below.refl _ _
            refine wp_region_textB [4, 7, 8] (fun w' => Below ws.heap.size ws w') (fun _ => True) (by kernel_rfl) (by kernel_rfl) (by kernel_rfl) (Below.refl _ _).drew trivial ?_
            repeat (first
              | (refine TxtBL.skip (by rfl) ?_; simp only [Act.put, List.setIfInBounds_toArray, List.set_cons_zero, List.set_cons_succ])
              | (refine TxtBL.take (by rfl) (by rfl) ?_; apply Exists.intro; refine ⟨fun w1 hS1 => ?_, ?_⟩; (focus ((have v0 := (hS1.cell (lt_of_cell q0)).trans q0); (have v1 := (hS1.cell (lt_of_cell q1)).trans q1); go_simp; with_reducible rfl)); simp only [Act.put, List.setIfInBounds_toArray, List.set_cons_zero, List.set_cons_succ])
              | (refine TxtBL.takeE (by rfl) (by rfl) ?_; apply Exists.intro; refine ⟨fun w1 hS1 => ?_, ?_⟩; (focus ((have v0 := (hS1.cell (lt_of_cell q0)).trans q0); (have v1 := (hS1.cell (lt_of_cell q1)).trans q1); go_simp; with_reducible rfl)); simp only [Act.put, List.setIfInBounds_toArray, List.set_cons_zero, List.set_cons_succ]))
            refine TxtBL.call (f := 24) (args := #[.agg #[.int .i64 n, .slice AL l.length cl], .slice A' x.length c']) (fun v => ∃ A c, v = Value.slice A RX.length c) (fun v w' => ∃ A c, v = Value.slice A RX.length c ∧ RI w' A RX) (by rfl) (by rfl) ⟨_, none, 0, rfl⟩ (fun w1 hS1 hJ1 => by go_simp) (fun w1 hS1 hJ1 => ?_) ?_
            · refine (Hxr.out w1 (endB hbw hS1)).mono ?_
              rintro e w' ⟨A', c', rfl, ho, hri, _, hb⟩
              exact ⟨_, rfl, endB hS1 hb, ⟨A', c', rfl⟩, ⟨A', c', rfl, hri⟩⟩
            rintro v8 ⟨A8, c8, rfl⟩
            simp only [Act.put, List.setIfInBounds_toArray, List.set_cons_zero, List.set_cons_succ]
            repeat (first
              | (refine TxtBL.skip (by rfl) ?_; simp only [Act.put, List.setIfInBounds_toArray, List.set_cons_zero, List.set_cons_succ])
              | (refine TxtBL.take (by rfl) (by rfl) ?_; apply Exists.intro; refine ⟨fun w1 hS1 => ?_, ?_⟩; (focus ((have v0 := (hS1.cell (lt_of_cell q0)).trans q0); (have v1 := (hS1.cell (lt_of_cell q1)).trans q1); go_simp; with_reducible rfl)); simp only [Act.put, List.setIfInBounds_toArray, List.set_cons_zero, List.set_cons_succ])
              | (refine TxtBL.takeE (by rfl) (by rfl) ?_; apply Exists.intro; refine ⟨fun w1 hS1 => ?_, ?_⟩; (focus ((have v0 := (hS1.cell (lt_of_cell q0)).trans q0); (have v1 := (hS1.cell (lt_of_cell q1)).trans q1); go_simp; with_reducible rfl)); simp only [Act.put, List.setIfInBounds_toArray, List.set_cons_zero, List.set_cons_succ]))
            refine TxtBL.call (f := 24) (args := #[.agg #[.int .i64 n, .slice AL l.length cl], .slice A2 y.length c2]) (fun v => ∃ A c, v = Value.slice A RY.length c) (fun v w' => RI w' A8 RX ∧ ∃ A c, v = Value.slice A RY.length c ∧ RI w' A RY) (by rfl) (by rfl) ⟨_, none, 0, rfl⟩ (fun w1 hS1 hJ1 => by go_simp) (fun w1 hS1 hJ1 => ?_) ?_
            · obtain ⟨A9, c9, he, hri8⟩ := hJ1
              have heA : A8 = A9 := by simp at he; exact he.1
              subst heA
              refine (Hdr.out w1 (endB hbw hS1)).mono ?_
              rintro e w' ⟨A', c', rfl, ho, hri, _, hb⟩
              exact ⟨_, rfl, endB hS1 hb, ⟨A', c', rfl⟩, ⟨hri8.below hb, A', c', rfl, hri⟩⟩
            rintro v9 ⟨A9, c9, rfl⟩
            simp only [Act.put, List.setIfInBounds_toArray, List.set_cons_zero, List.set_cons_succ]
            repeat (first
              | (refine TxtBL.skip (by rfl) ?_; simp only [Act.put, List.setIfInBounds_toArray, List.set_cons_zero, List.set_cons_succ])
              | (refine TxtBL.take (by rfl) (by rfl) ?_; apply Exists.intro; refine ⟨fun w1 hS1 => ?_, ?_⟩; (focus ((have v0 := (hS1.cell (lt_of_cell q0)).trans q0); (have v1 := (hS1.cell (lt_of_cell q1)).trans q1); go_simp; with_reducible rfl)); simp only [Act.put, List.setIfInBounds_toArray, List.set_cons_zero, List.set_cons_succ])
              | (refine TxtBL.takeE (by rfl) (by rfl) ?_; apply Exists.intro; refine ⟨fun w1 hS1 => ?_, ?_⟩; (focus ((have v0 := (hS1.cell (lt_of_cell q0)).trans q0); (have v1 := (hS1.cell (lt_of_cell q1)).trans q1); go_simp; with_reducible rfl)); simp only [Act.put, List.setIfInBounds_toArray, List.set_cons_zero, List.set_cons_succ]))
            refine TxtBL.call (f := 23) (args := #[.slice A8 RX.length c8, .slice A9 RY.length c9]) (fun v => v = Value.bool false) (fun v w' => True) (by rfl) (by rfl) ⟨_, rfl⟩ (fun w1 hS1 hJ1 => by go_simp) (fun w1 hS1 hJ1 => ?_) ?_
            · obtain ⟨hri8, A10, c10, he, hri9⟩ := hJ1
              have heA : A9 = A10 := by simp at he; exact he.1
              subst heA
              refine (Hpr.out A8 A9 c8 c9 w1 hri8 hri9).mono ?_
              rintro e w' hret
              obtain ⟨rfl, hw'⟩ := hret
              subst hw'
              exact ⟨_, rfl, hS1, rfl, trivial⟩
            rintro v10 rfl
            simp only [Act.put, List.setIfInBounds_toArray, List.set_cons_zero, List.set_cons_succ]
            repeat (first
              | (refine TxtBL.skip (by rfl) ?_; simp only [Act.put, List.setIfInBounds_toArray, List.set_cons_zero, List.set_cons_succ])
              | (refine TxtBL.take (by rfl) (by rfl) ?_; apply Exists.intro; refine ⟨fun w1 hS1 => ?_, ?_⟩; (focus ((have v0 := (hS1.cell (lt_of_cell q0)).trans q0); (have v1 := (hS1.cell (lt_of_cell q1)).trans q1); go_simp; with_reducible rfl)); simp only [Act.put, List.setIfInBounds_toArray, List.set_cons_zero, List.set_cons_succ])
              | (refine TxtBL.takeE (by rfl) (by rfl) ?_; apply Exists.intro; refine ⟨fun w1 hS1 => ?_, ?_⟩; (focus ((have v0 := (hS1.cell (lt_of_cell q0)).trans q0); (have v1 := (hS1.cell (lt_of_cell q1)).trans q1); go_simp; with_reducible rfl)); simp only [Act.put, List.setIfInBounds_toArray, List.set_cons_zero, List.set_cons_succ]))
            refine TxtBL.nil (fun W1 hS hJ => ?_)
            clear hJ
            go_wp2_with fail
            go_roundw
            case rel => exact ⟨t + 1, by omega, by go_num, by rw [Hst1.out]; rfl, by rw [Hst2.out]; rfl, endB hbs (endB hbw hS)⟩
            case measure => simp [intOf]; omega
          case true =>
            go_upto_region 18 with fail
            have q0 := j0
            have q1 := j1
            have hbw : Below ws.heap.size ws ws := Below.refl _ _
            refine wp_region_textB [4, 7, 8, 9, 12] (fun w' => Below ws.heap.size ws w') (fun _ => True) (by kernel_rfl) (by kernel_rfl) (by kernel_rfl) (Below.refl _ _).drew trivial ?_
            repeat (first
              | (refine TxtBL.skip (by rfl) ?_; simp only [Act.put, List.setIfInBounds_toArray, List.set_cons_zero, List.set_cons_succ])
              | (refine TxtBL.take (by rfl) (by rfl) ?_; apply Exists.intro; refine ⟨fun w1 hS1 => ?_, ?_⟩; (focus ((have v0 := (hS1.cell (lt_of_cell q0)).trans q0); (have v1 := (hS1.cell (lt_of_cell q1)).trans q1); go_simp; with_reducible rfl)); simp only [Act.put, List.setIfInBounds_toArray, List.set_cons_zero, List.set_cons_succ])
              | (refine TxtBL.takeE (by rfl) (by rfl) ?_; apply Exists.intro; refine ⟨fun w1 hS1 => ?_, ?_⟩; (focus ((have v0 := (hS1.cell (lt_of_cell q0)).trans q0); (have v1 := (hS1.cell (lt_of_cell q1)).trans q1); go_simp; with_reducible rfl)); simp only [Act.put, List.setIfInBounds_toArray, List.set_cons_zero, List.set_cons_succ]))
            refine TxtBL.call (f := 24) (args := #[.agg #[.int .i64 n, .slice AL l.length cl], .slice A' x.length c']) (fun v => ∃ A c, v = Value.slice A RX.length c) (fun v w' => ∃ A c, v = Value.slice A RX.length c ∧ RI w' A RX) (by rfl) (by rfl) ⟨_, none, 0, rfl⟩ (fun w1 hS1 hJ1 => by go_simp) (fun w1 hS1 hJ1 => ?_) ?_
            · refine (Hxr.out w1 (endB hbw hS1)).mono ?_
              rintro e w' ⟨A', c', rfl, ho, hri, _, hb⟩
              exact ⟨_, rfl, endB hS1 hb, ⟨A', c', rfl⟩, ⟨A', c', rfl, hri⟩⟩
            rintro v8 ⟨A8, c8, rfl⟩
            simp only [Act.put, List.setIfInBounds_toArray, List.set_cons_zero, List.set_cons_succ]
            repeat (first
              | (refine TxtBL.skip (by rfl) ?_; simp only [Act.put, List.setIfInBounds_toArray, List.set_cons_zero, List.set_cons_succ])
              | (refine TxtBL.take (by rfl) (by rfl) ?_; apply Exists.intro; refine ⟨fun w1 hS1 => ?_, ?_⟩; (focus ((have v0 := (hS1.cell (lt_of_cell q0)).trans q0); (have v1 := (hS1.cell (lt_of_cell q1)).trans q1); go_simp; with_reducible rfl)); simp only [Act.put, List.setIfInBounds_toArray, List.set_cons_zero, List.set_cons_succ])
              | (refine TxtBL.takeE (by rfl) (by rfl) ?_; apply Exists.intro; refine ⟨fun w1 hS1 => ?_, ?_⟩; (focus ((have v0 := (hS1.cell (lt_of_cell q0)).trans q0); (have v1 := (hS1.cell (lt_of_cell q1)).trans q1); go_simp; with_reducible rfl)); simp only [Act.put, List.setIfInBounds_toArray, List.set_cons_zero, List.set_cons_succ]))
            refine TxtBL.call (f := 24) (args := #[.agg #[.int .i64 n, .slice AL l.length cl], .slice A2 y.length c2]) (fun v => ∃ A c, v = Value.slice A RY.length c) (fun v w' => RI w' A8 RX ∧ ∃ A c, v = Value.slice A RY.length c ∧ RI w' A RY) (by rfl) (by rfl) ⟨_, none, 0, rfl⟩ (fun w1 hS1 hJ1 => by go_simp) (fun w1 hS1 hJ1 => ?_) ?_
            · obtain ⟨A9, c9, he, hri8⟩ := hJ1
              have heA : A8 = A9 := by simp at he; exact he.1
              subst heA
              refine (Hdr.out w1 (endB hbw hS1)).mono ?_
              rintro e w' ⟨A', c', rfl, ho, hri, _, hb⟩
              exact ⟨_, rfl, endB hS1 hb, ⟨A', c', rfl⟩, ⟨hri8.below hb, A', c', rfl, hri⟩⟩
            rintro v9 ⟨A9, c9, rfl⟩
            simp only [Act.put, List.setIfInBounds_toArray, List.set_cons_zero, List.set_cons_succ]
            repeat (first
              | (refine TxtBL.skip (by rfl) ?_; simp only [Act.put, List.setIfInBounds_toArray, List.set_cons_zero, List.set_cons_succ])
              | (refine TxtBL.take (by rfl) (by rfl) ?_; apply Exists.intro; refine ⟨fun w1 hS1 => ?_, ?_⟩; (focus ((have v0 := (hS1.cell (lt_of_cell q0)).trans q0); (have v1 := (hS1.cell (lt_of_cell q1)).trans q1); go_simp; with_reducible rfl)); simp only [Act.put, List.setIfInBounds_toArray, List.set_cons_zero, List.set_cons_succ])
              | (refine TxtBL.takeE (by rfl) (by rfl) ?_; apply Exists.intro; refine ⟨fun w1 hS1 => ?_, ?_⟩; (focus ((have v0 := (hS1.cell (lt_of_cell q0)).trans q0); (have v1 := (hS1.cell (lt_of_cell q1)).trans q1); go_simp; with_reducible rfl)); simp only [Act.put, List.setIfInBounds_toArray, List.set_cons_zero, List.set_cons_succ]))
            refine TxtBL.call (f := 23) (args := #[.slice A8 RX.length c8, .slice A9 RY.length c9]) (fun v => v = Value.bool true) (fun v w' => True) (by rfl) (by rfl) ⟨_, rfl⟩ (fun w1 hS1 hJ1 => by go_simp) (fun w1 hS1 hJ1 => ?_) ?_
            · obtain ⟨hri8, A10, c10, he, hri9⟩ := hJ1
              have heA : A9 = A10 := by simp at he; exact he.1
              subst heA
              refine (Hpr.out A8 A9 c8 c9 w1 hri8 hri9).mono ?_
              rintro e w' hret
              obtain ⟨rfl, hw'⟩ := hret
              subst hw'
              exact ⟨_, rfl, hS1, rfl, trivial⟩
            rintro v10 rfl
            simp only [Act.put, List.setIfInBounds_toArray, List.set_cons_zero, List.set_cons_succ]
            repeat (first
              | (refine TxtBL.skip (by rfl) ?_; simp only [Act.put, List.setIfInBounds_toArray, List.set_cons_zero, List.set_cons_succ])
              | (refine TxtBL.take (by rfl) (by rfl) ?_; apply Exists.intro; refine ⟨fun w1 hS1 => ?_, ?_⟩; (focus ((have v0 := (hS1.cell (lt_of_cell q0)).trans q0); (have v1 := (hS1.cell (lt_of_cell q1)).trans q1); go_simp; with_reducible rfl)); simp only [Act.put, List.setIfInBounds_toArray, List.set_cons_zero, List.set_cons_succ])
              | (refine TxtBL.takeE (by rfl) (by rfl) ?_; apply Exists.intro; refine ⟨fun w1 hS1 => ?_, ?_⟩; (focus ((have v0 := (hS1.cell (lt_of_cell q0)).trans q0); (have v1 := (hS1.cell (lt_of_cell q1)).trans q1); go_simp; with_reducible rfl)); simp only [Act.put, List.setIfInBounds_toArray, List.set_cons_zero, List.set_cons_succ]))
            refine TxtBL.call (f := 22) (args := #[.agg #[.int .i64 n, .slice AL l.length cl], .slice A2 y.length c2]) (fun v => v = Value.bool yb) (fun v w' => True) (by rfl) (by rfl) ⟨_, rfl⟩ (fun w1 hS1 hJ1 => by go_simp) (fun w1 hS1 hJ1 => ?_) ?_
            · refine (Hdb.out w1 (endB hbw hS1)).mono ?_
              rintro e w' ⟨rfl, hb⟩
              exact ⟨_, rfl, endB hS1 hb, rfl, trivial⟩
            rintro v11 rfl
            simp only [Act.put, List.setIfInBounds_toArray, List.set_cons_zero, List.set_cons_succ]
            repeat (first
              | (refine TxtBL.skip (by rfl) ?_; simp only [Act.put, List.setIfInBounds_toArray, List.set_cons_zero, List.set_cons_succ])
              | (refine TxtBL.take (by rfl) (by rfl) ?_; apply Exists.intro; refine ⟨fun w1 hS1 => ?_, ?_⟩; (focus ((have v0 := (hS1.cell (lt_of_cell q0)).trans q0); (have v1 := (hS1.cell (lt_of_cell q1)).trans q1); go_simp; with_reducible rfl)); simp only [Act.put, List.setIfInBounds_toArray, List.set_cons_zero, List.set_cons_succ])
              | (refine TxtBL.takeE (by rfl) (by rfl) ?_; apply Exists.intro; refine ⟨fun w1 hS1 => ?_, ?_⟩; (focus ((have v0 := (hS1.cell (lt_of_cell q0)).trans q0); (have v1 := (hS1.cell (lt_of_cell q1)).trans q1); go_simp; with_reducible rfl)); simp only [Act.put, List.setIfInBounds_toArray, List.set_cons_zero, List.set_cons_succ]))
            refine TxtBL.nil (fun W1 hS hJ => ?_)
            clear hJ
            go_wp2_with fail
            go_roundw
            case rel => exact ⟨t + 1, by omega, by go_num, by rw [Hst1.out]; rfl, by rw [Hst2.out]; rfl, endB hbs (endB hbw hS)⟩
            case measure => simp [intOf]; omega
        case true =>
          go_wp2_with fail
          refine (Hpp.out ws (Below.refl _ _)).mono ?_
          rintro e w12 hret
          obtain ⟨rfl, hw12⟩ := hret
          subst hw12
          go_wp2_with fail
          refine (Hda.out ws (Below.refl _ _)).mono ?_
          rintro e w13 ⟨rfl, hb13⟩
          cases wi
          case false =>
            go_upto_region 18 with fail
            obtain ⟨W0, hW0⟩ : ∃ q, q = w13 := ⟨_, rfl⟩
            subst hW0
            refine wp_region_text (S := fun w' => Below W0.heap.size W0 w') (by kernel_rfl) (by kernel_rfl) (Below.refl _ _).drew ?_
            repeat (first
              | (refine TxtL.skip (by rfl) ?_; simp only [Act.put, List.setIfInBounds_toArray, List.set_cons_zero, List.set_cons_succ])
              | (refine TxtL.take' (by rfl) ?_; apply Exists.intro; refine ⟨fun w1 hS1 => ?_, ?_⟩; (focus (skip; go_simp; with_reducible rfl)); simp only [Act.put, List.setIfInBounds_toArray, List.set_cons_zero, List.set_cons_succ]))
            refine TxtL.nil (fun w1 hS1 => ?_)
            go_wp2_with fail
            go_roundw
            case rel => exact ⟨t + 1, by omega, by go_num, by rw [Hst1.out]; rfl, by rw [Hst2.out]; rfl, endB hbs (endB hb13 hS1)⟩
            case measure => simp [intOf]; omega
          case true =>
          cases rq
          case false =>
            go_upto_region 18 with fail
            have q0 := (hb13.cell (lt_of_cell j0)).trans j0
            have q1 := (hb13.cell (lt_of_cell j1)).trans j1
            have hbw : Below ws.heap.size ws w13 := hb13
            refine wp_region_textB [4, 7, 8] (fun w' => Below w13.heap.size w13 w') (fun _ => True) (by kernel_rfl) (by kernel_rfl) (by kernel_rfl) (Below.refl _ _).drew trivial ?_
            repeat (first
              | (refine TxtBL.skip (by rfl) ?_; simp only [Act.put, List.setIfInBounds_toArray, List.set_cons_zero, List.set_cons_succ])
              | (refine TxtBL.take (by rfl) (by rfl) ?_; apply Exists.intro; refine ⟨fun w1 hS1 => ?_, ?_⟩; (focus ((have v0 := (hS1.cell (lt_of_cell q0)).trans q0); (have v1 := (hS1.cell (lt_of_cell q1)).trans q1); go_simp; with_reducible rfl)); simp only [Act.put, List.setIfInBounds_toArray, List.set_cons_zero, List.set_cons_succ])
              | (refine TxtBL.takeE (by rfl) (by rfl) ?_; apply Exists.intro; refine ⟨fun w1 hS1 => ?_, ?_⟩; (focus ((have v0 := (hS1.cell (lt_of_cell q0)).trans q0); (have v1 := (hS1.cell (lt_of_cell q1)).trans q1); go_simp; with_reducible rfl)); simp only [Act.put, List.setIfInBounds_toArray, List.set_cons_zero, List.set_cons_succ]))
            refine TxtBL.call (f := 24) (args := #[.agg #[.int .i64 n, .slice AL l.length cl], .slice A' x.length c']) (fun v => ∃ A c, v = Value.slice A RX.length c) (fun v w' => ∃ A c, v = Value.slice A RX.length c ∧ RI w' A RX) (by rfl) (by rfl) ⟨_, none, 0, rfl⟩ (fun w1 hS1 hJ1 => by go_simp) (fun w1 hS1 hJ1 => ?_) ?_
            · refine (Hxr.out w1 (endB hbw hS1)).mono ?_
              rintro e w' ⟨A', c', rfl, ho, hri, _, hb⟩
              exact ⟨_, rfl, endB hS1 hb, ⟨A', c', rfl⟩, ⟨A', c', rfl, hri⟩⟩
            rintro v8 ⟨A8, c8, rfl⟩
            simp only [Act.put, List.setIfInBounds_toArray, List.set_cons_zero, List.set_cons_succ]
            repeat (first
              | (refine TxtBL.skip (by rfl) ?_; simp only [Act.put, List.setIfInBounds_toArray, List.set_cons_zero, List.set_cons_succ])
              | (refine TxtBL.take (by rfl) (by rfl) ?_; apply Exists.intro; refine ⟨fun w1 hS1 => ?_, ?_⟩; (focus ((have v0 := (hS1.cell (lt_of_cell q0)).trans q0); (have v1 := (hS1.cell (lt_of_cell q1)).trans q1); go_simp; with_reducible rfl)); simp only [Act.put, List.setIfInBounds_toArray, List.set_cons_zero, List.set_cons_succ])
              | (refine TxtBL.takeE (by rfl) (by rfl) ?_; apply Exists.intro; refine ⟨fun w1 hS1 => ?_, ?_⟩; (focus ((have v0 := (hS1.cell (lt_of_cell q0)).trans q0); (have v1 := (hS1.cell (lt_of_cell q1)).trans q1); go_simp; with_reducible rfl)); simp only [Act.put, List.setIfInBounds_toArray, List.set_cons_zero, List.set_cons_succ]))
            refine TxtBL.call (f := 24) (args := #[.agg #[.int .i64 n, .slice AL l.length cl], .slice A2 y.length c2]) (fun v => ∃ A c, v = Value.slice A RY.length c) (fun v w' => RI w' A8 RX ∧ ∃ A c, v = Value.slice A RY.length c ∧ RI w' A RY) (by rfl) (by rfl) ⟨_, none, 0, rfl⟩ (fun w1 hS1 hJ1 => by go_simp) (fun w1 hS1 hJ1 => ?_) ?_
            · obtain ⟨A9, c9, he, hri8⟩ := hJ1
              have heA : A8 = A9 := by simp at he; exact he.1
              subst heA
              refine (Hdr.out w1 (endB hbw hS1)).mono ?_
              rintro e w' ⟨A', c', rfl, ho, hri, _, hb⟩
              exact ⟨_, rfl, endB hS1 hb, ⟨A', c', rfl⟩, ⟨hri8.below hb, A', c', rfl, hri⟩⟩
            rintro v9 ⟨A9, c9, rfl⟩
            simp only [Act.put, List.setIfInBounds_toArray, List.set_cons_zero, List.set_cons_succ]
            repeat (first
              | (refine TxtBL.skip (by rfl) ?_; simp only [Act.put, List.setIfInBounds_toArray, List.set_cons_zero, List.set_cons_succ])
              | (refine TxtBL.take (by rfl) (by rfl) ?_; apply Exists.intro; refine ⟨fun w1 hS1 => ?_, ?_⟩; (focus ((have v0 := (hS1.cell (lt_of_cell q0)).trans q0); (have v1 := (hS1.cell (lt_of_cell q1)).trans q1); go_simp; with_reducible rfl)); simp only [Act.put, List.setIfInBounds_toArray, List.set_cons_zero, List.set_cons_succ])
              | (refine TxtBL.takeE (by rfl) (by rfl) ?_; apply Exists.intro; refine ⟨fun w1 hS1 => ?_, ?_⟩; (focus ((have v0 := (hS1.cell (lt_of_cell q0)).trans q0); (have v1 := (hS1.cell (lt_of_cell q1)).trans q1); go_simp; with_reducible rfl)); simp only [Act.put, List.setIfInBounds_toArray, List.set_cons_zero, List.set_cons_succ]))
            refine TxtBL.call (f := 23) (args := #[.slice A8 RX.length c8, .slice A9 RY.length c9]) (fun v => v = Value.bool false) (fun v w' => True) (by rfl) (by rfl) ⟨_, rfl⟩ (fun w1 hS1 hJ1 => by go_simp) (fun w1 hS1 hJ1 => ?_) ?_
            · obtain ⟨hri8, A10, c10, he, hri9⟩ := hJ1
              have heA : A9 = A10 := by simp at he; exact he.1
              subst heA
              refine (Hpr.out A8 A9 c8 c9 w1 hri8 hri9).mono ?_
              rintro e w' hret
              obtain ⟨rfl, hw'⟩ := hret
              subst hw'
              exact ⟨_, rfl, hS1, rfl, trivial⟩
            rintro v10 rfl
            simp only [Act.put, List.setIfInBounds_toArray, List.set_cons_zero, List.set_cons_succ]
            repeat (first
              | (refine TxtBL.skip (by rfl) ?_; simp only [Act.put, List.setIfInBounds_toArray, List.set_cons_zero, List.set_cons_succ])
              | (refine TxtBL.take (by rfl) (by rfl) ?_; apply Exists.intro; refine ⟨fun w1 hS1 => ?_, ?_⟩; (focus ((have v0 := (hS1.cell (lt_of_cell q0)).trans q0); (have v1 := (hS1.cell (lt_of_cell q1)).trans q1); go_simp; with_reducible rfl)); simp only [Act.put, List.setIfInBounds_toArray, List.set_cons_zero, List.set_cons_succ])
              | (refine TxtBL.takeE (by rfl) (by rfl) ?_; apply Exists.intro; refine ⟨fun w1 hS1 => ?_, ?_⟩; (focus ((have v0 := (hS1.cell (lt_of_cell q0)).trans q0); (have v1 := (hS1.cell (lt_of_cell q1)).trans q1); go_simp; with_reducible rfl)); simp only [Act.put, List.setIfInBounds_toArray, List.set_cons_zero, List.set_cons_succ]))
            refine TxtBL.nil (fun W1 hS hJ => ?_)
            clear hJ
            go_wp2_with fail
            go_roundw
            case rel => exact ⟨t + 1, by omega, by go_num, by rw [Hst1.out]; rfl, by rw [Hst2.out]; rfl, endB hbs (endB hbw hS)⟩
            case measure => simp [intOf]; omega
          case true =>
            go_upto_region 18 with fail
            have q0 := (hb13.cell (lt_of_cell j0)).trans j0
            have q1 := (hb13.cell (lt_of_cell j1)).trans j1
            have hbw : Below ws.heap.size ws w13 := hb13
            refine wp_region_textB [4, 7, 8, 9, 12] (fun w' => Below w13.heap.size w13 w') (fun _ => True) (by kernel_rfl) (by kernel_rfl) (by kernel_rfl) (Below.refl _ _).drew trivial ?_
            repeat (first
              | (refine TxtBL.skip (by rfl) ?_; simp only [Act.put, List.setIfInBounds_toArray, List.set_cons_zero, List.set_cons_succ])
              | (refine TxtBL.take (by rfl) (by rfl) ?_; apply Exists.intro; refine ⟨fun w1 hS1 => ?_, ?_⟩; (focus ((have v0 := (hS1.cell (lt_of_cell q0)).trans q0); (have v1 := (hS1.cell (lt_of_cell q1)).trans q1); go_simp; with_reducible rfl)); simp only [Act.put, List.setIfInBounds_toArray, List.set_cons_zero, List.set_cons_succ])
              | (refine TxtBL.takeE (by rfl) (by rfl) ?_; apply Exists.intro; refine ⟨fun w1 hS1 => ?_, ?_⟩; (focus ((have v0 := (hS1.cell (lt_of_cell q0)).trans q0); (have v1 := (hS1.cell (lt_of_cell q1)).trans q1); go_simp; with_reducible rfl)); simp only [Act.put, List.setIfInBounds_toArray, List.set_cons_zero, List.set_cons_succ]))
            refine TxtBL.call (f := 24) (args := #[.agg #[.int .i64 n, .slice AL l.length cl], .slice A' x.length c']) (fun v => ∃ A c, v = Value.slice A RX.length c) (fun v w' => ∃ A c, v = Value.slice A RX.length c ∧ RI w' A RX) (by rfl) (by rfl) ⟨_, none, 0, rfl⟩ (fun w1 hS1 hJ1 => by go_simp) (fun w1 hS1 hJ1 => ?_) ?_
            · refine (Hxr.out w1 (endB hbw hS1)).mono ?_
              rintro e w' ⟨A', c', rfl, ho, hri, _, hb⟩
              exact ⟨_, rfl, endB hS1 hb, ⟨A', c', rfl⟩, ⟨A', c', rfl, hri⟩⟩
            rintro v8 ⟨A8, c8, rfl⟩
            simp only [Act.put, List.setIfInBounds_toArray, List.set_cons_zero, List.set_cons_succ]
            repeat (first
              | (refine TxtBL.skip (by rfl) ?_; simp only [Act.put, List.setIfInBounds_toArray, List.set_cons_zero, List.set_cons_succ])
              | (refine TxtBL.take (by rfl) (by rfl) ?_; apply Exists.intro; refine ⟨fun w1 hS1 => ?_, ?_⟩; (focus ((have v0 := (hS1.cell (lt_of_cell q0)).trans q0); (have v1 := (hS1.cell (lt_of_cell q1)).trans q1); go_simp; with_reducible rfl)); simp only [Act.put, List.setIfInBounds_toArray, List.set_cons_zero, List.set_cons_succ])
              | (refine TxtBL.takeE (by rfl) (by rfl) ?_; apply Exists.intro; refine ⟨fun w1 hS1 => ?_, ?_⟩; (focus ((have v0 := (hS1.cell (lt_of_cell q0)).trans q0); (have v1 := (hS1.cell (lt_of_cell q1)).trans q1); go_simp; with_reducible rfl)); simp only [Act.put, List.setIfInBounds_toArray, List.set_cons_zero, List.set_cons_succ]))
            refine TxtBL.call (f := 24) (args := #[.agg #[.int .i64 n, .slice AL l.length cl], .slice A2 y.length c2]) (fun v => ∃ A c, v = Value.slice A RY.length c) (fun v w' => RI w' A8 RX ∧ ∃ A c, v = Value.slice A RY.length c ∧ RI w' A RY) (by rfl) (by rfl) ⟨_, none, 0, rfl⟩ (fun w1 hS1 hJ1 => by go_simp) (fun w1 hS1 hJ1 => ?_) ?_
            · obtain ⟨A9, c9, he, hri8⟩ := hJ1
              have heA : A8 = A9 := by simp at he; exact he.1
              subst heA
              refine (Hdr.out w1 (endB hbw hS1)).mono ?_
              rintro e w' ⟨A', c', rfl, ho, hri, _, hb⟩
              exact ⟨_, rfl, endB hS1 hb, ⟨A', c', rfl⟩, ⟨hri8.below hb, A', c', rfl, hri⟩⟩
            rintro v9 ⟨A9, c9, rfl⟩
            simp only [Act.put, List.setIfInBounds_toArray, List.set_cons_zero, List.set_cons_succ]
            repeat (first
              | (refine TxtBL.skip (by rfl) ?_; simp only [Act.put, List.setIfInBounds_toArray, List.set_cons_zero, List.set_cons_succ])
              | (refine TxtBL.take (by rfl) (by rfl) ?_; apply Exists.intro; refine ⟨fun w1 hS1 => ?_, ?_⟩; (focus ((have v0 := (hS1.cell (lt_of_cell q0)).trans q0); (have v1 := (hS1.cell (lt_of_cell q1)).trans q1); go_simp; with_reducible rfl)); simp only [Act.put, List.setIfInBounds_toArray, List.set_cons_zero, List.set_cons_succ])
              | (refine TxtBL.takeE (by rfl) (by rfl) ?_; apply Exists.intro; refine ⟨fun w1 hS1 => ?_, ?_⟩; (focus ((have v0 := (hS1.cell (lt_of_cell q0)).trans q0); (have v1 := (hS1.cell (lt_of_cell q1)).trans q1); go_simp; with_reducible rfl)); simp only [Act.put, List.setIfInBounds_toArray, List.set_cons_zero, List.set_cons_succ]))
            refine TxtBL.call (f := 23) (args := #[.slice A8 RX.length c8, .slice A9 RY.length c9]) (fun v => v = Value.bool true) (fun v w' => True) (by rfl) (by rfl) ⟨_, rfl⟩ (fun w1 hS1 hJ1 => by go_simp) (fun w1 hS1 hJ1 => ?_) ?_
            · obtain ⟨hri8, A10, c10, he, hri9⟩ := hJ1
              have heA : A9 = A10 := by simp at he; exact he.1
              subst heA
              refine (Hpr.out A8 A9 c8 c9 w1 hri8 hri9).mono ?_
              rintro e w' hret
              obtain ⟨rfl, hw'⟩ := hret
              subst hw'
              exact ⟨_, rfl, hS1, rfl, trivial⟩
            rintro v10 rfl
            simp only [Act.put, List.setIfInBounds_toArray, List.set_cons_zero, List.set_cons_succ]
            repeat (first
              | (refine TxtBL.skip (by rfl) ?_; simp only [Act.put, List.setIfInBounds_toArray, List.set_cons_zero, List.set_cons_succ])
              | (refine TxtBL.take (by rfl) (by rfl) ?_; apply Exists.intro; refine ⟨fun w1 hS1 => ?_, ?_⟩; (focus ((have v0 := (hS1.cell (lt_of_cell q0)).trans q0); (have v1 := (hS1.cell (lt_of_cell q1)).trans q1); go_simp; with_reducible rfl)); simp only [Act.put, List.setIfInBounds_toArray, List.set_cons_zero, List.set_cons_succ])
              | (refine TxtBL.takeE (by rfl) (by rfl) ?_; apply Exists.intro; refine ⟨fun w1 hS1 => ?_, ?_⟩; (focus ((have v0 := (hS1.cell (lt_of_cell q0)).trans q0); (have v1 := (hS1.cell (lt_of_cell q1)).trans q1); go_simp; with_reducible rfl)); simp only [Act.put, List.setIfInBounds_toArray, List.set_cons_zero, List.set_cons_succ]))
            refine TxtBL.call (f := 22) (args := #[.agg #[.int .i64 n, .slice AL l.length cl], .slice A2 y.length c2]) (fun v => v = Value.bool yb) (fun v w' => True) (by rfl) (by rfl) ⟨_, rfl⟩ (fun w1 hS1 hJ1 => by go_simp) (fun w1 hS1 hJ1 => ?_) ?_
            · refine (Hdb.out w1 (endB hbw hS1)).mono ?_
              rintro e w' ⟨rfl, hb⟩
              exact ⟨_, rfl, endB hS1 hb, rfl, trivial⟩
            rintro v11 rfl
            simp only [Act.put, List.setIfInBounds_toArray, List.set_cons_zero, List.set_cons_succ]
            repeat (first
              | (refine TxtBL.skip (by rfl) ?_; simp only [Act.put, List.setIfInBounds_toArray, List.set_cons_zero, List.set_cons_succ])
              | (refine TxtBL.take (by rfl) (by rfl) ?_; apply Exists.intro; refine ⟨fun w1 hS1 => ?_, ?_⟩; (focus ((have v0 := (hS1.cell (lt_of_cell q0)).trans q0); (have v1 := (hS1.cell (lt_of_cell q1)).trans q1); go_simp; with_reducible rfl)); simp only [Act.put, List.setIfInBounds_toArray, List.set_cons_zero, List.set_cons_succ])
              | (refine TxtBL.takeE (by rfl) (by rfl) ?_; apply Exists.intro; refine ⟨fun w1 hS1 => ?_, ?_⟩; (focus ((have v0 := (hS1.cell (lt_of_cell q0)).trans q0); (have v1 := (hS1.cell (lt_of_cell q1)).trans q1); go_simp; with_reducible rfl)); simp only [Act.put, List.setIfInBounds_toArray, List.set_cons_zero, List.set_cons_succ]))
            refine TxtBL.nil (fun W1 hS hJ => ?_)
            clear hJ
            go_wp2_with fail
            go_roundw
            case rel => exact ⟨t + 1, by omega, by go_num, by rw [Hst1.out]; rfl, by rw [Hst2.out]; rfl, endB hbs (endB hbw hS)⟩
            case measure => simp [intOf]; omega
      case neg =>
      rw [List.take_of_length_le (by omega), HFp.out, HFm.out]
      have hhas1 := fun C cc W h1 h2 h3 => has15_any AP C A' PL (fromL n l x) x cp cc c' W h1 h2 h3 (by omega) (fun z hz => HPx.out z hz) (by omega) (by omega)
      have hhas2 := fun C cc W h1 h2 h3 => has15_any AS C A' SL (fromL n l x) x cs cc c' W h1 h2 h3 (by omega) (fun z hz => HSx.out z hz) (by omega) (by omega)
      have hhas3 := fun C cc W h1 h2 h3 => has15_any AM C A' ML (fromL n l x) x cm cc c' W h1 h2 h3 (by omega) (fun z hz => HMx.out z hz) (by omega) (by omega)
      rw [← Hq1.out] at hhas1; rw [← Hq2.out] at hhas2; rw [← Hq3.out] at hhas3
      have hfr := fun W h => Hcf.out W (endB hbs h)
      have hst := fun W h => Hcc.out W (endB hbs h)
      obtain ⟨FL, hFL⟩ : ∃ q, fromL n l x = q := ⟨_, rfl⟩
      rw [hFL] at hhas1 hhas2 hhas3 hfr
      obtain ⟨a1, ha1⟩ : ∃ q, fp x = q := ⟨_, rfl⟩
      obtain ⟨a2, ha2⟩ : ∃ q, fs x = q := ⟨_, rfl⟩
      obtain ⟨a3, ha3⟩ : ∃ q, fm x = q := ⟨_, rfl⟩
      have hs1 := Hs1.out; have hs2 := Hs2.out; have hs3 := Hs3.out
      rw [ha1] at hhas1 hs1 ⊢; rw [ha2] at hhas2 hst hs2; rw [ha3] at hhas3 hs3 ⊢
      have hfr' : ∀ W, Below ws.heap.size ws W → Calls Tryd.prog 25 #[.agg #[.int .i64 n, .slice AL l.length cl], .slice A' x.length c'] W (RetI FL W) := hfr
      have hst' : ∀ W, Below ws.heap.size ws W → Calls Tryd.prog 26 #[.agg #[.int .i64 n, .slice AL l.length cl], .slice A' x.length c'] W (RetB (.bool a2) W) := hst
      have hh1 : ∀ C (cc : Nat) W, RI W C FL → Below ws.heap.size ws W → Calls Tryd.prog 27 #[.slice AP PL.length cp, .slice C FL.length cc, .slice A' x.length c'] W (RetB (.bool a1) W) := fun C cc W h1 h => hhas1 C cc W (HP6.out.below (endB (endB hbl hbs) h)) h1 (hri.below (endB hbs h))
      have hh2 : ∀ C (cc : Nat) W, RI W C FL → Below ws.heap.size ws W → Calls Tryd.prog 27 #[.slice AS SL.length cs, .slice C FL.length cc, .slice A' x.length c'] W (RetB (.bool a2) W) := fun C cc W h1 h => hhas2 C cc W (HS6.out.below (endB (endB hbl hbs) h)) h1 (hri.below (endB hbs h))
      have hh3 : ∀ C (cc : Nat) W, RI W C FL → Below ws.heap.size ws W → Calls Tryd.prog 27 #[.slice AM ML.length cm, .slice C FL.length cc, .slice A' x.length c'] W (RetB (.bool a3) W) := fun C cc W h1 h => hhas3 C cc W (HM6.out.below (endB (endB hbl hbs) h)) h1 (hri.below (endB hbs h))
      have Hfr := Lib.hid hfr'; have Hst := Lib.hid hst'; have Hh1 := Lib.hid hh1; have Hh2 := Lib.hid hh2; have Hh3 := Lib.hid hh3
      have Hs1 := Lib.hid hs1; have Hs2 := Lib.hid hs2; have Hs3 := Lib.hid hs3
      have hnn1 : (a1 != a1) = false := bne_self_eq_false a1
      have hnn2 : (a2 != a2) = false := bne_self_eq_false a2
      have hnn3 : (a3 != a3) = false := bne_self_eq_false a3
      clear hhas1 hhas2 hhas3 hfr hst hfr' hst' hh1 hh2 hh3 hs1 hs2 hs3 ha1 ha2 ha3 hFL hnn1 hnn2 hnn3
      clear Hcr Hm0 Hw0 HP6 HS6 HM6 HPx HSx HMx Hsm HS Hfp Hfs Hfm Hcp Hcs Hcm HFp HFs HFm Hq1 Hq2 Hq3 Hcc Hcf HV Hfl hT6
      obtain ⟨k1, hk1⟩ : ∃ q, cntX fp S k = q := ⟨_, rfl⟩
      obtain ⟨k2, hk2⟩ : ∃ q, cntX fs S k = q := ⟨_, rfl⟩
      obtain ⟨k3, hk3⟩ : ∃ q, cntX fm S k = q := ⟨_, rfl⟩
      rw [hk1] at Hs1 hl1 ⊢; rw [hk2] at Hs2 hl2 ⊢; rw [hk3] at Hs3 hl3 ⊢
      clear hk1 hk2 hk3 hfl
      go_wp2_with fail
      refine (Hfr.out ws (Below.refl _ _)).mono ?_
      rintro e w14 ⟨A14, c14, rfl, _, hr14, _, hb14⟩
      have k0 := (hb14.cell (lt_of_cell j0)).trans j0
      have k4 := (hb14.cell (lt_of_cell j1)).trans j1
      have Hr14 := Lib.hid hr14
      clear hr14 j0 j1
      cases a1 <;> cases a2 <;> cases a3
      case false.false.false =>
        go_wp2_with fail
        refine (Hst.out w14 hb14).mono ?_
        rintro e w15 ⟨rfl, hb15⟩
        have hbz := endB hb14 hb15
        have m0 := (hb15.cell (lt_of_cell k0)).trans k0
        have m1 := (hb15.cell (lt_of_cell k4)).trans k4
        have hr15 := Hr14.out.below hb15
        clear k0 k4 hb15
        have Hr15 := Lib.hid hr15
        clear hr15
        go_wp2_with fail
        refine (Hh1.out A14 c14 w15 Hr15.out hbz).mono ?_
        rintro e w16 ⟨rfl, hb16⟩
        have n0 := (hb16.cell (lt_of_cell m0)).trans m0
        have n1 := (hb16.cell (lt_of_cell m1)).trans m1
        have hz16 := endB hbz hb16
        have Hr16 := Lib.hid (Hr15.out.below hb16)
        clear m0 m1 Hr15 hb16
        go_wp2_with fail
        refine (Hst.out w16 hz16).mono ?_
        rintro e w17 ⟨rfl, hb17⟩
        have hz17 := endB hz16 hb17
        have Hr17 := Lib.hid (Hr16.out.below hb17)
        clear n0 n1 Hr16 hb17
        go_wp2_with fail
        refine (Hh2.out A14 c14 w17 Hr17.out hz17).mono ?_
        rintro e w18 ⟨rfl, hb18⟩
        have hz18 := endB hz17 hb18
        have Hr18 := Lib.hid (Hr17.out.below hb18)
        clear Hr17 hb18
        go_wp2_with fail
        refine (Hh3.out A14 c14 w18 Hr18.out hz18).mono ?_
        rintro e w19 ⟨rfl, hb19⟩
        go_wp2_with fail
        go_roundw
        case rel => exact ⟨k + 1, by omega, by go_num, by rw [Hs1.out]; go_num, by rw [Hs2.out]; go_num, by rw [Hs3.out]; go_num, endB (endB hbl hbs) (endB hz18 hb19)⟩
        case measure => simp [intOf]; omega
      case false.false.true =>
        go_wp2_with fail
        refine (Hst.out w14 hb14).mono ?_
        rintro e w15 ⟨rfl, hb15⟩
        have hbz := endB hb14 hb15
        have m0 := (hb15.cell (lt_of_cell k0)).trans k0
        have m1 := (hb15.cell (lt_of_cell k4)).trans k4
        have hr15 := Hr14.out.below hb15
        clear k0 k4 hb15
        have Hr15 := Lib.hid hr15
        clear hr15
        go_wp2_with fail
        refine (Hh1.out A14 c14 w15 Hr15.out hbz).mono ?_
        rintro e w16 ⟨rfl, hb16⟩
        have n0 := (hb16.cell (lt_of_cell m0)).trans m0
        have n1 := (hb16.cell (lt_of_cell m1)).trans m1
        have hz16 := endB hbz hb16
        have Hr16 := Lib.hid (Hr15.out.below hb16)
        clear m0 m1 Hr15 hb16
        go_wp2_with fail
        refine (Hst.out w16 hz16).mono ?_
        rintro e w17 ⟨rfl, hb17⟩
        have hz17 := endB hz16 hb17
        have Hr17 := Lib.hid (Hr16.out.below hb17)
        clear n0 n1 Hr16 hb17
        go_wp2_with fail
        refine (Hh2.out A14 c14 w17 Hr17.out hz17).mono ?_
        rintro e w18 ⟨rfl, hb18⟩
        have hz18 := endB hz17 hb18
        have Hr18 := Lib.hid (Hr17.out.below hb18)
        clear Hr17 hb18
        go_wp2_with fail
        refine (Hh3.out A14 c14 w18 Hr18.out hz18).mono ?_
        rintro e w19 ⟨rfl, hb19⟩
        go_wp2_with fail
        go_roundw
        case rel => exact ⟨k + 1, by omega, by go_num, by rw [Hs1.out]; go_num, by rw [Hs2.out]; go_num, by rw [Hs3.out]; go_num, endB (endB hbl hbs) (endB hz18 hb19)⟩
        case measure => simp [intOf]; omega
      case false.true.false =>
        go_wp2_with fail
        refine (Hst.out w14 hb14).mono ?_
        rintro e w15 ⟨rfl, hb15⟩
        have hbz := endB hb14 hb15
        have m0 := (hb15.cell (lt_of_cell k0)).trans k0
        have m1 := (hb15.cell (lt_of_cell k4)).trans k4
        have hr15 := Hr14.out.below hb15
        clear k0 k4 hb15
        have Hr15 := Lib.hid hr15
        clear hr15
        go_wp2_with fail
        refine (Hh1.out A14 c14 w15 Hr15.out hbz).mono ?_
        rintro e w16 ⟨rfl, hb16⟩
        have n0 := (hb16.cell (lt_of_cell m0)).trans m0
        have n1 := (hb16.cell (lt_of_cell m1)).trans m1
        have hz16 := endB hbz hb16
        have Hr16 := Lib.hid (Hr15.out.below hb16)
        clear m0 m1 Hr15 hb16
        go_wp2_with fail
        refine (Hst.out w16 hz16).mono ?_
        rintro e w17 ⟨rfl, hb17⟩
        have hz17 := endB hz16 hb17
        have Hr17 := Lib.hid (Hr16.out.below hb17)
        clear n0 n1 Hr16 hb17
        go_wp2_with fail
        refine (Hh2.out A14 c14 w17 Hr17.out hz17).mono ?_
        rintro e w18 ⟨rfl, hb18⟩
        have hz18 := endB hz17 hb18
        have Hr18 := Lib.hid (Hr17.out.below hb18)
        clear Hr17 hb18
        go_wp2_with fail
        refine (Hh3.out A14 c14 w18 Hr18.out hz18).mono ?_
        rintro e w19 ⟨rfl, hb19⟩
        go_wp2_with fail
        go_roundw
        case rel => exact ⟨k + 1, by omega, by go_num, by rw [Hs1.out]; go_num, by rw [Hs2.out]; go_num, by rw [Hs3.out]; go_num, endB (endB hbl hbs) (endB hz18 hb19)⟩
        case measure => simp [intOf]; omega
      case false.true.true =>
        go_wp2_with fail
        refine (Hst.out w14 hb14).mono ?_
        rintro e w15 ⟨rfl, hb15⟩
        have hbz := endB hb14 hb15
        have m0 := (hb15.cell (lt_of_cell k0)).trans k0
        have m1 := (hb15.cell (lt_of_cell k4)).trans k4
        have hr15 := Hr14.out.below hb15
        clear k0 k4 hb15
        have Hr15 := Lib.hid hr15
        clear hr15
        go_wp2_with fail
        refine (Hh1.out A14 c14 w15 Hr15.out hbz).mono ?_
        rintro e w16 ⟨rfl, hb16⟩
        have n0 := (hb16.cell (lt_of_cell m0)).trans m0
        have n1 := (hb16.cell (lt_of_cell m1)).trans m1
        have hz16 := endB hbz hb16
        have Hr16 := Lib.hid (Hr15.out.below hb16)
        clear m0 m1 Hr15 hb16
        go_wp2_with fail
        refine (Hst.out w16 hz16).mono ?_
        rintro e w17 ⟨rfl, hb17⟩
        have hz17 := endB hz16 hb17
        have Hr17 := Lib.hid (Hr16.out.below hb17)
        clear n0 n1 Hr16 hb17
        go_wp2_with fail
        refine (Hh2.out A14 c14 w17 Hr17.out hz17).mono ?_
        rintro e w18 ⟨rfl, hb18⟩
        have hz18 := endB hz17 hb18
        have Hr18 := Lib.hid (Hr17.out.below hb18)
        clear Hr17 hb18
        go_wp2_with fail
        refine (Hh3.out A14 c14 w18 Hr18.out hz18).mono ?_
        rintro e w19 ⟨rfl, hb19⟩
        go_wp2_with fail
        go_roundw
        case rel => exact ⟨k + 1, by omega, by go_num, by rw [Hs1.out]; go_num, by rw [Hs2.out]; go_num, by rw [Hs3.out]; go_num, endB (endB hbl hbs) (endB hz18 hb19)⟩
        case measure => simp [intOf]; omega
      case true.false.false =>
        go_wp2_with fail
        refine (Hst.out w14 hb14).mono ?_
        rintro e w15 ⟨rfl, hb15⟩
        have hbz := endB hb14 hb15
        have m0 := (hb15.cell (lt_of_cell k0)).trans k0
        have m1 := (hb15.cell (lt_of_cell k4)).trans k4
        have hr15 := Hr14.out.below hb15
        clear k0 k4 hb15
        have Hr15 := Lib.hid hr15
        clear hr15
        go_wp2_with fail
        refine (Hh1.out A14 c14 w15 Hr15.out hbz).mono ?_
        rintro e w16 ⟨rfl, hb16⟩
        have n0 := (hb16.cell (lt_of_cell m0)).trans m0
        have n1 := (hb16.cell (lt_of_cell m1)).trans m1
        have hz16 := endB hbz hb16
        have Hr16 := Lib.hid (Hr15.out.below hb16)
        clear m0 m1 Hr15 hb16
        go_wp2_with fail
        refine (Hst.out w16 hz16).mono ?_
        rintro e w17 ⟨rfl, hb17⟩
        have hz17 := endB hz16 hb17
        have Hr17 := Lib.hid (Hr16.out.below hb17)
        clear n0 n1 Hr16 hb17
        go_wp2_with fail
        refine (Hh2.out A14 c14 w17 Hr17.out hz17).mono ?_
        rintro e w18 ⟨rfl, hb18⟩
        have hz18 := endB hz17 hb18
        have Hr18 := Lib.hid (Hr17.out.below hb18)
        clear Hr17 hb18
        go_wp2_with fail
        refine (Hh3.out A14 c14 w18 Hr18.out hz18).mono ?_
        rintro e w19 ⟨rfl, hb19⟩
        go_wp2_with fail
        go_roundw
        case rel => exact ⟨k + 1, by omega, by go_num, by rw [Hs1.out]; go_num, by rw [Hs2.out]; go_num, by rw [Hs3.out]; go_num, endB (endB hbl hbs) (endB hz18 hb19)⟩
        case measure => simp [intOf]; omega
      case true.false.true =>
        go_wp2_with fail
        refine (Hst.out w14 hb14).mono ?_
        rintro e w15 ⟨rfl, hb15⟩
        have hbz := endB hb14 hb15
        have m0 := (hb15.cell (lt_of_cell k0)).trans k0
        have m1 := (hb15.cell (lt_of_cell k4)).trans k4
        have hr15 := Hr14.out.below hb15
        clear k0 k4 hb15
        have Hr15 := Lib.hid hr15
        clear hr15
        go_wp2_with fail
        refine (Hh1.out A14 c14 w15 Hr15.out hbz).mono ?_
        rintro e w16 ⟨rfl, hb16⟩
        have n0 := (hb16.cell (lt_of_cell m0)).trans m0
        have n1 := (hb16.cell (lt_of_cell m1)).trans m1
        have hz16 := endB hbz hb16
        have Hr16 := Lib.hid (Hr15.out.below hb16)
        clear m0 m1 Hr15 hb16
        go_wp2_with fail
        refine (Hst.out w16 hz16).mono ?_
        rintro e w17 ⟨rfl, hb17⟩
        have hz17 := endB hz16 hb17
        have Hr17 := Lib.hid (Hr16.out.below hb17)
        clear n0 n1 Hr16 hb17
        go_wp2_with fail
        refine (Hh2.out A14 c14 w17 Hr17.out hz17).mono ?_
        rintro e w18 ⟨rfl, hb18⟩
        have hz18 := endB hz17 hb18
        have Hr18 := Lib.hid (Hr17.out.below hb18)
        clear Hr17 hb18
        go_wp2_with fail
        refine (Hh3.out A14 c14 w18 Hr18.out hz18).mono ?_
        rintro e w19 ⟨rfl, hb19⟩
        go_wp2_with fail
        go_roundw
        case rel => exact ⟨k + 1, by omega, by go_num, by rw [Hs1.out]; go_num, by rw [Hs2.out]; go_num, by rw [Hs3.out]; go_num, endB (endB hbl hbs) (endB hz18 hb19)⟩
        case measure => simp [intOf]; omega
      case true.true.false =>
        go_wp2_with fail
        refine (Hst.out w14 hb14).mono ?_
        rintro e w15 ⟨rfl, hb15⟩
        have hbz := endB hb14 hb15
        have m0 := (hb15.cell (lt_of_cell k0)).trans k0
        have m1 := (hb15.cell (lt_of_cell k4)).trans k4
        have hr15 := Hr14.out.below hb15
        clear k0 k4 hb15
        have Hr15 := Lib.hid hr15
        clear hr15
        go_wp2_with fail
        refine (Hh1.out A14 c14 w15 Hr15.out hbz).mono ?_
        rintro e w16 ⟨rfl, hb16⟩
        have n0 := (hb16.cell (lt_of_cell m0)).trans m0
        have n1 := (hb16.cell (lt_of_cell m1)).trans m1
        have hz16 := endB hbz hb16
        have Hr16 := Lib.hid (Hr15.out.below hb16)
        clear m0 m1 Hr15 hb16
        go_wp2_with fail
        refine (Hst.out w16 hz16).mono ?_
        rintro e w17 ⟨rfl, hb17⟩
        have hz17 := endB hz16 hb17
        have Hr17 := Lib.hid (Hr16.out.below hb17)
        clear n0 n1 Hr16 hb17
        go_wp2_with fail
        refine (Hh2.out A14 c14 w17 Hr17.out hz17).mono ?_
        rintro e w18 ⟨rfl, hb18⟩
        have hz18 := endB hz17 hb18
        have Hr18 := Lib.hid (Hr17.out.below hb18)
        clear Hr17 hb18
        go_wp2_with fail
        refine (Hh3.out A14 c14 w18 Hr18.out hz18).mono ?_
        rintro e w19 ⟨rfl, hb19⟩
        go_wp2_with fail
        go_roundw
        case rel => exact ⟨k + 1, by omega, by go_num, by rw [Hs1.out]; go_num, by rw [Hs2.out]; go_num, by rw [Hs3.out]; go_num, endB (endB hbl hbs) (endB hz18 hb19)⟩
        case measure => simp [intOf]; omega
      case true.true.true =>
        go_wp2_with fail
        refine (Hst.out w14 hb14).mono ?_
        rintro e w15 ⟨rfl, hb15⟩
        have hbz := endB hb14 hb15
        have m0 := (hb15.cell (lt_of_cell k0)).trans k0
        have m1 := (hb15.cell (lt_of_cell k4)).trans k4
        have hr15 := Hr14.out.below hb15
        clear k0 k4 hb15
        have Hr15 := Lib.hid hr15
        clear hr15
        go_wp2_with fail
        refine (Hh1.out A14 c14 w15 Hr15.out hbz).mono ?_
        rintro e w16 ⟨rfl, hb16⟩
        have n0 := (hb16.cell (lt_of_cell m0)).trans m0
        have n1 := (hb16.cell (lt_of_cell m1)).trans m1
        have hz16 := endB hbz hb16
        have Hr16 := Lib.hid (Hr15.out.below hb16)
        clear m0 m1 Hr15 hb16
        go_wp2_with fail
        refine (Hst.out w16 hz16).mono ?_
        rintro e w17 ⟨rfl, hb17⟩
        have hz17 := endB hz16 hb17
        have Hr17 := Lib.hid (Hr16.out.below hb17)
        clear n0 n1 Hr16 hb17
        go_wp2_with fail
        refine (Hh2.out A14 c14 w17 Hr17.out hz17).mono ?_
        rintro e w18 ⟨rfl, hb18⟩
        have hz18 := endB hz17 hb18
        have Hr18 := Lib.hid (Hr17.out.below hb18)
        clear Hr17 hb18
        go_wp2_with fail
        refine (Hh3.out A14 c14 w18 Hr18.out hz18).mono ?_
        rintro e w19 ⟨rfl, hb19⟩
        go_wp2_with fail
        go_roundw
        case rel => exact ⟨k + 1, by omega, by go_num, by rw [Hs1.out]; go_num, by rw [Hs2.out]; go_num, by rw [Hs3.out]; go_num, endB (endB hbl hbs) (endB hz18 hb19)⟩
        case measure => simp [intOf]; omega
end Go.Proofs.YtcpombepajapjaaDoor
