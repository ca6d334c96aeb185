import Derived.Test.YtncimnfhfomddaaDoorWrkP
import Derived.Test.YtncimnfhfomddaaDoorLov
/- law21: the walk of EnforceWorks. -/
namespace Go.Proofs.YtncimnfhfomddaaDoor
open Go.ChangeShapes Go.WideShapes Go.ChangeAt Go.RowKit

set_option maxRecDepth 100000 in
set_option maxHeartbeats 16000000 in
theorem wrk_law_any (A : Option Addr) (arg : List Int) (c : Nat) (bk : Bool) (w : World)
    (hlc : arg.length ≤ c) (hc : c ≤ 9223372036854775807) (hr : RI w A arg) (hx : ∀ x ∈ arg, -9223372036854775808 ≤ x ∧ x ≤ 9223372036854775807) (hT : Tab w) :
    Calls Tryd.prog 7 #[.slice A arg.length c, .bool bk] w (RetB (.bool true) w) := by
  go_enter Tryd.func7, Tryd.ntmps7
  go_wp2_with fail
  refine (new_any A arg c w hlc hc hr hx).mono ?_
  rintro e w1 ⟨p, rfl, hp, hs1, hb1⟩
  clear hr hx
  go_wp2_with fail
  refine (netGraph_any p 9 w1 hs1 (by omega) (by omega)).mono ?_
  rintro e w2 ⟨n, l, AL, cl, rfl, hN1, hN, hv, hrp, hloc, hs2, hg2, hAn⟩
  have hb2 : Below w.heap.size w w2 := hb1.trans (below_of_grownBy hg2 hp hb1.size)
  have hpl2 := hs2.lt
  have hpl1 := hs1.lt
  have hll : l.length ≤ 81 := Nat.le_trans (len_vld2 hv) (Nat.mul_le_mul hN hN)
  have HV := Lib.hid hv
  have Hloc := Lib.hid hloc
  clear hs1 hb1 hg2 hv hloc hAn
  go_upto_region 3 with fail
  obtain ⟨W0, hW, k0, hb0, hs0⟩ := boxG w2 (n : Int) AL l.length cl
  rw [hW]
  obtain ⟨z0, z1, -, -⟩ := k0.two
  have hrp0 := hrp.below hb0
  have hB0 := endB hb2 hb0
  have hs3 := hs2.kept hb0
  clear hW hrp hs2 hb2 hs0 hb0
  generalize w2.heap.size = G at *
  go_wp2_with fail
  refine (nwSome_any p n W0 hs3 (by omega)).mono ?_
  rintro e w4 ⟨S, AS, cS, rfl, hset, hSo, hs4, hg4⟩
  have hB4 : Below w.heap.size w w4 := hB0.trans (below_of_grownBy hg4 hp hB0.size)
  have k04 := k0.grown hg4 (by simp; omega)
  have hrp4 := hrp0.grown hg4 (fun b o e hl => by have := Hloc.out b o e; omega)
  have hSl := setB_len hset
  have hSf : AS = none → S = [] ∧ cS = 0 := fun e => by
    subst e
    obtain ⟨_, h2⟩ := hSo
    rcases h2 with ⟨e, h0⟩ | ⟨g, cap, cur, e, _⟩
    · injection e with _ _ e3
      exact ⟨List.eq_nil_of_length_eq_zero h0, e3⟩
    · cases e
  have hSr := OwnI.ri hSo
  have Hset := Lib.hid hset; have HSf := Lib.hid hSf
  have hGB : G < w4.heap.size := k04.lt
  clear z0 z1 k0 hrp0 hB0 hs3 hSo hg4 hs4 hp hpl1 hpl2 hset hSf Hloc
  obtain ⟨kd, hkd⟩ : ∃ kd : Int, kd = if bk then 2 else 1 := ⟨_, rfl⟩
  have hk : kd = 1 ∨ kd = 2 := by rw [hkd]; cases bk <;> simp
  have Hkd := Lib.hid hkd; have Hk := Lib.hid hk
  clear hkd hk
  go_upto_if 23 with fail
  go_cut [8] (fun v wx => v = .int .i64 kd ∧ wx = w4)
  case first =>
    cases bk
    · go_wp2_with fail
      go_meet
      exact ⟨by rw [Hkd.out]; rfl, rfl⟩
    · go_wp2_with fail
      go_meet
      exact ⟨by rw [Hkd.out]; rfl, rfl⟩
  obtain ⟨rfl, rfl⟩ := hcut
  obtain ⟨W4, hW4⟩ : ∃ W4, W4 = wc := ⟨_, rfl⟩
  subst hW4
  obtain ⟨y0, y1, -, -⟩ := k04.two
  have hst := enStrict_any AL (n : Int) l cl AS S cS kd W4 hrp4 (by omega) hSr HSf.out (by omega) (hT.below hB4)
  have hse := stErr_good HV.out Hset.out Hk.out
  obtain ⟨er, her⟩ : ∃ er, stErr (n : Int) l S kd = er := ⟨_, rfl⟩
  rw [her] at hse
  have Hst := Lib.hid hst; have Hse := Lib.hid hse
  clear hst hse
  go_wp2_with fail
  refine Hst.out.mono ?_
  rintro e w5 ⟨hb5, h5⟩
  obtain ⟨AC, nC, cC, AH, nH, cH, AD, nD, cD, rfl, hdet⟩ : ∃ AC nC cC AH nH cH AD nD cD, e = .returned (.tuple #[.agg #[.slice AC nC cC, .slice AH nH cH, .slice AD nD cD], .int .i64 er]) ∧
      (er = 0 → nC = S.length ∧ nH = (strC n l S kd).length ∧ nD = (dutL n l S kd).length ∧ RI w5 AC S ∧ RP w5 AH (strC n l S kd) ∧ RTo w5 AD (dutL n l S kd)) := by
    rw [her] at h5
    rcases h5 with ⟨h1, h2⟩ | ⟨h1, AC, cC, AH, cH, AD, cD, h2, h3, h4, h5⟩
    · exact ⟨none, 0, 0, none, 0, 0, none, 0, 0, h2, fun e => absurd e h1⟩
    · rw [Int.toNat_natCast] at h2 h4 h5
      exact ⟨AC, _, cC, AH, _, cH, AD, _, cD, by rw [h2, h1], fun _ => ⟨rfl, rfl, rfl, h3, h4, h5⟩⟩
  have hB5 := endB hB4 hb5
  have k05 := k04.below hb5 k04.lt
  have hrp5 := hrp4.below hb5
  have hSr5 := hSr.below hb5
  obtain ⟨W6, hW6, k9, hb6, hs6⟩ := boxEn w5 (.slice AC nC cC) (.slice AH nH cH) (.slice AD nD cD)
  have hB6 := endB hB5 hb6
  have k06 := k05.below hb6 k05.lt
  have hrp6 := hrp5.below hb6
  have hSr6 := hSr5.below hb6
  have hdet6 : er = 0 → nC = S.length ∧ nH = (strC n l S kd).length ∧ nD = (dutL n l S kd).length ∧ RI W6 AC S ∧ RP W6 AH (strC n l S kd) ∧ RTo W6 AD (dutL n l S kd) := fun e => by
    obtain ⟨q1, q2, q3, q4, q5, q6⟩ := hdet e
    exact ⟨q1, q2, q3, q4.below hb6, q5.below hb6, q6.below hb6⟩
  have Hdet := Lib.hid hdet6
  clear hdet hdet6 h5 hb5 y0 y1 k04 k05 hrp4 hrp5 hSr hSr5 hB4 hB5 her hs6
  obtain ⟨y0, y1, -, -⟩ := k06.two
  obtain ⟨n0, n1, n2, -, -⟩ := k9.threeE
  go_upto_if 32 with fail
  go_cut [10] (fun v wx => v = .int .i64 er ∧ Below W6.heap.size W6 wx)
  case first =>
    by_cases he : er = 0
    case neg =>
      have hd : (er == 0) = false := by simp [he]
      go_wp2_with fail
      go_meet
      exact ⟨rfl, Below.refl _ _⟩
    case pos =>
      obtain ⟨e1, e2, e3, g1, g2, g3⟩ := Hdet.out he
      have hh : hpB (n : Int) S kd = false := by
        have := Hse.out
        rw [he] at this
        cases hx : hpB (n : Int) S kd
        · rfl
        · rw [hx] at this; cases this
      subst he
      have ht := tgErr_strC HV.out Hset.out hh Hk.out
      have hvt := strC_vld HV.out Hset.out hh Hk.out
      have hac := accR_strC HV.out Hset.out hh Hk.out
      have hck := chkE_strict HV.out Hset.out hh Hk.out
      have hno := accR_none HV.out Hset.out hh Hk.out
      have hcl := strC_len (s := S) (kind := kd) HV.out
      have hdl := dut_flat_len (s := S) (kind := kd) HV.out Hset.out Hk.out
      have hdi := dut_mem_i64 HV.out Hset.out hh Hk.out
      have hDl : (dutL n l S kd).length = (strC n l S kd).length := by unfold strC; rw [List.length_map]
      obtain ⟨C, hC⟩ : ∃ C, strC n l S kd = C := ⟨_, rfl⟩
      obtain ⟨D, hD⟩ : ∃ D, dutL n l S kd = D := ⟨_, rfl⟩
      rw [hC] at e2 g2 ht hvt hac hck hno hcl hDl
      rw [hD] at e3 g3 hck hdl hdi hDl
      obtain ⟨T, hT'⟩ : ∃ T, tgL l C = T := ⟨_, rfl⟩
      have hTl := tgL_len l C
      rw [hT'] at hvt hac hTl
      have rN : tgN (n : Int) l C = n ∧ tgG (n : Int) l C = T := by unfold tgN tgG; rw [if_pos ht, if_pos ht, hT']; exact ⟨rfl, rfl⟩
      have c1 := fun W hr1 hr2 => toggle_any AL AH (n : Int) l C cl cH W hr1 hr2 (by omega)
      unfold RetTg at c1
      simp only [rN.1, rN.2, ht] at c1
      rw [← e2] at c1
      have hg2 := g2
      have hg1 := g1
      have hg3 := g3
      have C1 := Lib.hid c1
      have hCl : C.length ≤ 2000 := by omega
      have hnb : (((nH : Nat) : Int) == 0) = decide (C = []) := by
        rw [e2]
        cases C with
        | nil => rfl
        | cons x r => simp; omega
      have hac1 := fun A3 c3 W (h1 : RP W A3 T) (h2 : RI W AS S) => rAcc_any A3 n T c3 AS S cS kd W h1 (by omega) h2 (by omega) (by omega)
      have hac2 := fun W (h1 : RP W AL l) (h2 : RI W AS S) => rAcc_any AL n l cl AS S cS kd W h1 (by omega) h2 (by omega) (by omega)
      have hck1 := fun W (h1 : RP W AL l) (h2 : RI W AC S) (h3 : Tab W) (h4 : RP W AH C) (h5 : RTo W AD D) => enCheck_any AL (n : Int) l cl kd AC S cC AH C cH AD D cD W h1 (by omega) h2 (by omega) h3 h4 h5 (by rw [hDl]; omega) (hdl (by omega)) hdi
      rw [hac] at hac1
      rw [hno] at hac2
      rw [hck, ← e1, ← e2, ← e3] at hck1
      have Hac1 := Lib.hid hac1; have Hac2 := Lib.hid hac2; have Hck1 := Lib.hid hck1
      clear hac1 hac2 hck1 hac hno hck hvt ht rN c1 hdl hdi hC hD hT' g1 g2 g3 e1 e2 e3 hDl hcl
      obtain ⟨d, hd⟩ : ∃ d, decide (C = []) = d := ⟨_, rfl⟩
      have hac2 := Hac2.out
      rw [hd] at hac2 hnb
      have Hac2 := Lib.hid hac2
      clear hac2 hd
      go_wp2_with fail
      refine (C1.out W6 hrp6 hg2).mono ?_
      rintro e w7 ⟨A3, c3, rfl, hr3, _, hb7⟩
      obtain ⟨W8, hW8, k11, hb8, hs8⟩ := boxG w7 (n : Int) A3 T.length c3
      have hb78 := hb7.trans (hb8.mono hb7.size)
      have k08 := k06.below hb78 k06.lt
      have k98 := k9.below hb78 k9.lt
      have hr38 := hr3.below hb8
      have hrp8 := hrp6.below hb78
      have hSr8 := hSr6.below hb78
      have hg18 := hg1.below hb78
      have hg28 := hg2.below hb78
      have hg38 := hg3.below hb78
      have hT8 := hT.below (endB hB6 hb78)
      clear hr3 hb7 hb8 y0 y1 n0 n1 n2 hg1 hg2 hg3 hs8
      obtain ⟨y0, y1, -, -⟩ := k08.two
      obtain ⟨n0, n1, n2, -, -⟩ := k98.threeE
      obtain ⟨t0, t1, -, -⟩ := k11.two
      go_upto_region 10 with fail
      go_cut [66] (fun v wx => v = .bool false ∧ Below W8.heap.size W8 wx)
      case first =>
        refine wp_region_textB [6, 7, 8, 9, 13, 14, 15, 16, 24] (fun w' => Below W8.heap.size W8 w') (fun _ => True) (by kernel_rfl) (by kernel_rfl) (by kernel_rfl) (Below.refl _ _).drew trivial ?_
        repeat (first
          | (refine TxtBL.skip (by rfl) ?_; simp only [Act.put, List.setIfInBounds_toArray, List.set_cons_zero, List.set_cons_succ])
          | (refine TxtBL.take (by rfl) (by rfl) ?_; apply Exists.intro; refine ⟨fun w1 hS1 => ?_, ?_⟩; (focus ((have g0 := (hS1.cell (lt_of_cell t0)).trans t0; have g1 := (hS1.cell (lt_of_cell t1)).trans t1; have g2 := (hS1.cell (lt_of_cell y0)).trans y0; have g3 := (hS1.cell (lt_of_cell y1)).trans y1; have g4 := (hS1.cell (lt_of_cell n0)).trans n0; have g5 := (hS1.cell (lt_of_cell n1)).trans n1; have g6 := (hS1.cell (lt_of_cell n2)).trans n2); go_simp; with_reducible rfl)); simp only [Act.put, List.setIfInBounds_toArray, List.set_cons_zero, List.set_cons_succ])
          | (refine TxtBL.takeE (by rfl) (by rfl) ?_; apply Exists.intro; refine ⟨fun w1 hS1 => ?_, ?_⟩; (focus ((have g0 := (hS1.cell (lt_of_cell t0)).trans t0; have g1 := (hS1.cell (lt_of_cell t1)).trans t1; have g2 := (hS1.cell (lt_of_cell y0)).trans y0; have g3 := (hS1.cell (lt_of_cell y1)).trans y1; have g4 := (hS1.cell (lt_of_cell n0)).trans n0; have g5 := (hS1.cell (lt_of_cell n1)).trans n1; have g6 := (hS1.cell (lt_of_cell n2)).trans n2); go_simp; with_reducible rfl)); simp only [Act.put, List.setIfInBounds_toArray, List.set_cons_zero, List.set_cons_succ]))
        refine TxtBL.call (f := 32) (args := #[.agg #[.int .i64 (n : Int), .slice A3 T.length c3], .slice AS S.length cS, .int .i64 kd]) (fun u => u = .bool true) (fun _ _ => True) (by rfl) (by rfl) ⟨_, rfl⟩ (fun w1 hS1 hJ1 => by go_simp) (fun w1 hS1 hJ1 => ?_) ?_
        · refine (Hac1.out A3 c3 w1 (hr38.below hS1) (hSr8.below hS1)).mono ?_
          rintro e w' ⟨rfl, hb⟩
          exact ⟨_, rfl, hS1.trans (hb.mono hS1.size), rfl, trivial⟩
        rintro _ rfl
        simp only [Act.put, List.setIfInBounds_toArray, List.set_cons_zero, List.set_cons_succ]
        repeat (first
          | (refine TxtBL.skip (by rfl) ?_; simp only [Act.put, List.setIfInBounds_toArray, List.set_cons_zero, List.set_cons_succ])
          | (refine TxtBL.take (by rfl) (by rfl) ?_; apply Exists.intro; refine ⟨fun w1 hS1 => ?_, ?_⟩; (focus ((have g0 := (hS1.cell (lt_of_cell t0)).trans t0; have g1 := (hS1.cell (lt_of_cell t1)).trans t1; have g2 := (hS1.cell (lt_of_cell y0)).trans y0; have g3 := (hS1.cell (lt_of_cell y1)).trans y1; have g4 := (hS1.cell (lt_of_cell n0)).trans n0; have g5 := (hS1.cell (lt_of_cell n1)).trans n1; have g6 := (hS1.cell (lt_of_cell n2)).trans n2); go_simp; with_reducible rfl)); simp only [Act.put, List.setIfInBounds_toArray, List.set_cons_zero, List.set_cons_succ])
          | (refine TxtBL.takeE (by rfl) (by rfl) ?_; apply Exists.intro; refine ⟨fun w1 hS1 => ?_, ?_⟩; (focus ((have g0 := (hS1.cell (lt_of_cell t0)).trans t0; have g1 := (hS1.cell (lt_of_cell t1)).trans t1; have g2 := (hS1.cell (lt_of_cell y0)).trans y0; have g3 := (hS1.cell (lt_of_cell y1)).trans y1; have g4 := (hS1.cell (lt_of_cell n0)).trans n0; have g5 := (hS1.cell (lt_of_cell n1)).trans n1; have g6 := (hS1.cell (lt_of_cell n2)).trans n2); go_simp; with_reducible rfl)); simp only [Act.put, List.setIfInBounds_toArray, List.set_cons_zero, List.set_cons_succ]))
        refine TxtBL.call (f := 20) (args := #[.agg #[.int .i64 (n : Int), .slice AL l.length cl], .int .i64 kd, .agg #[.slice AC nC cC, .slice AH nH cH, .slice AD nD cD]]) (fun u => u = .int .i64 0) (fun _ _ => True) (by rfl) (by rfl) ⟨_, rfl⟩ (fun w1 hS1 hJ1 => by go_simp) (fun w1 hS1 hJ1 => ?_) ?_
        · refine (Hck1.out w1 (hrp8.below hS1) (hg18.below hS1) (hT8.below hS1) (hg28.below hS1) (hg38.below hS1)).mono ?_
          rintro e w' ⟨rfl, hb⟩
          exact ⟨_, rfl, hS1.trans (hb.mono hS1.size), rfl, trivial⟩
        rintro _ rfl
        simp only [Act.put, List.setIfInBounds_toArray, List.set_cons_zero, List.set_cons_succ]
        repeat (first
          | (refine TxtBL.skip (by rfl) ?_; simp only [Act.put, List.setIfInBounds_toArray, List.set_cons_zero, List.set_cons_succ])
          | (refine TxtBL.take (by rfl) (by rfl) ?_; apply Exists.intro; refine ⟨fun w1 hS1 => ?_, ?_⟩; (focus ((have g0 := (hS1.cell (lt_of_cell t0)).trans t0; have g1 := (hS1.cell (lt_of_cell t1)).trans t1; have g2 := (hS1.cell (lt_of_cell y0)).trans y0; have g3 := (hS1.cell (lt_of_cell y1)).trans y1; have g4 := (hS1.cell (lt_of_cell n0)).trans n0; have g5 := (hS1.cell (lt_of_cell n1)).trans n1; have g6 := (hS1.cell (lt_of_cell n2)).trans n2); go_simp; with_reducible rfl)); simp only [Act.put, List.setIfInBounds_toArray, List.set_cons_zero, List.set_cons_succ])
          | (refine TxtBL.takeE (by rfl) (by rfl) ?_; apply Exists.intro; refine ⟨fun w1 hS1 => ?_, ?_⟩; (focus ((have g0 := (hS1.cell (lt_of_cell t0)).trans t0; have g1 := (hS1.cell (lt_of_cell t1)).trans t1; have g2 := (hS1.cell (lt_of_cell y0)).trans y0; have g3 := (hS1.cell (lt_of_cell y1)).trans y1; have g4 := (hS1.cell (lt_of_cell n0)).trans n0; have g5 := (hS1.cell (lt_of_cell n1)).trans n1; have g6 := (hS1.cell (lt_of_cell n2)).trans n2); go_simp; with_reducible rfl)); simp only [Act.put, List.setIfInBounds_toArray, List.set_cons_zero, List.set_cons_succ]))
        refine TxtBL.call (f := 32) (args := #[.agg #[.int .i64 (n : Int), .slice AL l.length cl], .slice AS S.length cS, .int .i64 kd]) (fun u => u = .bool d) (fun _ _ => True) (by rfl) (by rfl) ⟨_, rfl⟩ (fun w1 hS1 hJ1 => by go_simp) (fun w1 hS1 hJ1 => ?_) ?_
        · refine (Hac2.out w1 (hrp8.below hS1) (hSr8.below hS1)).mono ?_
          rintro e w' ⟨rfl, hb⟩
          exact ⟨_, rfl, hS1.trans (hb.mono hS1.size), rfl, trivial⟩
        rintro _ rfl
        simp only [Act.put, List.setIfInBounds_toArray, List.set_cons_zero, List.set_cons_succ]
        repeat (first
          | (refine TxtBL.skip (by rfl) ?_; simp only [Act.put, List.setIfInBounds_toArray, List.set_cons_zero, List.set_cons_succ])
          | (refine TxtBL.take (by rfl) (by rfl) ?_; apply Exists.intro; refine ⟨fun w1 hS1 => ?_, ?_⟩; (focus (skip; go_simp; with_reducible rfl)); simp only [Act.put, List.setIfInBounds_toArray, List.set_cons_zero, List.set_cons_succ])
          | (refine TxtBL.takeE (by rfl) (by rfl) ?_; apply Exists.intro; refine ⟨fun w1 hS1 => ?_, ?_⟩; (focus (skip; go_simp; with_reducible rfl)); simp only [Act.put, List.setIfInBounds_toArray, List.set_cons_zero, List.set_cons_succ]))
        refine TxtBL.nil (fun W2 hS2 _ => ?_)
        cases d
        all_goals
          go_wp2_with fail
          go_meet
          exact ⟨rfl, hS2⟩
      obtain ⟨rfl, hb9⟩ := hcut
      have hb79 := hb78.trans (hb9.mono hb78.size)
      have Hb79 := Lib.hid hb79
      clear hb9 hb79
      go_wp2_with fail
      go_meet
      exact ⟨rfl, Hb79.out⟩
  obtain ⟨rfl, hb7⟩ := hcut
  obtain ⟨W7, hW7⟩ : ∃ W7, W7 = wc := ⟨_, rfl⟩
  subst hW7
  have hB7 := endB hB6 hb7
  have k07 := k06.below hb7 k06.lt
  have k97 := k9.below hb7 k9.lt
  have hrp7 := hrp6.below hb7
  have hSr7 := hSr6.below hb7
  have hlo := enLoose_any AL (n : Int) l cl AS S cS kd W7 hrp7 (by omega) hSr7 (by omega) (hT.below hB7)
  have hle := loErr_good (G := l) (kind := kd) HV.out Hset.out Hk.out (by omega)
  obtain ⟨hb1, hb2, hb3, -⟩ := loS_ok (n := n) (G := l) (s := S) (kind := kd) Hset.out
  have hlen : er = 0 → (strC n l (loS n l S kd) kd).length ≤ nH := fun he => by
    obtain ⟨_, e2, _⟩ := Hdet.out he
    rw [e2]
    refine strC_le Hset.out ?_
    have := Hse.out
    rw [he] at this
    cases hx : hpB (n : Int) S kd
    · rfl
    · rw [hx] at this; cases this
  obtain ⟨b, hb⟩ : ∃ b, loS n l S kd = b := ⟨_, rfl⟩
  rw [hb] at hb1 hb2 hb3 hlen
  have hin := inside_sub hb2
  have hck := chkE_strict HV.out hb1 hb3 Hk.out
  have hcl := strC_len (s := b) (kind := kd) HV.out
  have hdl := dut_flat_len (s := b) (kind := kd) HV.out hb1 Hk.out
  have hdi := dut_mem_i64 HV.out hb1 hb3 Hk.out
  have hDl : (dutL n l b kd).length = (strC n l b kd).length := by unfold strC; rw [List.length_map]
  have hbl := setB_len hb1
  unfold RetEo at hlo
  simp only [hle, Int.toNat_natCast, hb] at hlo
  obtain ⟨C, hC⟩ : ∃ C, strC n l b kd = C := ⟨_, rfl⟩
  obtain ⟨D, hD⟩ : ∃ D, dutL n l b kd = D := ⟨_, rfl⟩
  rw [hC] at hlen hck hcl hDl
  rw [hD] at hck hdl hdi hDl
  simp only [hC, hD] at hlo
  have hck1 := fun A1 c1 A2 c2 A3 c3 W (h1 : RP W AL l) (h2 : RI W A1 b) (h3 : Tab W) (h4 : RP W A2 C) (h5 : RTo W A3 D) => enCheck_any AL (n : Int) l cl kd A1 b c1 A2 C c2 A3 D c3 W h1 (by omega) h2 (by omega) h3 h4 h5 (by rw [hDl]; omega) (hdl (by omega)) hdi
  rw [hck] at hck1
  have hnb : er = 0 → ¬ nH < C.length := fun he => by have := hlen he; omega
  have hin1 := fun A1 c1 W (h1 : RI W AS S) (h2 : RI W A1 b) => inside_any AS A1 S b cS c1 W (by omega) (by omega) h1 h2
  rw [hin] at hin1
  have Hlo := Lib.hid hlo; have Hck1 := Lib.hid hck1; have Hnb := Lib.hid hnb; have Hin1 := Lib.hid hin1
  clear hlo hck1 hnb hin1 hin hck hcl hdl hdi hDl hC hD hb hb1 hb2 hb3 hlen hle y0 y1 n0 n1 n2 hW6
  obtain ⟨y0, y1, -, -⟩ := k07.two
  go_wp2_with fail
  refine Hlo.out.mono ?_
  rintro e w8 ⟨hb8, h8⟩
  rcases h8 with ⟨h8, _⟩ | ⟨_, A1, c1, A2, c2, A3, c3, rfl, g1, g2, g3⟩
  · exact absurd rfl h8
  obtain ⟨W9, hW9, k13, hb9, hs9⟩ := boxEn w8 (.slice A1 b.length c1) (.slice A2 C.length c2) (.slice A3 D.length c3)
  have hb89 := hb8.trans (hb9.mono hb8.size)
  have hB9 := endB hB7 hb89
  have k09 := k07.below hb89 k07.lt
  have k99 := k97.below hb89 k97.lt
  have hrp9 := hrp7.below hb89
  have hSr9 := hSr7.below hb89
  have hg1 := g1.below hb9
  have hg2 := g2.below hb9
  have hg3 := g3.below hb9
  clear y0 y1 g1 g2 g3 hb8 hb9 hb89 k07 k97 hrp7 hSr7
  obtain ⟨y0, y1, -, -⟩ := k09.two
  obtain ⟨n0, n1, n2, -, -⟩ := k99.threeE
  obtain ⟨m0, m1, m2, -, -⟩ := k13.threeE
  go_wp2_with fail
  refine (Hin1.out A1 c1 W9 hSr9 hg1).mono ?_
  rintro e w' ⟨rfl, rfl⟩
  go_wp2_with fail
  refine (Hck1.out A1 c1 A2 c2 A3 c3 _ hrp9 hg1 (hT.below hB9) hg2 hg3).mono ?_
  rintro e w10 ⟨rfl, hb10⟩
  have hB10 := endB hB9 hb10
  have k910 := k99.below hb10 k99.lt
  have k1310 := k13.below hb10 k13.lt
  clear y0 y1 n0 n1 n2 m0 m1 m2 hW9
  obtain ⟨n0, n1, n2, -, -⟩ := k910.threeE
  obtain ⟨m0, m1, m2, -, -⟩ := k1310.threeE
  have haw := awake21_any w10 (hT.below hB10)
  by_cases he : er = 0
  case pos =>
    have hnb := Hnb.out he
    have hnb2 : ¬ ((nH : Nat) : Int) < ((C.length : Nat) : Int) := by omega
    have hd : (er == 0) = true := by simp [he]
    clear he
    go_wp2_with fail
    refine haw.mono ?_
    rintro e w12 ⟨rfl, hb12⟩
    go_wp2_with fail
    go_ret
    exact ⟨rfl, endB hB10 hb12⟩
  case neg =>
    have hd : (er == 0) = false := by simp [he]
    clear he
    go_wp2_with fail
    refine haw.mono ?_
    rintro e w12 ⟨rfl, hb12⟩
    go_wp2_with fail
    go_ret
    exact ⟨rfl, endB hB10 hb12⟩
end Go.Proofs.YtncimnfhfomddaaDoor
