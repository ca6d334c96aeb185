import Derived.Test.YtncimnfhfomddaaDoorLesP
import Derived.Test.YtncimnfhfomddaaDoorLov
import Derived.Test.YtncimnfhfomddaaDoorNgC
/- law21: the walk of EnforceLeast. -/
namespace Go.Proofs.YtncimnfhfomddaaDoor
open Go.ChangeShapes Go.WideShapes Go.ChangeAt Go.RowKit

set_option maxRecDepth 100000 in
set_option maxHeartbeats 16000000 in
theorem les_law_any (A : Option Addr) (arg : List Int) (c : Nat) (bk : Bool) (w : World)
    (hlc : arg.length ≤ c) (hc : c ≤ 9223372036854775807) (hr : RI w A arg) (hx : ∀ x ∈ arg, -9223372036854775808 ≤ x ∧ x ≤ 9223372036854775807) (hT : Tab w) :
    Calls Tryd.prog 6 #[.slice A arg.length c, .bool bk] w (RetB (.bool true) w) := by
  go_enter Tryd.func6, Tryd.ntmps6
  go_wp2_with fail
  refine (new_any A arg c w hlc hc hr hx).mono ?_
  rintro e w1 ⟨p, rfl, hp, hs1, hb1⟩
  clear hr hx
  go_wp2_with fail
  refine (netGraphC_any p 3 w1 hs1 (by omega) (by omega)).mono ?_
  rintro e w2 ⟨n, l, AL, cl, rfl, hN1, hN, hv, hrp, hloc, hs2, hg2, hAn, hAc⟩
  have hb2 : Below w.heap.size w w2 := hb1.trans (below_of_grownBy hg2 hp hb1.size)
  have hpl2 := hs2.lt
  have hpl1 := hs1.lt
  have hll : l.length ≤ 9 := Nat.le_trans (len_vld2 hv) (Nat.mul_le_mul hN hN)
  have HV := Lib.hid hv
  have Hloc := Lib.hid hloc
  have HAn := Lib.hid (And.intro hAn hAc)
  clear hs1 hb1 hg2 hv hloc hAn hAc
  go_upto_region 3 with fail
  obtain ⟨W0, hW, k0, hb0, hs0⟩ := boxG w2 (n : Int) AL l.length cl
  rw [hW]
  obtain ⟨z0, z1, -, -⟩ := k0.two
  have hrp0 := hrp.below hb0
  have hB0 := endB hb2 hb0
  have hs3 := hs2.kept hb0
  clear hW hrp hs2 hb2 hs0 hb0
  generalize w2.heap.size = G at *
  go_wp2_with fail
  refine (nwSome_any p n W0 hs3 (by omega)).mono ?_
  rintro e w4 ⟨S, AS, cS, rfl, hset, hSo, hs4, hg4⟩
  have hB4 : Below w.heap.size w w4 := hB0.trans (below_of_grownBy hg4 hp hB0.size)
  have k04 := k0.grown hg4 (by simp; omega)
  have hrp4 := hrp0.grown hg4 (fun b o e hl => by have := Hloc.out b o e; omega)
  have hSl := setB_len hset
  have hSf : AS = none → S = [] ∧ cS = 0 := fun e => by
    subst e
    obtain ⟨_, h2⟩ := hSo
    rcases h2 with ⟨e, h0⟩ | ⟨g, cap, cur, e, _⟩
    · injection e with _ _ e3
      exact ⟨List.eq_nil_of_length_eq_zero h0, e3⟩
    · cases e
  have hSr := OwnI.ri hSo
  have Hset := Lib.hid hset; have HSf := Lib.hid hSf
  have hGB : G < w4.heap.size := k04.lt
  clear z0 z1 k0 hrp0 hB0 hs3 hSo hg4 hs4 hp hpl1 hpl2 hset hSf Hloc
  obtain ⟨kd, hkd⟩ : ∃ kd : Int, kd = if bk then 2 else 1 := ⟨_, rfl⟩
  have hk : kd = 1 ∨ kd = 2 := by rw [hkd]; cases bk <;> simp
  have Hkd := Lib.hid hkd; have Hk := Lib.hid hk
  clear hkd hk
  go_upto_if 30 with fail
  go_cut [8] (fun v wx => v = .int .i64 kd ∧ wx = w4)
  case first =>
    cases bk
    · go_wp2_with fail
      go_meet
      exact ⟨by rw [Hkd.out]; rfl, rfl⟩
    · go_wp2_with fail
      go_meet
      exact ⟨by rw [Hkd.out]; rfl, rfl⟩
  obtain ⟨rfl, rfl⟩ := hcut
  obtain ⟨W4, hW4⟩ : ∃ W4, W4 = wc := ⟨_, rfl⟩
  subst hW4
  obtain ⟨y0, y1, -, -⟩ := k04.two
  have hst := enStrict_any AL (n : Int) l cl AS S cS kd W4 hrp4 (by omega) hSr HSf.out (by omega) (hT.below hB4)
  have hse := stErr_good HV.out Hset.out Hk.out
  have hse2 := hse
  have hle := loErr_good (G := l) (kind := kd) HV.out Hset.out Hk.out (by omega)
  have hb1 := loS_ok (n := n) (G := l) (s := S) (kind := kd) Hset.out
  have hlo := fun W h1 h2 h3 => enLoose_any AL (n : Int) l cl AS S cS kd W h1 (by omega) h2 (by omega) h3
  obtain ⟨b0, hb0⟩ : ∃ b0, loS n l S kd = b0 := ⟨_, rfl⟩
  have hcl := strC_len (s := S) (kind := kd) HV.out
  have hcl2 := strC_len (s := b0) (kind := kd) HV.out
  unfold RetEo at hlo
  simp only [hle, Int.toNat_natCast, hb0] at hlo
  rw [hb0] at hb1
  obtain ⟨er, her⟩ : ∃ er, stErr (n : Int) l S kd = er := ⟨_, rfl⟩
  rw [her] at hse
  have Hst := Lib.hid hst; have Hse := Lib.hid hse; have Hlo := Lib.hid hlo; have Hb0 := Lib.hid hb0
  clear hst hse hse2 hlo hle hb1 hb0
  go_wp2_with fail
  refine Hst.out.mono ?_
  rintro e w5 ⟨hb5, h5⟩
  obtain ⟨AC, nC, cC, AH, nH, cH, AD, nD, cD, rfl, hdet⟩ : ∃ AC nC cC AH nH cH AD nD cD, e = .returned (.tuple #[.agg #[.slice AC nC cC, .slice AH nH cH, .slice AD nD cD], .int .i64 er]) ∧
      (er = 0 → nH = (strC n l S kd).length) := by
    rw [her] at h5
    rcases h5 with ⟨h1, h2⟩ | ⟨h1, AC, cC, AH, cH, AD, cD, h2, h3, h4, h5⟩
    · exact ⟨none, 0, 0, none, 0, 0, none, 0, 0, h2, fun e => absurd e h1⟩
    · rw [Int.toNat_natCast] at h2 h4 h5
      exact ⟨AC, _, cC, AH, _, cH, AD, _, cD, by rw [h2, h1], fun _ => rfl⟩
  have hB5 := endB hB4 hb5
  have k05 := k04.below hb5 k04.lt
  have hrp5 := hrp4.below hb5
  have hSr5 := hSr.below hb5
  have Hdet := Lib.hid hdet
  obtain ⟨W6, hW6, k9, hb6, hs6⟩ := boxEn w5 (.slice AC nC cC) (.slice AH nH cH) (.slice AD nD cD)
  have hB6 := endB hB5 hb6
  have k06 := k05.below hb6 k05.lt
  have hrp6 := hrp5.below hb6
  have hSr6 := hSr5.below hb6
  clear hdet h5 hb5 y0 y1 k04 k05 hrp4 hrp5 hSr hSr5 hB4 hB5 her hs6
  obtain ⟨y0, y1, -, -⟩ := k06.two
  go_wp2_with fail
  refine (Hlo.out W6 hrp6 hSr6 (hT.below hB6)).mono ?_
  rintro e w8 ⟨hb8, h8⟩
  rcases h8 with ⟨h8, _⟩ | ⟨_, A1, c1, A2, c2, A3, c3, rfl, -, -, -⟩
  · exact absurd rfl h8
  obtain ⟨C, hC⟩ : ∃ C, strC n l b0 kd = C := ⟨_, rfl⟩
  obtain ⟨nD0, hnD0⟩ : ∃ m, (dutL n l b0 kd).length = m := ⟨_, rfl⟩
  have HC := Lib.hid hC
  rw [hC] at hcl2
  rw [hC, hnD0]
  obtain ⟨W9, hW9, k11, hb9, hs9⟩ := boxEn w8 (.slice A1 b0.length c1) (.slice A2 C.length c2) (.slice A3 nD0 c3)
  have hb89 := hb8.trans (hb9.mono hb8.size)
  have hB9 := endB hB6 hb89
  have k09 := k06.below hb89 k06.lt
  have k99 := k9.below hb89 k9.lt
  have hrp9 := hrp6.below hb89
  have hSr9 := hSr6.below hb89
  clear y0 y1 hb8 hb9 hb89 k06 k9 hrp6 hSr6 hC hnD0
  obtain ⟨y0, y1, -, -⟩ := k09.two
  have her : (er == 0) = true ∧ er = 0 ∨ (er != 0) = true ∧ (er != 9) = false ∧ er = 9 := by
    have := Hse.out
    split at this
    · exact .inr ⟨by rw [this]; rfl, by rw [this]; rfl, this⟩
    · exact .inl ⟨by rw [this]; rfl, this⟩
  have Her := Lib.hid her
  have hen : (er != 0) = false ∨ (er != 0) = true ∧ (er != 9) = false := by
    rcases her with ⟨_, h⟩ | ⟨h1, h2, _⟩
    · exact .inl (by rw [h]; rfl)
    · exact .inr ⟨h1, h2⟩
  clear her
  go_upto_region 9 with fail
  go_cut [54] (fun v wx => v = .bool false ∧ wx = W9)
  case first =>
    rcases hen with h1 | ⟨h1, h2⟩
    · go_wp2_with fail
      go_meet
      exact ⟨rfl, rfl⟩
    · go_wp2_with fail
      go_meet
      exact ⟨rfl, rfl⟩
  obtain ⟨rfl, rfl⟩ := hcut
  obtain ⟨WA, hWA⟩ : ∃ WA, WA = wc := ⟨_, rfl⟩
  subst hWA
  clear hen hW9
  obtain ⟨q, hq⟩ : ∃ q, n * n = q := ⟨_, rfl⟩
  have hq9 : q ≤ 9 := by rw [← hq]; exact Nat.mul_le_mul hN hN
  have hqq : (n : Int) * (n : Int) = (q : Int) := by rw [← hq]; push_cast; rfl
  have hwn : IntKind.u64.wrap (n : Int) = (n : Int) := by rw [IntKind.wrap_u64]; omega
  have hwq : IntKind.u64.wrap (q : Int) = (q : Int) := by rw [IntKind.wrap_u64]; omega
  have hshE : IntKind.u64.wrap (2 ^ q) = ((2 ^ q : Nat) : Int) := by
    have h1 := u64_one_shl q (by omega)
    rw [Int.one_mul, Nat.one_shiftLeft] at h1
    exact h1
  have hshM : IntKind.u64.wrap (2 ^ n) = ((2 ^ n : Nat) : Int) := by
    have h1 := u64_one_shl n (by omega)
    rw [Int.one_mul, Nat.one_shiftLeft] at h1
    exact h1
  have hE512 : 2 ^ q ≤ 512 := Nat.pow_le_pow_right (n := 2) (by omega) hq9
  have hM8 : 2 ^ n ≤ 8 := Nat.pow_le_pow_right (n := 2) (by omega) hN
  obtain ⟨E, hE⟩ : ∃ E, 2 ^ q = E := ⟨_, rfl⟩
  obtain ⟨M, hM⟩ : ∃ M, 2 ^ n = M := ⟨_, rfl⟩
  rw [hE] at hE512
  rw [hM] at hM8
  have hsE : IntKind.u64.wrap (2 ^ q) = (E : Int) := by rw [hshE, hE]
  have hsM : IntKind.u64.wrap (2 ^ n) = (M : Int) := by rw [hshM, hM]
  have hM0 : 0 < M := by rw [← hM]; exact Nat.two_pow_pos n
  have HE := Lib.hid hE; have HM := Lib.hid hM; have Hq := Lib.hid hq
  clear hE hM hq hshE hshM
  go_wp2_with fail
  go_loopw [13, 14, 15] (fun v u t wr => ∃ b : Nat, b ≤ E ∧ t = .int .u64 (b : Int) ∧ v = .int .i64 (minK (stF n l S kd) b) ∧ u = .int .i64 (minK (loF n l S kd) (b * M)) ∧ Below WA.heap.size WA wr) (fun _ _ t _ => E - (intOf t).toNat)
  case atStart => exact ⟨0, Nat.zero_le _, rfl, rfl, by rw [Nat.zero_mul]; rfl, Below.refl _ _⟩
  case round =>
    obtain ⟨b, hb, rfl, rfl, rfl, hbw⟩ := hrel
    have hbW := endB hB9 hbw
    have k0 := k09.below hbw k09.lt
    have k9r := k99.below hbw k99.lt
    have k11r := k11.below hbw k11.lt
    obtain ⟨d0, d1, -, -⟩ := k0.two
    by_cases hlt : b < E
    case pos =>
      obtain ⟨wb, hwbe⟩ : ∃ wb, wb = wr := ⟨_, rfl⟩
      subst hwbe
      have k0b := k0
      have d0b := d0
      have hb64 : b < 18446744073709551616 := by omega
      have hbq : b < 2 ^ (n * n) := by rw [Hq.out, HE.out]; exact hlt
      have hwb : IntKind.u64.wrap ((b : Int) + 1) = ((b + 1 : Nat) : Int) := by rw [IntKind.wrap_u64]; omega
      have hmem := nwMem_any b hb64
      have hQl := nodesB_length 64 b.testBit
      have hPl := prL_len n b
      have hPo := prL_ok (n := n) (by omega) hbq
      have hPn := prL_nodup (n := n) b
      obtain ⟨P, hP⟩ : ∃ P, prL n b = P := ⟨_, rfl⟩
      have hPd : P = (nodesB 64 b.testBit).map (prN n) := by rw [← hP]; rfl
      obtain ⟨Q, hQ⟩ : ∃ Q, nodesB 64 b.testBit = Q := ⟨_, rfl⟩
      have hQm : ∀ x ∈ Q, ∃ i : Nat, x = (i : Int) ∧ i < 64 := fun x hx => by
        rw [← hQ] at hx
        obtain ⟨i, h1, _, h2⟩ := mem_nodesB.1 hx
        exact ⟨i, h2, h1⟩
      rw [hQ] at hmem hQl hPl hPd
      rw [hP] at hPl hPo hPn
      have Hmem := Lib.hid hmem; have HP := Lib.hid hP; have HPd := Lib.hid hPd; have HQm := Lib.hid hQm; have HPo := Lib.hid hPo; have HPn := Lib.hid hPn; have HPl := Lib.hid hPl
      clear hmem hP hPd hQ hQm hPo hPn hPl hbq
      go_upto_region 16 with fail
      obtain ⟨W1, hW1, kh, hbh, hsh⟩ := boxG wb (n : Int) AL l.length cl
      rw [hW1]
      have hb1 := hbw.trans (hbh.mono hbw.size)
      have hB1 := endB hB9 hb1
      have k01 := k0.below hbh k0.lt
      have hbh' := hbh
      clear hW1 hbh k0 d0 d1
      obtain ⟨d0, d1, -, -⟩ := k01.two
      have hlt1 : wb.heap.size < W1.heap.size := by omega
      clear hsh
      go_wp2_with fail
      refine (Hmem.out W1).mono ?_
      rintro e w2' ⟨AQ, cQ, rfl, hoQ, hrQ, -, hb2'⟩
      have hb12 := hb1.trans (hb2'.mono hb1.size)
      have kh2 := kh.below hb2' hlt1
      have HoQ := Lib.hid hoQ
      clear hoQ hrQ kh
      go_wp2_with fail
      have hrl2 := hrp9.below (hb1.trans (hb2'.mono hb1.size))
      obtain ⟨W2, hW2⟩ : ∃ W2, W2 = w2' := ⟨_, rfl⟩
      subst hW2
      have hlt2 : wb.heap.size < W2.heap.size := Nat.lt_of_lt_of_le hlt1 hb2'.size
      have k0w := k01.below hb2' k01.lt
      have hb2w : Below wb.heap.size wb W2 := by
        have h1 : Below wb.heap.size wb W1 := hbh'
        exact h1.trans (hb2'.mono (Nat.le_of_lt hlt1))
      go_loopw [17, 70] (fun v i wx => ∃ (j : Nat) (AG : Option Addr) (cG : Nat), j ≤ Q.length ∧ i = .int .i64 (j : Int) ∧ v = .int .i64 (j : Int) ∧ Blk wx wb.heap.size 24 #[.int .i64 (n : Int), .slice AG (togsR l (P.take j)).length cG] ∧ RP wx AG (togsR l (P.take j)) ∧ (AG = none → togsR l (P.take j) = [] ∧ cG = 0) ∧ (togsR l (P.take j)).length ≤ cG ∧ Below wb.heap.size wb wx ∧ OwnI wx W1.heap.size (.slice AQ Q.length cQ) Q) (fun _ i _ => Q.length - (intOf i).toNat)
      case atStart => exact ⟨0, AL, cl, Nat.zero_le _, rfl, rfl, kh2, hrl2, HAn.out.1, HAn.out.2, hb2w, HoQ.out⟩
      case round =>
        obtain ⟨j, AG, cG, hj, rfl, rfl, kh, hrg, hfg, hcg, hbx, hoQ⟩ := hrel
        have hgl := togsR_len l (P.take j)
        rw [List.length_take] at hgl
        have hbW2 := hbW.trans (hbx.mono hbW.size)
        have k0x := k0b.below hbx k0b.lt
        clear d0 d1
        obtain ⟨d0, d1, -, -⟩ := k0x.two
        have HoQ := Lib.hid hoQ
        have hri := OwnI.ri hoQ
        by_cases hjl : j < Q.length
        case pos =>
          have hjP : j < P.length := by rw [HPl.out]; exact hjl
          obtain ⟨bq, oq, hAQ, hcell⟩ := hri.at_ hjl
          obtain ⟨x, hx, hx64⟩ := HQm.out _ (List.getElem_mem hjl)
          have hPj : P[j] = (((x / n : Nat) : Int), ((x % n : Nat) : Int)) := by
            have e : P[j] = prN n Q[j] := by simp only [HPd.out, List.getElem_map]
            rw [e, hx]
            unfold prN
            rw [Int.toNat_natCast]
          have hok : okP n P[j] := HPo.out _ (List.getElem_mem hjP)
          have hnd1 : (P.take j).Nodup := HPn.out.sublist (List.take_sublist ..)
          have hHv : Vld n (togsR l (P.take j)) := by
            rw [togsR_tgL HV.out.2 hnd1]
            exact tgL_vld HV.out (tgE_ok (fun q hq => HPo.out q (List.mem_of_mem_take hq)) hnd1) (by rw [List.length_take]; omega)
          have hstp := togsR_step (G := l) hjP
          have hte : tgErr n (togsR l (P.take j)) [P[j]] = 0 := by
            unfold tgErr
            rw [if_pos hHv.valE]
            exact tgE_ok (fun q hq => by rw [List.mem_singleton] at hq; subst hq; exact hok) (by simp)
          have htl : tgL (togsR l (P.take j)) [P[j]] = togsR l (P.take (j + 1)) := by
            rw [← togsR_tgL hHv.2 (by simp), hstp]; rfl
          obtain ⟨H, hH⟩ : ∃ H, togsR l (P.take j) = H := ⟨_, rfl⟩
          obtain ⟨H2, hH2⟩ : ∃ H2, togsR l (P.take (j + 1)) = H2 := ⟨_, rfl⟩
          obtain ⟨y1, hy1⟩ : ∃ y : Nat, x / n = y := ⟨_, rfl⟩
          obtain ⟨y2, hy2⟩ : ∃ y : Nat, x % n = y := ⟨_, rfl⟩
          rw [hy1, hy2] at hPj
          rw [hPj] at hte htl
          rw [hH] at hte htl hrg hfg hcg hgl
          rw [hH2] at htl
          have hkh := kh
          rw [hH] at hkh
          obtain ⟨nH, hnH⟩ : ∃ nH, (togsR l (P.take j)).length = nH := ⟨_, rfl⟩
          have hnH' : nH = H.length := by rw [← hnH, hH]
          rw [← hnH'] at hkh
          have htg := fun gv W (h1 : RP W AG H) (h2 : RP W (some ⟨gv, 0, none⟩) [((y1 : Int), (y2 : Int))]) => rToggle_any AG (some ⟨gv, 0, none⟩) (n : Int) H [((y1 : Int), (y2 : Int))] cG 1 W h1 h2 (by simp; omega) hfg hcg (by simp)
          unfold RetTh at htg
          have e1 : tgN (n : Int) H [((y1 : Int), (y2 : Int))] = n := by unfold tgN; rw [if_pos hte]
          have e2 : tgG (n : Int) H [((y1 : Int), (y2 : Int))] = H2 := by unfold tgG; rw [if_pos hte, htl]
          simp only [e1, e2, hte] at htg
          rw [← hnH'] at htg
          have hq1 : ((x : Int)).tdiv (n : Int) = (y1 : Int) := by rw [Int.tdiv_eq_ediv_of_nonneg (by omega), ← hy1]; simp
          have hq2 : ((x : Int)).tmod (n : Int) = (y2 : Int) := by rw [Int.tmod_eq_emod_of_nonneg (by omega), ← hy2]; simp
          have hn0 : ¬ n = 0 := by omega
          have hy64 : y1 ≤ 64 ∧ y2 ≤ 64 := by rw [← hy1, ← hy2]; exact ⟨Nat.le_trans (Nat.div_le_self ..) (by omega), Nat.le_trans (Nat.le_of_lt (Nat.mod_lt x (by omega))) (by omega)⟩
          have hn0' : IntKind.i64.wrap (y1 : Int) = (y1 : Int) := by rw [IntKind.wrap_i64]; omega
          have hn0b : IntKind.i64.wrap (y2 : Int) = (y2 : Int) := by rw [IntKind.wrap_i64]; omega
          rw [hx] at hcell
          have Htg := Lib.hid htg; have Hkh := Lib.hid hkh; have HH2 := Lib.hid hH2; have Hrg := Lib.hid hrg
          subst hAQ
          clear htg hkh hH2 hrg hPj hok hnd1 hHv hstp hte htl hnH' hH hy1 hy2 hfg hcg hgl e1 e2 kh hx
          have kh := Hkh.out
          obtain ⟨g0, g1, g2, g3⟩ := kh.two
          obtain ⟨wo, hwo⟩ : ∃ wo, wo = wr := ⟨_, rfl⟩
          subst hwo
          go_upto_region 20 with fail
          clear hcell
          refine wp_region_tree [0, 10, 11, 15] (fun w' => Below wb.heap.size wb w') (fun w' => Below wo.heap.size wo w') 16 [0, 1, 2, 3, 4, 5, 6, 7, 8, 9, 10, 11, 12, 13, 14, 15] (by rfl) (by decide) (by kernel_rfl) (by kernel_rfl) hbx.drew (Below.refl _ _).drew ?_
          refine TxtT.pure 1 (by rfl) (by rw [List.getElem?_toArray]; rfl) (by rfl) (by as_aux_lemma => kernel_rfl) (by rfl) ?_; apply Exists.intro; refine ⟨fun w1 hS1 => ?_, ?_⟩; (focus (skip; go_simp; with_reducible rfl))
          rw [show List.erase [0, 1, 2, 3, 4, 5, 6, 7, 8, 9, 10, 11, 12, 13, 14, 15] 1 = [0, 2, 3, 4, 5, 6, 7, 8, 9, 10, 11, 12, 13, 14, 15] from rfl]; simp only [Act.put, List.setIfInBounds_toArray, List.set_cons_zero, List.set_cons_succ]
          refine TxtT.pure 2 (by rfl) (by rw [List.getElem?_toArray]; rfl) (by rfl) (by as_aux_lemma => kernel_rfl) (by rfl) ?_; apply Exists.intro; refine ⟨fun w1 hS1 => ?_, ?_⟩; (focus (skip; go_simp; with_reducible rfl))
          rw [show List.erase [0, 2, 3, 4, 5, 6, 7, 8, 9, 10, 11, 12, 13, 14, 15] 2 = [0, 3, 4, 5, 6, 7, 8, 9, 10, 11, 12, 13, 14, 15] from rfl]; simp only [Act.put, List.setIfInBounds_toArray, List.set_cons_zero, List.set_cons_succ]
          refine TxtT.pure 3 (by rfl) (by rw [List.getElem?_toArray]; rfl) (by rfl) (by as_aux_lemma => kernel_rfl) (by rfl) ?_; apply Exists.intro; refine ⟨fun w1 hS1 => ?_, ?_⟩; (focus ((have f0 := (hS1.cell (p := ⟨G, 0, none⟩) k0b.lt).trans d0b); go_simp; with_reducible rfl))
          rw [show List.erase [0, 3, 4, 5, 6, 7, 8, 9, 10, 11, 12, 13, 14, 15] 3 = [0, 4, 5, 6, 7, 8, 9, 10, 11, 12, 13, 14, 15] from rfl]; simp only [Act.put, List.setIfInBounds_toArray, List.set_cons_zero, List.set_cons_succ]
          refine TxtT.pure 4 (by rfl) (by rw [List.getElem?_toArray]; rfl) (by rfl) (by as_aux_lemma => kernel_rfl) (by rfl) ?_; apply Exists.intro; refine ⟨fun w1 hS1 => ?_, ?_⟩; (focus (skip; go_simp; with_reducible rfl))
          rw [show List.erase [0, 4, 5, 6, 7, 8, 9, 10, 11, 12, 13, 14, 15] 4 = [0, 5, 6, 7, 8, 9, 10, 11, 12, 13, 14, 15] from rfl]; simp only [Act.put, List.setIfInBounds_toArray, List.set_cons_zero, List.set_cons_succ]
          refine TxtT.pure 5 (by rfl) (by rw [List.getElem?_toArray]; rfl) (by rfl) (by as_aux_lemma => kernel_rfl) (by rfl) ?_; apply Exists.intro; refine ⟨fun w1 hS1 => ?_, ?_⟩; (focus (skip; go_simp; with_reducible rfl))
          rw [show List.erase [0, 5, 6, 7, 8, 9, 10, 11, 12, 13, 14, 15] 5 = [0, 6, 7, 8, 9, 10, 11, 12, 13, 14, 15] from rfl]; simp only [Act.put, List.setIfInBounds_toArray, List.set_cons_zero, List.set_cons_succ]
          refine TxtT.pure 6 (by rfl) (by rw [List.getElem?_toArray]; rfl) (by rfl) (by as_aux_lemma => kernel_rfl) (by rfl) ?_; apply Exists.intro; refine ⟨fun w1 hS1 => ?_, ?_⟩; (focus (skip; go_simp; with_reducible rfl))
          rw [show List.erase [0, 6, 7, 8, 9, 10, 11, 12, 13, 14, 15] 6 = [0, 7, 8, 9, 10, 11, 12, 13, 14, 15] from rfl]; simp only [Act.put, List.setIfInBounds_toArray, List.set_cons_zero, List.set_cons_succ]
          refine TxtT.pure 7 (by rfl) (by rw [List.getElem?_toArray]; rfl) (by rfl) (by as_aux_lemma => kernel_rfl) (by rfl) ?_; apply Exists.intro; refine ⟨fun w1 hS1 => ?_, ?_⟩; (focus ((have f0 := (hS1.cell (p := ⟨G, 0, none⟩) k0b.lt).trans d0b); go_simp; with_reducible rfl))
          rw [show List.erase [0, 7, 8, 9, 10, 11, 12, 13, 14, 15] 7 = [0, 8, 9, 10, 11, 12, 13, 14, 15] from rfl]; simp only [Act.put, List.setIfInBounds_toArray, List.set_cons_zero, List.set_cons_succ]
          refine TxtT.pure 8 (by rfl) (by rw [List.getElem?_toArray]; rfl) (by rfl) (by as_aux_lemma => kernel_rfl) (by rfl) ?_; apply Exists.intro; refine ⟨fun w1 hS1 => ?_, ?_⟩; (focus (skip; go_simp; with_reducible rfl))
          rw [show List.erase [0, 8, 9, 10, 11, 12, 13, 14, 15] 8 = [0, 9, 10, 11, 12, 13, 14, 15] from rfl]; simp only [Act.put, List.setIfInBounds_toArray, List.set_cons_zero, List.set_cons_succ]
          refine TxtT.pure 9 (by rfl) (by rw [List.getElem?_toArray]; rfl) (by rfl) (by as_aux_lemma => kernel_rfl) (by rfl) ?_; apply Exists.intro; refine ⟨fun w1 hS1 => ?_, ?_⟩; (focus (skip; go_simp; with_reducible rfl))
          rw [show List.erase [0, 9, 10, 11, 12, 13, 14, 15] 9 = [0, 10, 11, 12, 13, 14, 15] from rfl]; simp only [Act.put, List.setIfInBounds_toArray, List.set_cons_zero, List.set_cons_succ]
          refine TxtT.two 0 10 (by as_aux_lemma => kernel_rfl) (by rw [List.getElem?_toArray]; rfl) (by rw [List.getElem?_toArray]; rfl) (by rfl) (by rfl) (by rfl) (by rfl) (fun v => v = Value.agg #[.int .i64 (n : Int), .slice AG nH cG]) (fun v w' => v = Value.agg #[.int .i64 (n : Int), .slice AG nH cG] ∧ Below wo.heap.size wo w') (fun v => ∃ gv, v = Value.slice (some ⟨gv, 0, none⟩) 1 1) (fun v w' => ∃ gv, v = Value.slice (some ⟨gv, 0, none⟩) 1 1 ∧ Below wo.heap.size wo w' ∧ RP w' (some ⟨gv, 0, none⟩) [((y1 : Int), (y2 : Int))]) (fun w1 hS1 hJ1 => ?_) (fun w1 hS1 hJ1 => ?_) ?_ ?_
          · have g0' := (hJ1.cell (lt_of_cell g0)).trans g0; have g1' := (hJ1.cell (lt_of_cell g1)).trans g1
            exact Eff.value (w' := w1) (v := .agg #[.int .i64 (n : Int), .slice AG nH cG]) (by go_simp) ⟨hS1, rfl, rfl, hJ1⟩
          · exact Eff.value (w' := w1.alloc (.cells #[.int .i64 (y1 : Int), .int .i64 (y2 : Int)] 42)) (v := .slice (some ⟨w1.heap.size, 0, none⟩) 1 1) (by go_simp) ⟨hS1.trans ((newB w1 _).mono hS1.size), ⟨_, rfl⟩, _, rfl, hJ1.trans ((newB w1 _).mono hJ1.size), OwnP.rpr (own_onePr w1 ((y1 : Int), (y2 : Int)) _ (Nat.le_refl _))⟩
          ·
            rintro _ rfl
            rw [show List.erase [0, 10, 11, 12, 13, 14, 15] 0 = [10, 11, 12, 13, 14, 15] from rfl]; simp only [Act.put, List.setIfInBounds_toArray, List.set_cons_zero, List.set_cons_succ]
            refine TxtT.weakJ (J2 := fun w' => Below wo.heap.size wo w') (fun w1 h => h.2) ?_
            refine TxtT.one 10 (by as_aux_lemma => kernel_rfl) (by rw [List.getElem?_toArray]; rfl) (by rfl) (by rfl) (fun v => ∃ gv, v = Value.slice (some ⟨gv, 0, none⟩) 1 1) (fun v w' => ∃ gv, v = Value.slice (some ⟨gv, 0, none⟩) 1 1 ∧ Below wo.heap.size wo w' ∧ RP w' (some ⟨gv, 0, none⟩) [((y1 : Int), (y2 : Int))]) (fun w1 hS1 hJ1 => ?_) ?_
            · exact Eff.value (w' := w1.alloc (.cells #[.int .i64 (y1 : Int), .int .i64 (y2 : Int)] 42)) (v := .slice (some ⟨w1.heap.size, 0, none⟩) 1 1) (by go_simp) ⟨hS1.trans ((newB w1 _).mono hS1.size), ⟨_, rfl⟩, _, rfl, hJ1.trans ((newB w1 _).mono hJ1.size), OwnP.rpr (own_onePr w1 ((y1 : Int), (y2 : Int)) _ (Nat.le_refl _))⟩
            rintro _ ⟨gv, rfl⟩
            rw [show List.erase [10, 11, 12, 13, 14, 15] 10 = [11, 12, 13, 14, 15] from rfl]; simp only [Act.put, List.setIfInBounds_toArray, List.set_cons_zero, List.set_cons_succ]
            refine TxtT.weakJ (J2 := fun w' => Below wo.heap.size wo w' ∧ RP w' (some ⟨gv, 0, none⟩) [((y1 : Int), (y2 : Int))]) (fun w1 h => by obtain ⟨g', hq, h⟩ := h; injection hq with hq; injection hq with hq; injection hq with hq _ _; subst hq; exact h) ?_
            refine TxtT.one 11 (by as_aux_lemma => kernel_rfl) (by rw [List.getElem?_toArray]; rfl) (by rfl) (by rfl) (fun v => ∃ A' nZ c', v = Value.tuple #[.agg #[.int .i64 (n : Int), .slice A' nZ c'], .int .i64 0]) (fun v w' => ∃ A' nZ c', v = Value.tuple #[.agg #[.int .i64 (n : Int), .slice A' nZ c'], .int .i64 0] ∧ Below wo.heap.size wo w' ∧ nZ = H2.length ∧ RP w' A' H2 ∧ (A' = none → H2 = [] ∧ c' = 0) ∧ H2.length ≤ c') (fun w1 hS1 hJ1 => ?_) ?_
            · refine Eff.call (f := 26) (args := #[.agg #[.int .i64 (n : Int), .slice AG nH cG], .slice (some ⟨gv, 0, none⟩) 1 1]) (by go_simp) ((Htg.out gv w1 (Hrg.out.below hJ1.1) hJ1.2).mono ?_)
              rintro e w' ⟨A', c', rfl, h1, h2, h3, hb⟩
              exact ⟨_, rfl, hS1.trans (hb.mono hS1.size), ⟨A', _, c', rfl⟩, A', _, c', rfl, hJ1.1.trans (hb.mono hJ1.1.size), rfl, h1, h2, h3⟩
            rintro _ ⟨A', nZ, c', rfl⟩
            rw [show List.erase [11, 12, 13, 14, 15] 11 = [12, 13, 14, 15] from rfl]; simp only [Act.put, List.setIfInBounds_toArray, List.set_cons_zero, List.set_cons_succ]
            refine TxtT.weakJ (J2 := fun w' => Below wo.heap.size wo w' ∧ nZ = H2.length ∧ RP w' A' H2 ∧ (A' = none → H2 = [] ∧ c' = 0) ∧ H2.length ≤ c') (fun w1 h => by obtain ⟨a', b', c'', hq, h⟩ := h; simp only [Value.tuple.injEq, Array.mk.injEq, List.cons.injEq, Value.agg.injEq, Value.slice.injEq, true_and, and_true] at hq; obtain ⟨hq1, hq2, hq3⟩ := hq; subst hq1; subst hq2; subst hq3; exact h) ?_
            refine TxtT.pure 12 (by rfl) (by rw [List.getElem?_toArray]; rfl) (by rfl) (by as_aux_lemma => kernel_rfl) (by rfl) ?_; apply Exists.intro; refine ⟨fun w1 hS1 => ?_, ?_⟩; (focus (skip; go_simp; with_reducible rfl))
            rw [show List.erase [12, 13, 14, 15] 12 = [13, 14, 15] from rfl]; simp only [Act.put, List.setIfInBounds_toArray, List.set_cons_zero, List.set_cons_succ]
            refine TxtT.pure 13 (by rfl) (by rw [List.getElem?_toArray]; rfl) (by rfl) (by as_aux_lemma => kernel_rfl) (by rfl) ?_; apply Exists.intro; refine ⟨fun w1 hS1 => ?_, ?_⟩; (focus (skip; go_simp; with_reducible rfl))
            rw [show List.erase [13, 14, 15] 13 = [14, 15] from rfl]; simp only [Act.put, List.setIfInBounds_toArray, List.set_cons_zero, List.set_cons_succ]
            refine TxtT.pure 14 (by rfl) (by rw [List.getElem?_toArray]; rfl) (by rfl) (by as_aux_lemma => kernel_rfl) (by rfl) ?_; apply Exists.intro; refine ⟨fun w1 hS1 => ?_, ?_⟩; (focus (skip; go_simp; with_reducible rfl))
            rw [show List.erase [14, 15] 14 = [15] from rfl]; simp only [Act.put, List.setIfInBounds_toArray, List.set_cons_zero, List.set_cons_succ]
            refine TxtT.one 15 (by as_aux_lemma => kernel_rfl) (by rw [List.getElem?_toArray]; rfl) (by rfl) (by rfl) (fun v => v = undef) (fun _ w' => nZ = H2.length ∧ RP w' A' H2 ∧ (A' = none → H2 = [] ∧ c' = 0) ∧ H2.length ≤ c' ∧ Blk w' wb.heap.size 24 #[.int .i64 (n : Int), .slice A' nZ c'] ∧ OwnI w' W1.heap.size (.slice (some ⟨bq, oq, none⟩) Q.length cQ) Q) (fun w1 hS1 hJ1 => ?_) ?_
            · obtain ⟨hB4, e9b, h1, h2, h3⟩ := hJ1
              have j0 := Hkh.out.below hB4 Hkh.out.lt
              obtain ⟨g0, g1, g2, g3⟩ := j0.two
              have ho4 : OwnI w1 W1.heap.size (.slice (some ⟨bq, oq, none⟩) Q.length cQ) Q := ownsRow_below HoQ.out hB4
              exact Eff.skip (w' := (w1.setCell ⟨wb.heap.size, 0, none⟩ (.int .i64 (n : Int))).setCell ⟨wb.heap.size, 1, none⟩ (.slice A' nZ c')) (by go_simp) ⟨(hS1.setCell (p := ⟨wb.heap.size, 0, none⟩) (Nat.le_refl _) _).setCell (p := ⟨wb.heap.size, 1, none⟩) (Nat.le_refl _) _, rfl, e9b, h1.far2 (h1.apartG j0 (fun _ _ e => by cases e)) _ _, h2, h3, (j0.set_ 0 _).set_ 1 _, World.ownsRow.kept ho4 (grownBy_trans (grownBy_setCell w1 wb.heap.size 0 _) (grownBy_setCell _ wb.heap.size 1 _)) (.inr (own_apart ho4 j0 (by decide)))⟩
            rintro _ rfl
            rw [show List.erase [15] 15 = [] from rfl]; simp only [Act.put]
            refine ⟨rfl, fun w5 hS5 hJ5 => ?_⟩
            obtain ⟨e5, h1, h2, h3, j0, ho5⟩ := hJ5
            rw [← HH2.out] at e5 h1 h2 h3
            rw [e5] at j0
            have H5 := Lib.hid (And.intro j0 (And.intro h1 (And.intro h2 (And.intro h3 (And.intro hS5 ho5)))))
            clear j0 h1 h2 h3 e5 hS5 ho5 g0 g1 g2 g3 d0 d1 kh hri hoQ hq1 hq2 hn0 hn0' hn0b k0x hbx
            go_wp2_with fail
            go_roundw
            case rel => exact ⟨j + 1, A', c', hjl, by go_num, by go_num, H5.out.1, H5.out.2.1, H5.out.2.2.1, H5.out.2.2.2.1, H5.out.2.2.2.2.1, H5.out.2.2.2.2.2⟩
            case measure => simp [intOf]; omega
          ·
            rintro _ ⟨gv, rfl⟩
            rw [show List.erase [0, 10, 11, 12, 13, 14, 15] 10 = [0, 11, 12, 13, 14, 15] from rfl]; simp only [Act.put, List.setIfInBounds_toArray, List.set_cons_zero, List.set_cons_succ]
            refine TxtT.weakJ (J2 := fun w' => Below wo.heap.size wo w' ∧ RP w' (some ⟨gv, 0, none⟩) [((y1 : Int), (y2 : Int))]) (fun w1 h => by obtain ⟨g', hq, h⟩ := h; injection hq with hq; injection hq with hq; injection hq with hq _ _; subst hq; exact h) ?_
            refine TxtT.one 0 (by as_aux_lemma => kernel_rfl) (by rw [List.getElem?_toArray]; rfl) (by rfl) (by rfl) (fun v => v = Value.agg #[.int .i64 (n : Int), .slice AG nH cG]) (fun v w' => v = Value.agg #[.int .i64 (n : Int), .slice AG nH cG] ∧ Below wo.heap.size wo w' ∧ RP w' (some ⟨gv, 0, none⟩) [((y1 : Int), (y2 : Int))]) (fun w1 hS1 hJ1 => ?_) ?_
            · have g0' := (hJ1.1.cell (lt_of_cell g0)).trans g0; have g1' := (hJ1.1.cell (lt_of_cell g1)).trans g1
              exact Eff.value (w' := w1) (v := .agg #[.int .i64 (n : Int), .slice AG nH cG]) (by go_simp) ⟨hS1, rfl, rfl, hJ1⟩
            rintro _ rfl
            rw [show List.erase [0, 11, 12, 13, 14, 15] 0 = [11, 12, 13, 14, 15] from rfl]; simp only [Act.put, List.setIfInBounds_toArray, List.set_cons_zero, List.set_cons_succ]
            refine TxtT.weakJ (J2 := fun w' => Below wo.heap.size wo w' ∧ RP w' (some ⟨gv, 0, none⟩) [((y1 : Int), (y2 : Int))]) (fun w1 h => h.2) ?_
            refine TxtT.one 11 (by as_aux_lemma => kernel_rfl) (by rw [List.getElem?_toArray]; rfl) (by rfl) (by rfl) (fun v => ∃ A' nZ c', v = Value.tuple #[.agg #[.int .i64 (n : Int), .slice A' nZ c'], .int .i64 0]) (fun v w' => ∃ A' nZ c', v = Value.tuple #[.agg #[.int .i64 (n : Int), .slice A' nZ c'], .int .i64 0] ∧ Below wo.heap.size wo w' ∧ nZ = H2.length ∧ RP w' A' H2 ∧ (A' = none → H2 = [] ∧ c' = 0) ∧ H2.length ≤ c') (fun w1 hS1 hJ1 => ?_) ?_
            · refine Eff.call (f := 26) (args := #[.agg #[.int .i64 (n : Int), .slice AG nH cG], .slice (some ⟨gv, 0, none⟩) 1 1]) (by go_simp) ((Htg.out gv w1 (Hrg.out.below hJ1.1) hJ1.2).mono ?_)
              rintro e w' ⟨A', c', rfl, h1, h2, h3, hb⟩
              exact ⟨_, rfl, hS1.trans (hb.mono hS1.size), ⟨A', _, c', rfl⟩, A', _, c', rfl, hJ1.1.trans (hb.mono hJ1.1.size), rfl, h1, h2, h3⟩
            rintro _ ⟨A', nZ, c', rfl⟩
            rw [show List.erase [11, 12, 13, 14, 15] 11 = [12, 13, 14, 15] from rfl]; simp only [Act.put, List.setIfInBounds_toArray, List.set_cons_zero, List.set_cons_succ]
            refine TxtT.weakJ (J2 := fun w' => Below wo.heap.size wo w' ∧ nZ = H2.length ∧ RP w' A' H2 ∧ (A' = none → H2 = [] ∧ c' = 0) ∧ H2.length ≤ c') (fun w1 h => by obtain ⟨a', b', c'', hq, h⟩ := h; simp only [Value.tuple.injEq, Array.mk.injEq, List.cons.injEq, Value.agg.injEq, Value.slice.injEq, true_and, and_true] at hq; obtain ⟨hq1, hq2, hq3⟩ := hq; subst hq1; subst hq2; subst hq3; exact h) ?_
            refine TxtT.pure 12 (by rfl) (by rw [List.getElem?_toArray]; rfl) (by rfl) (by as_aux_lemma => kernel_rfl) (by rfl) ?_; apply Exists.intro; refine ⟨fun w1 hS1 => ?_, ?_⟩; (focus (skip; go_simp; with_reducible rfl))
            rw [show List.erase [12, 13, 14, 15] 12 = [13, 14, 15] from rfl]; simp only [Act.put, List.setIfInBounds_toArray, List.set_cons_zero, List.set_cons_succ]
            refine TxtT.pure 13 (by rfl) (by rw [List.getElem?_toArray]; rfl) (by rfl) (by as_aux_lemma => kernel_rfl) (by rfl) ?_; apply Exists.intro; refine ⟨fun w1 hS1 => ?_, ?_⟩; (focus (skip; go_simp; with_reducible rfl))
            rw [show List.erase [13, 14, 15] 13 = [14, 15] from rfl]; simp only [Act.put, List.setIfInBounds_toArray, List.set_cons_zero, List.set_cons_succ]
            refine TxtT.pure 14 (by rfl) (by rw [List.getElem?_toArray]; rfl) (by rfl) (by as_aux_lemma => kernel_rfl) (by rfl) ?_; apply Exists.intro; refine ⟨fun w1 hS1 => ?_, ?_⟩; (focus (skip; go_simp; with_reducible rfl))
            rw [show List.erase [14, 15] 14 = [15] from rfl]; simp only [Act.put, List.setIfInBounds_toArray, List.set_cons_zero, List.set_cons_succ]
            refine TxtT.one 15 (by as_aux_lemma => kernel_rfl) (by rw [List.getElem?_toArray]; rfl) (by rfl) (by rfl) (fun v => v = undef) (fun _ w' => nZ = H2.length ∧ RP w' A' H2 ∧ (A' = none → H2 = [] ∧ c' = 0) ∧ H2.length ≤ c' ∧ Blk w' wb.heap.size 24 #[.int .i64 (n : Int), .slice A' nZ c'] ∧ OwnI w' W1.heap.size (.slice (some ⟨bq, oq, none⟩) Q.length cQ) Q) (fun w1 hS1 hJ1 => ?_) ?_
            · obtain ⟨hB4, e9b, h1, h2, h3⟩ := hJ1
              have j0 := Hkh.out.below hB4 Hkh.out.lt
              obtain ⟨g0, g1, g2, g3⟩ := j0.two
              have ho4 : OwnI w1 W1.heap.size (.slice (some ⟨bq, oq, none⟩) Q.length cQ) Q := ownsRow_below HoQ.out hB4
              exact Eff.skip (w' := (w1.setCell ⟨wb.heap.size, 0, none⟩ (.int .i64 (n : Int))).setCell ⟨wb.heap.size, 1, none⟩ (.slice A' nZ c')) (by go_simp) ⟨(hS1.setCell (p := ⟨wb.heap.size, 0, none⟩) (Nat.le_refl _) _).setCell (p := ⟨wb.heap.size, 1, none⟩) (Nat.le_refl _) _, rfl, e9b, h1.far2 (h1.apartG j0 (fun _ _ e => by cases e)) _ _, h2, h3, (j0.set_ 0 _).set_ 1 _, World.ownsRow.kept ho4 (grownBy_trans (grownBy_setCell w1 wb.heap.size 0 _) (grownBy_setCell _ wb.heap.size 1 _)) (.inr (own_apart ho4 j0 (by decide)))⟩
            rintro _ rfl
            rw [show List.erase [15] 15 = [] from rfl]; simp only [Act.put]
            refine ⟨rfl, fun w5 hS5 hJ5 => ?_⟩
            obtain ⟨e5, h1, h2, h3, j0, ho5⟩ := hJ5
            rw [← HH2.out] at e5 h1 h2 h3
            rw [e5] at j0
            have H5 := Lib.hid (And.intro j0 (And.intro h1 (And.intro h2 (And.intro h3 (And.intro hS5 ho5)))))
            clear j0 h1 h2 h3 e5 hS5 ho5 g0 g1 g2 g3 d0 d1 kh hri hoQ hq1 hq2 hn0 hn0' hn0b k0x hbx
            go_wp2_with fail
            go_roundw
            case rel => exact ⟨j + 1, A', c', hjl, by go_num, by go_num, H5.out.1, H5.out.2.1, H5.out.2.2.1, H5.out.2.2.2.1, H5.out.2.2.2.2.1, H5.out.2.2.2.2.2⟩
            case measure => simp [intOf]; omega
        case neg =>
          obtain rfl : j = Q.length := by omega
          have hPt : P.take Q.length = P := List.take_of_length_le (by rw [HPl.out]; exact Nat.le_refl _)
          have hHB : hB n l b = togsR l P := by unfold hB; rw [HP.out]
          have hcnt : (prL n b).length = Q.length := by rw [HP.out, HPl.out]
          have hstF : stF n l S kd b = if accR n (togsR l P) S kd = true then some Q.length else none := by unfold stF; rw [hHB, hcnt]
          have hloF : ∀ m, m < M → loF n l S kd (b * M + m) = if insideB S (nodesB 64 m.testBit) = true ∧ accR n (togsR l P) (nodesB 64 m.testBit) kd = true then some Q.length else none := fun m hm => by
            unfold loF
            rw [HM.out, show (b * M + m) / M = b by rw [Nat.add_comm, Nat.add_mul_div_right _ _ hM0, Nat.div_eq_of_lt hm, Nat.zero_add], show (b * M + m) % M = m by rw [Nat.add_comm, Nat.add_mul_mod_self_right, Nat.mod_eq_of_lt hm], hHB, hcnt]
          rw [hPt] at hrg hfg hcg hgl
          have hkh := kh
          rw [hPt] at hkh
          obtain ⟨H, hH⟩ : ∃ H, togsR l P = H := ⟨_, rfl⟩
          obtain ⟨nH, hnH⟩ : ∃ nH, (togsR l (P.take Q.length)).length = nH := ⟨_, rfl⟩
          have hnH' : nH = H.length := by rw [← hnH, hPt, hH]
          rw [hH] at hrg hkh hstF hloF hgl
          rw [← hnH'] at hkh
          have hHl : H.length ≤ 100000 := by omega
          have hac := fun AT T cT W (h1 : RP W AG H) (h2 : RI W AT T) (h3 : T.length ≤ 100000) => rAcc_any AG n H cG AT T cT kd W h1 hHl h2 h3 (by omega)
          rw [← hnH'] at hac
          have hin := fun AT T cT W (h1 : RI W AS S) (h2 : RI W AT T) (h3 : T.length ≤ 100000) => inside_any AS AT S T cS cT W (by omega) (by omega) h1 h2
          have Hac := Lib.hid hac; have HstF := Lib.hid hstF; have HloF := Lib.hid hloF; have Hrg := Lib.hid hrg; have Hin := Lib.hid hin; have Hkh := Lib.hid hkh
          clear hac hstF hloF hPt hHB hcnt hnH hnH' hH hrg hfg hcg hgl hri hoQ hHl hin kh
          have kh := Hkh.out
          obtain ⟨g0, g1, -, -⟩ := kh.two
          have hSrx := (hSr9.below (hbw.trans (hbx.mono hbw.size)))
          obtain ⟨wy, hwy⟩ : ∃ wy, wy = wr := ⟨_, rfl⟩
          subst hwy
          obtain ⟨a1, ha1⟩ : ∃ a1, accR n H S kd = a1 := ⟨_, rfl⟩
          have hac1 := Hac.out AS S cS wy Hrg.out hSrx (by omega)
          have hst1 : minK (stF n l S kd) (b + 1) = if a1 = true then min (minK (stF n l S kd) b) (Q.length : Int) else minK (stF n l S kd) b := by
            have h := HstF.out
            rw [ha1] at h
            cases a1
            · rw [if_neg (by decide)] at h ⊢; exact minK_none h
            · rw [if_pos rfl] at h ⊢; exact minK_some h
          rw [ha1] at hac1
          have Hac1 := Lib.hid hac1; have Hst1 := Lib.hid hst1
          obtain ⟨mS, hmS⟩ : ∃ mS, minK (stF n l S kd) b = mS := ⟨_, rfl⟩
          have hmb := minK_bound (stF n l S kd) b
          have hst2 := hst1
          rw [hmS] at hst2 hmb
          have Hst2 := Lib.hid hst2
          rw [hmS]
          clear hac1 hst1 hst2 ha1 hmS
          go_wp2_with fail
          refine Hac1.out.mono ?_
          rintro e w3' ⟨rfl, hb3'⟩
          have hbx3 := hbx.trans (hb3'.mono hbx.size)
          have kh3 := kh.below hb3' kh.lt
          have Hrg3 := Lib.hid (Hrg.out.below hb3')
          have hSr3 := hSrx.below hb3'
          clear g0 g1
          obtain ⟨W3, hW3⟩ : ∃ W3, W3 = w3' := ⟨_, rfl⟩
          subst hW3
          go_upto_if 95 with fail
          go_cut [13] (fun v wx => v = .int .i64 (minK (stF n l S kd) (b + 1)) ∧ wx = W3)
          case first =>
            cases a1
            · go_wp2_with fail
              go_meet
              exact ⟨by rw [Hst2.out]; rfl, rfl⟩
            · go_wp2_with fail
              go_meet
              exact ⟨by rw [Hst2.out]; rfl, rfl⟩
          obtain ⟨rfl, rfl⟩ := hcut
          obtain ⟨W4', hW4'⟩ : ∃ W4', W4' = wc := ⟨_, rfl⟩
          subst hW4'
          have hkb4 := k0b.below hbx3 k0b.lt
          clear k0x d0 d1
          go_wp2_with fail
          go_loopw [14, 20] (fun u t wx => ∃ m : Nat, m ≤ M ∧ t = .int .u64 (m : Int) ∧ u = .int .i64 (minK (loF n l S kd) (b * M + m)) ∧ Below W4'.heap.size W4' wx) (fun _ t _ => M - (intOf t).toNat)
          case atStart => exact ⟨0, Nat.zero_le _, rfl, rfl, Below.refl _ _⟩
          case round =>
            obtain ⟨m, hm, rfl, rfl, hbz⟩ := hrel
            have k0z := hkb4.below hbz hkb4.lt
            have khz := kh3.below hbz kh3.lt
            obtain ⟨d0, d1, -, -⟩ := k0z.two
            obtain ⟨g0, g1, -, -⟩ := khz.two
            have hbxz := hbx3.trans (hbz.mono hbx3.size)
            by_cases hml : m < M
            case pos =>
              have hm64 : m < 18446744073709551616 := by omega
              have hwm : IntKind.u64.wrap ((m : Int) + 1) = ((m + 1 : Nat) : Int) := by rw [IntKind.wrap_u64]; omega
              have hmem2 := nwMem_any m hm64 wr
              have hTl := nodesB_length 64 m.testBit
              have hlo := HloF.out m hml
              obtain ⟨T, hTT⟩ : ∃ T, nodesB 64 m.testBit = T := ⟨_, rfl⟩
              rw [hTT] at hmem2 hTl hlo
              obtain ⟨i1, hi1⟩ : ∃ i1, insideB S T = i1 := ⟨_, rfl⟩
              obtain ⟨a2, ha2⟩ : ∃ a2, accR n H T kd = a2 := ⟨_, rfl⟩
              have hinn := fun AT cT W h1 h2 => Hin.out AT T cT W h1 h2 (by omega)
              have hacc := fun AT cT W h1 h2 => Hac.out AT T cT W h1 h2 (by omega)
              rw [hi1, ha2] at hlo
              rw [hi1] at hinn
              rw [ha2] at hacc
              have hmn : minK (loF n l S kd) (b * M + (m + 1)) = if i1 = true ∧ a2 = true then min (minK (loF n l S kd) (b * M + m)) (Q.length : Int) else minK (loF n l S kd) (b * M + m) := by
                rw [← Nat.add_assoc]
                by_cases h : i1 = true ∧ a2 = true
                · rw [if_pos h] at hlo ⊢; exact minK_some hlo
                · rw [if_neg h] at hlo ⊢; exact minK_none hlo
              obtain ⟨mL, hmL⟩ : ∃ mL, minK (loF n l S kd) (b * M + m) = mL := ⟨_, rfl⟩
              rw [hmL] at hmn
              rw [hmL]
              have Hmn := Lib.hid hmn; have Hinn := Lib.hid hinn; have Hacc := Lib.hid hacc; have Hmem2 := Lib.hid hmem2
              clear hmn hinn hacc hmem2 hlo hi1 ha2 hmL hTT
              go_wp2_with fail
              refine Hmem2.out.mono ?_
              rintro e w4' ⟨AT, cT, rfl, -, hrT, -, hb4'⟩
              have hbz4 := hbz.trans (hb4'.mono hbz.size)
              have khz4 := khz.below hb4' khz.lt
              clear g0 g1 d0 d1
              obtain ⟨g0, g1, -, -⟩ := khz4.two
              have hrT4 := hrT
              have hSz4 := hSr3.below hbz4
              have hrg4 := Hrg3.out.below hbz4
              go_wp2_with fail
              refine (Hinn.out AT cT w4' hSz4 hrT4).mono ?_
              rintro e w5' ⟨rfl, hww⟩
              subst hww
              cases i1
              case false =>
                have hmn := Hmn.out
                rw [if_neg (by simp)] at hmn
                have Hmn := Lib.hid hmn
                clear hmn
                go_wp2_with fail
                go_roundw
                case rel => exact ⟨m + 1, hml, by go_num, by rw [Hmn.out], hbz4⟩
                case measure => simp [intOf]; omega
              case true =>
                go_wp2_with fail
                refine (Hacc.out AT cT _ hrg4 hrT4).mono ?_
                rintro e w6' ⟨rfl, hb6'⟩
                have hbz6 := hbz4.trans (hb6'.mono hbz4.size)
                cases a2
                case false =>
                  have hmn := Hmn.out
                  rw [if_neg (by simp)] at hmn
                  have Hmn := Lib.hid hmn
                  clear hmn
                  go_wp2_with fail
                  go_roundw
                  case rel => exact ⟨m + 1, hml, by go_num, by rw [Hmn.out], hbz6⟩
                  case measure => simp [intOf]; omega
                case true =>
                  go_wp2_with fail
                  go_roundw
                  case rel => exact ⟨m + 1, hml, by go_num, by rw [Hmn.out]; simp only [and_self, ↓reduceIte], hbz6⟩
                  case measure => simp [intOf]; omega
            case neg =>
              obtain rfl : m = M := by omega
              have hbm : b * m + m = (b + 1) * m := (Nat.succ_mul b m).symm
              have Hbm := Lib.hid hbm
              have Hbf := Lib.hid (hbw.trans (hbxz.mono hbw.size))
              clear hbm
              go_wp2_with fail
              go_roundw
              case rel => exact ⟨b + 1, hlt, by go_num, rfl, by rw [Hbm.out], Hbf.out⟩
              case measure => simp [intOf]; omega
    case neg =>
      obtain rfl : b = E := by omega
      have hnn : n * n ≤ 64 := by rw [Hq.out]; omega
      have hC0 := HC.out
      have hl0 := loF_min HV.out hN1 hnn Hset.out Hk.out (by rw [Hb0.out, hC0]; omega)
      rw [Hb0.out, hC0, Hq.out, HE.out, HM.out] at hl0
      obtain ⟨mL, hmL⟩ : ∃ mL, minK (loF n l S kd) (b * M) = mL := ⟨_, rfl⟩
      obtain ⟨mS, hmS⟩ : ∃ mS, minK (stF n l S kd) b = mS := ⟨_, rfl⟩
      have hs9 : (er = 9 ∧ mS = 100) ∨ (er = 0 ∧ mS = (nH : Int) ∧ nH ≤ 49) := by
        have h := Hse.out
        cases hh : hpB n S kd
        · rw [hh, if_neg (by decide)] at h
          have h1 := stF_min HV.out hN1 hnn Hset.out hh Hk.out (by omega)
          rw [Hq.out, HE.out, hmS] at h1
          have h2 := Hdet.out h
          exact .inr ⟨h, by rw [h1, h2], by rw [h2]; omega⟩
        · rw [hh, if_pos rfl] at h
          have h1 := stF_none HV.out hN1 hh Hk.out
          rw [Hq.out, HE.out, hmS] at h1
          exact .inl ⟨h, h1⟩
      rw [hmL] at hl0
      rw [hmL, hmS]
      subst hl0
      have haw := awake21_any wr (hT.below hbW)
      obtain ⟨-, t1, -, -, -⟩ := k9r.threeE
      obtain ⟨-, t2, -, -, -⟩ := k11r.threeE
      have hbf := hbW
      clear hmL hmS hC0 hnn hb hbW k0 k9r k11r k09 k99 k11 hrp9 hSr9 hB9 hbw y0 y1 hcl hcl2
      rcases hs9 with ⟨rfl, rfl⟩ | ⟨rfl, rfl, hn49⟩
      · go_wp2_with fail
        refine haw.mono ?_
        rintro e wz ⟨rfl, hbz⟩
        go_wp2_with fail
        go_ret
        exact ⟨rfl, endB hbf hbz⟩
      · have hn100 : ((nH : Int) == 100) = false := by simp; omega
        go_wp2_with fail
        refine haw.mono ?_
        rintro e wz ⟨rfl, hbz⟩
        go_wp2_with fail
        go_ret
        exact ⟨rfl, endB hbf hbz⟩
end Go.Proofs.YtncimnfhfomddaaDoor
