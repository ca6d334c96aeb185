/- law30: the walk of TopPreferred. -/
import Derived.Test.YthkknlnfdckdfaaGreatDoorGam
import Derived.Test.YthkknlnfdckdfaaGreatDoorPfL
import Derived.Test.YthkknlnfdckdfaaGreatDoorAw30
import Derived.Test.YthkknlnfdckdfaaGreatDoorExt
namespace Go.Proofs.YthkknlnfdckdfaaGreatDoor
open Go.ChangeShapes Go.WideShapes Go.ChangeAt Go.RowKit

theorem app_ne {v v6 : Value} {X : World} {g : Nat} (hne : ∀ b, v.ownBlock = some b → b ≠ g) (hg : g < X.heap.size) (hl : v6.ownBlock = v.ownBlock ∨ ∀ k, v6.ownBlock = some k → X.heap.size ≤ k) : ∀ b, v6.ownBlock = some b → b ≠ g := fun b hb => by
  rcases hl with h | h
  · exact hne b (by rw [← h]; exact hb)
  · have := h b hb; omega
set_option maxRecDepth 100000 in
set_option maxHeartbeats 16000000 in
theorem pf_law_any (A : Option Addr) (arg : List Int) (c : Nat) (w : World)
    (hlc : arg.length ≤ c) (hc : c ≤ 9223372036854775807) (hr : RI w A arg) (hx : ∀ x ∈ arg, -9223372036854775808 ≤ x ∧ x ≤ 9223372036854775807) (hT : Tab w) :
    Calls Tryz.prog 3 #[.slice A arg.length c] w (RetB (.bool true) w) := by
  go_enter Tryz.func3, Tryz.ntmps3
  go_wp2_with fail
  refine (new_any A arg c w hlc hc hr hx).mono ?_
  rintro e w1 ⟨p, rfl, hp, hs1, hb1⟩
  clear hr hx
  go_wp2_with fail
  refine (graph2_any p 8 w1 hs1 (by omega)).mono ?_
  rintro e w2 ⟨n, l, AL, cl, rfl, hN, hv, hrp, hloc, hs2, hg2, hAn⟩
  have hb2 : Below w.heap.size w w2 := hb1.trans (below_of_grownBy hg2 hp hb1.size)
  have HV := Lib.hid hv
  have hve := hv.valE
  have hll := hv.1.2.1
  clear hs1 hb1 hg2 hv hloc hs2 hp hAn
  go_upto_region 3 with fail
  obtain ⟨W0, hW, k0, hb0, hs0⟩ := boxedA w2 27 #[.int .i64 (n : Int), .slice AL l.length cl]
  rw [hW]
  obtain ⟨z0, z1, -, -⟩ := k0.two
  have hrp0 := hrp.below hb0
  have hB0 := endB hb2 hb0
  have hT0 := hT.below hB0
  clear hW k0 hb0 hrp hb2 hs0
  generalize w2.heap.size = G at *
  have hbr := bestR_ok (p := prefP) hve
  obtain ⟨PR, hPR⟩ : ∃ r, bestR prefP n l = r := ⟨_, rfl⟩
  have hpc := xPreferred_any AL n l cl W0 hrp0 hll hT0
  rw [hPR] at hpc hbr
  have hkl := kept_len (p := prefP) (L := compL n l)
  have Hpc := Lib.hid hpc; have Hbr := Lib.hid hbr; have Hve := Lib.hid hve; have Hkl := Lib.hid hkl
  clear hpc hbr hPR hve hkl
  obtain ⟨P, x⟩ := PR
  go_wp2_with fail
  refine Hpc.out.mono ?_
  rintro e W3 ⟨AP, cp, rfl, hrs, -, -, hb3⟩
  have hB3 := endB hB0 hb3
  have z0 := (hb3.cell (lt_of_cell z0)).trans z0
  have z1 := (hb3.cell (lt_of_cell z1)).trans z1
  have hrp3 := hrp0.below hb3
  have hT3 := hT0.below hb3
  have hPs : RS W3 AP P := RSo.rs hrs
  clear hrp0 hT0 hB0 hb3 hrs Hpc
  by_cases hlim : 200 < (compL n l).length
  · have hbr := Hbr.out
    rw [if_pos hlim] at hbr
    injection hbr with h1 h2
    subst h1; subst h2
    clear hPs hlim
    go_wp2_with fail
    refine (awake30_any W3).mono ?_
    rintro e w5 ⟨rfl, hb5⟩
    go_wp2_with fail
    go_ret
    exact ⟨rfl, endB hB3 hb5⟩
  have hbr := Hbr.out
  rw [if_neg hlim] at hbr
  injection hbr with h1 h2
  subst h2
  have hPl : P.length ≤ 200 := by rw [h1]; have := Hkl.out; omega
  have hPn : ∀ y ∈ P, y.length = n := fun y hy => by rw [h1] at hy; exact comp_len (mem_kept.1 hy).1
  have hany : ∀ i, i < n → (srS n (attQ l) (n + 1) (1 <<< i)).isSome = P.any fun y => atB y i := fun i hi => by rw [h1]; exact sr_pref HV.out.1 hi
  have habv : ∀ s, s < 2 ^ n → AdmS n (attQ l) s → ∀ R : List Int, (∀ v ∈ R, ∃ j : Nat, v = j ∧ j < n ∧ s.testBit j = true) → (P.any fun y => R.all fun v => atB y v) = true := fun s hs ha R hR => by rw [h1]; exact sr_above HV.out.1 hs ha hR
  have Hany := Lib.hid hany; have Habv := Lib.hid habv; have HPn := Lib.hid hPn
  clear h1 hlim hany habv hPn Hkl Hbr
  go_wp2_with fail
  go_loopw [7] (fun t wr => ∃ i : Nat, i ≤ n ∧ t = .int .i64 (i : Int) ∧ Below W3.heap.size W3 wr) (fun t _ => n - (intOf t).toNat)
  case atStart => exact ⟨0, Nat.zero_le _, rfl, Below.refl _ _⟩
  case round =>
    obtain ⟨i, hi, rfl, hbl⟩ := hrel
    have y0 := (hbl.cell (lt_of_cell z0)).trans z0
    have y1 := (hbl.cell (lt_of_cell z1)).trans z1
    by_cases hin : i < n
    case neg =>
      go_wp2_with fail
      refine (awake30_any wr).mono ?_
      rintro e w5 ⟨rfl, hb5⟩
      go_wp2_with fail
      go_ret
      exact ⟨rfl, endB hB3 (hbl.trans (hb5.mono hbl.size))⟩
    case pos =>
    have hin' : (i : Int) < (n : Int) := by omega
    have hsol := gSolveC_any AL cl i HV.out hin (by omega) wr (hrp3.below hbl) (hT3.below hbl)
    have hsm := xSome_any AP P cp (i : Int)
    have hany := Hany.out i hin
    have hsnd : ∀ r, srS n (attQ l) (n + 1) (1 <<< i) = some r → AdmS n (attQ l) r ∧ r.testBit i = true ∧ r < 2 ^ n := fun r h => by
      obtain ⟨h1, h2⟩ := srS_sound h
      exact ⟨h1, h2 i (by rw [Nat.one_shiftLeft, Nat.testBit_two_pow]; simp), srS_lt (by rw [Nat.one_shiftLeft]; exact Nat.pow_lt_pow_right (by omega) hin) h⟩
    generalize srS n (attQ l) (n + 1) (1 <<< i) = sr at hsol hany hsnd
    rw [← hany] at hsm
    have Hsol := Lib.hid hsol; have Hsm := Lib.hid hsm; have Hsnd := Lib.hid hsnd
    clear hsol hany hsm hsnd
    go_wp2_with fail
    refine Hsol.out.mono ?_
    cases sr with
    | none =>
      rintro e w5 ⟨hb5, rfl⟩
      go_wp2_with fail
      obtain ⟨W6, hW6, k6, hb6, hs6⟩ := boxedA w5 36 #[.int .i64 2, .int .i64 (i : Int), .int .i64 2, .slice none 0 0]
      rw [hW6]
      have a2 : W6.cell? ⟨w5.heap.size, 2, none⟩ = some (.int .i64 2) := k6.cell 2
      have a3 : W6.cell? ⟨w5.heap.size, 3, none⟩ = some (.slice none 0 0) := k6.cell 3
      have hb06 := hbl.trans ((endB hb5 hb6).mono hbl.size)
      have HPs := Lib.hid hPs; have Hb06 := Lib.hid hb06
      clear hW6 k6 y0 y1
      refine wp_region_textB [8] (fun w' => Below W6.heap.size W6 w') (fun _ => True) (by kernel_rfl) (by kernel_rfl) (by kernel_rfl) (Below.refl _ _).drew trivial ?_
      repeat (first
        | (refine TxtBL.skip (by rfl) ?_; simp only [Act.put, List.setIfInBounds_toArray, List.set_cons_zero, List.set_cons_succ])
        | (refine TxtBL.take (by rfl) (by rfl) ?_; apply Exists.intro; refine ⟨fun w1 hS1 => ?_, ?_⟩; (focus ((have g2 := (hS1.cell (lt_of_cell a2)).trans a2); go_simp; with_reducible rfl)); simp only [Act.put, List.setIfInBounds_toArray, List.set_cons_zero, List.set_cons_succ])
        | (refine TxtBL.takeE (by rfl) (by rfl) ?_; apply Exists.intro; refine ⟨fun w1 hS1 => ?_, ?_⟩; (focus ((have g2 := (hS1.cell (lt_of_cell a2)).trans a2); go_simp; with_reducible rfl)); simp only [Act.put, List.setIfInBounds_toArray, List.set_cons_zero, List.set_cons_succ]))
      refine TxtBL.call (f := 9) (args := #[.slice AP P.length cp, .int .i64 (i : Int)]) (fun u => u = .bool false) (fun _ _ => True) (by rfl) (by rfl) ⟨_, rfl⟩ (fun w1 hS1 hJ1 => by go_simp) (fun w1 hS1 hJ1 => ?_) ?_
      · refine (Hsm.out w1 (HPs.out.below (hb06.trans (hS1.mono hb06.size))) (by omega) (fun y hy => by rw [HPn.out y hy]; omega)).mono ?_
        rintro e w' ⟨rfl, hb⟩
        exact ⟨_, rfl, hS1.trans (hb.mono hS1.size), rfl, trivial⟩
      rintro _ rfl
      simp only [Act.put, List.setIfInBounds_toArray, List.set_cons_zero, List.set_cons_succ]
      repeat (first
        | (refine TxtBL.skip (by rfl) ?_; simp only [Act.put, List.setIfInBounds_toArray, List.set_cons_zero, List.set_cons_succ])
        | (refine TxtBL.take (by rfl) (by rfl) ?_; apply Exists.intro; refine ⟨fun w1 hS1 => ?_, ?_⟩; (focus (skip; go_simp; with_reducible rfl)); simp only [Act.put, List.setIfInBounds_toArray, List.set_cons_zero, List.set_cons_succ])
        | (refine TxtBL.takeE (by rfl) (by rfl) ?_; apply Exists.intro; refine ⟨fun w1 hS1 => ?_, ?_⟩; (focus (skip; go_simp; with_reducible rfl)); simp only [Act.put, List.setIfInBounds_toArray, List.set_cons_zero, List.set_cons_succ]))
      refine TxtBL.nil (fun W7 hS7 _ => ?_)
      have Hb7 := Lib.hid (hb06.trans (hS7.mono hb06.size))
      have a2 := (hS7.cell (lt_of_cell a2)).trans a2
      clear a3 hb06 hS7 hb6 hs6 hb5
      go_wp2_with fail
      go_roundw
      case rel => exact ⟨i + 1, by omega, by go_num, Hb7.out⟩
      case measure => simp [intOf]; omega
    | some s =>
    rintro e w5 ⟨hb5, R, OO, A5, c5, rfl, hok, hOl, hrr⟩
    go_wp2_with fail
    obtain ⟨W6, hW6, k6, hb6, hs6⟩ := boxedA w5 36 #[.int .i64 2, .int .i64 (i : Int), .int .i64 1, .slice A5 OO.length c5]
    rw [hW6]
    have a2 : W6.cell? ⟨w5.heap.size, 2, none⟩ = some (.int .i64 1) := k6.cell 2
    have a3 : W6.cell? ⟨w5.heap.size, 3, none⟩ = some (.slice A5 OO.length c5) := k6.cell 3
    have hb06 := hbl.trans ((endB hb5 hb6).mono hbl.size)
    have HPs := Lib.hid hPs; have Hb06 := Lib.hid hb06
    clear hW6 k6 y0 y1
    refine wp_region_textB [8] (fun w' => Below W6.heap.size W6 w') (fun _ => True) (by kernel_rfl) (by kernel_rfl) (by kernel_rfl) (Below.refl _ _).drew trivial ?_
    repeat (first
      | (refine TxtBL.skip (by rfl) ?_; simp only [Act.put, List.setIfInBounds_toArray, List.set_cons_zero, List.set_cons_succ])
      | (refine TxtBL.take (by rfl) (by rfl) ?_; apply Exists.intro; refine ⟨fun w1 hS1 => ?_, ?_⟩; (focus ((have g2 := (hS1.cell (lt_of_cell a2)).trans a2); go_simp; with_reducible rfl)); simp only [Act.put, List.setIfInBounds_toArray, List.set_cons_zero, List.set_cons_succ])
      | (refine TxtBL.takeE (by rfl) (by rfl) ?_; apply Exists.intro; refine ⟨fun w1 hS1 => ?_, ?_⟩; (focus ((have g2 := (hS1.cell (lt_of_cell a2)).trans a2); go_simp; with_reducible rfl)); simp only [Act.put, List.setIfInBounds_toArray, List.set_cons_zero, List.set_cons_succ]))
    refine TxtBL.call (f := 9) (args := #[.slice AP P.length cp, .int .i64 (i : Int)]) (fun u => u = .bool true) (fun _ _ => True) (by rfl) (by rfl) ⟨_, rfl⟩ (fun w1 hS1 hJ1 => by go_simp) (fun w1 hS1 hJ1 => ?_) ?_
    · refine (Hsm.out w1 (HPs.out.below (hb06.trans (hS1.mono hb06.size))) (by omega) (fun y hy => by rw [HPn.out y hy]; omega)).mono ?_
      rintro e w' ⟨rfl, hb⟩
      exact ⟨_, rfl, hS1.trans (hb.mono hS1.size), rfl, trivial⟩
    rintro _ rfl
    simp only [Act.put, List.setIfInBounds_toArray, List.set_cons_zero, List.set_cons_succ]
    repeat (first
      | (refine TxtBL.skip (by rfl) ?_; simp only [Act.put, List.setIfInBounds_toArray, List.set_cons_zero, List.set_cons_succ])
      | (refine TxtBL.take (by rfl) (by rfl) ?_; apply Exists.intro; refine ⟨fun w1 hS1 => ?_, ?_⟩; (focus (skip; go_simp; with_reducible rfl)); simp only [Act.put, List.setIfInBounds_toArray, List.set_cons_zero, List.set_cons_succ])
      | (refine TxtBL.takeE (by rfl) (by rfl) ?_; apply Exists.intro; refine ⟨fun w1 hS1 => ?_, ?_⟩; (focus (skip; go_simp; with_reducible rfl)); simp only [Act.put, List.setIfInBounds_toArray, List.set_cons_zero, List.set_cons_succ]))
    refine TxtBL.nil (fun W7 hS7 _ => ?_)
    obtain ⟨ha, hsi, hslt⟩ := Hsnd.out s rfl
    have hb7 := hb06.trans (hS7.mono hb06.size)
    have a2 := (hS7.cell (lt_of_cell a2)).trans a2
    have a3 := (hS7.cell (lt_of_cell a3)).trans a3
    have y0 := (hb7.cell (lt_of_cell z0)).trans z0
    have y1 := (hb7.cell (lt_of_cell z1)).trans z1
    have hrr7 := (hrr.below hb6).below hS7
    have hrp7 := hrp3.below hb7
    have hlt5 : w5.heap.size < W7.heap.size := lt_of_cell a3
    have hltG : G < W7.heap.size := lt_of_cell y1
    have hnode : ∀ q ∈ OO, q.2 < n ∧ s.testBit q.2 = true := fun q hq => hok.ok _ (hok.o q hq).2.1
    have Hb7 := Lib.hid hb7; have Hnode := Lib.hid hnode; have Hrr := Lib.hid hrr7; have Hrp := Lib.hid hrp7; have Ha := Lib.hid ha; have Hslt := Lib.hid hslt
    clear hb06 hS7 hb6 hs6 hb5 hrr hok hb7 hnode hrr7 hrp7 ha hslt Hsnd
    go_wp2_with fail
    obtain ⟨W8, hW8, ho8, hb8⟩ : ∃ W8, W7.alloc (.cells #[.int .i64 (i : Int)] 3) = W8 ∧ OwnI W8 W7.heap.size (.slice (some ⟨W7.heap.size, 0, none⟩) 1 1) ([i].map Int.ofNat) ∧ Below W7.heap.size W7 W8 := ⟨_, rfl, own_one2 W7 i _ (Nat.le_refl _), newB _ _⟩
    rw [hW8]
    clear hW8 a2 y0
    go_wp2_with fail
    go_loopw [10, 11] (fun t10 t11 wr => ∃ (R2 : List Nat) (k : Nat), k ≤ R2.length ∧ t11 = .int .i64 (k : Int) ∧ OwnI wr W7.heap.size t10 (R2.map Int.ofNat) ∧ RcOk n s R2 ∧ Below W7.heap.size W7 wr) (fun _ t11 _ => n - (intOf t11).toNat)
    case atStart => exact ⟨[i], 0, Nat.zero_le _, rfl, ho8, RcOk.one hin hsi, hb8⟩
    case round =>
      clear ho8 hb8
      obtain ⟨R2, k, hk, rfl, ho, hrc, hbw⟩ := hrel
      obtain ⟨A9, c9, rfl, hri, -⟩ := OwnI.form ho
      rw [List.length_map] at ho ⊢
      have hRl := hrc.len
      obtain ⟨wo, hwo⟩ : ∃ wo, wo = wr := ⟨_, rfl⟩
      subst hwo
      have a3o := (hbw.cell (lt_of_cell a3)).trans a3
      have y1o := (hbw.cell (lt_of_cell y1)).trans y1
      by_cases hkR : k < R2.length
      case neg =>
        have htrue : (P.any fun y => (R2.map Int.ofNat).all fun v => atB y v) = true := Habv.out s Hslt.out Ha.out _ (fun v hv => by
          obtain ⟨a, ha, rfl⟩ := List.mem_map.1 hv
          exact ⟨a, rfl, hrc.ok a ha⟩)
        have hPo : RS wo AP P := hPs.below (Hb7.out.trans (hbw.mono Hb7.out.size))
        have hR2n : ∀ (m : Nat) (h : m < R2.length), R2[m] < n := fun m h => (hrc.ok _ (List.getElem_mem h)).1
        have hb9 := Hb7.out.trans (hbw.mono Hb7.out.size)
        have Htrue := Lib.hid htrue; have HR2n := Lib.hid hR2n; have Hbw := Lib.hid hb9
        clear htrue hR2n ho hrc hbw a3o y1o hb9
        go_wp2_with fail
        go_loop [16, 116] (fun t16 t116 => ∃ q : Nat, q ≤ P.length ∧ t16 = .bool ((P.take q).any fun y => (R2.map Int.ofNat).all fun v => atB y v) ∧ t116 = .int .i64 (q : Int)) (fun _ t116 => P.length - (intOf t116).toNat)
        case atStart => exact ⟨0, Nat.zero_le _, rfl, rfl⟩
        case round =>
          obtain ⟨q, hq, rfl, rfl⟩ := hrel
          obtain ⟨fb, hfb⟩ : ∃ fb, ((P.take q).any fun y => (R2.map Int.ofNat).all fun v => atB y v) = fb := ⟨_, rfl⟩
          have Hfb := Lib.hid hfb
          rw [hfb]
          clear hfb
          by_cases hqP : q < P.length
          case neg =>
            have e : fb = true := by rw [← Hfb.out, List.take_of_length_le (by omega)]; exact Htrue.out
            subst e
            go_wp2_with fail
            go_roundw
            case rel => exact ⟨i + 1, by omega, by go_num, Hbw.out⟩
            case measure => simp [intOf]; omega
          case pos =>
          obtain ⟨b1, o1, Ay, cy, hAP, hcell, hriy⟩ := hPo.at_ hqP
          obtain ⟨y, hy⟩ : ∃ y, P[q] = y := ⟨_, rfl⟩
          have hyl : y.length = n := HPn.out y (by rw [← hy]; exact List.getElem_mem _)
          rw [hy] at hcell hriy
          have Hy := Lib.hid hy
          clear hy
          subst hAP
          go_wp2_with fail
          go_loop [19, 122] (fun t19 t122 => ∃ m : Nat, m ≤ R2.length ∧ t19 = .bool (((R2.map Int.ofNat).take m).all fun v => atB y v) ∧ t122 = .int .i64 (m : Int)) (fun _ t122 => R2.length - (intOf t122).toNat)
          case atStart => exact ⟨0, Nat.zero_le _, rfl, rfl⟩
          case round =>
            obtain ⟨m, hm, rfl, rfl⟩ := hrel
            obtain ⟨ib, hib⟩ : ∃ ib, (((R2.map Int.ofNat).take m).all fun v => atB y v) = ib := ⟨_, rfl⟩
            have Hib := Lib.hid hib
            rw [hib]
            clear hib
            by_cases hmR : m < R2.length
            case neg =>
              have hall : ((R2.map Int.ofNat).all fun v => atB y v) = ib := by rw [← Hib.out, List.take_of_length_le (by rw [List.length_map]; omega)]
              have hst : ((P.take (q + 1)).any fun y => (R2.map Int.ofNat).all fun v => atB y v) = (fb || ib) := by rw [any_step2 _ _ hqP, Hfb.out, Hy.out, hall]
              have Hst := Lib.hid hst
              clear hall hst
              cases fb
              · go_wp2_with fail
                go_round
                case rel => exact ⟨q + 1, by omega, by rw [Hst.out]; rfl, by go_num⟩
                case measure => simp [intOf]; omega
              · go_wp2_with fail
                go_round
                case rel => exact ⟨q + 1, by omega, by rw [Hst.out]; rfl, by go_num⟩
                case measure => simp [intOf]; omega
            case pos =>
            obtain ⟨bm, om, hAm, hcm⟩ := hri.at_ (k := m) (by rw [List.length_map]; exact hmR)
            rw [List.getElem_map, Int.ofNat_eq_natCast] at hcm
            have hvn := HR2n.out m hmR
            have hstep : (((R2.map Int.ofNat).take (m + 1)).all fun v => atB y v) = (ib && atB y (R2[m] : Nat)) := by
              rw [all_step2 _ _ (by rw [List.length_map]; exact hmR), Hib.out, List.getElem_map]; rfl
            generalize R2[m] = v at hcm hvn hstep
            have hvy : v < y.length := by omega
            obtain ⟨by_, oy, hAy, hcy⟩ := hriy.at_ (k := v) hvy
            have hat : atB y (v : Nat) = (y[v] == 1) := by
              unfold atB
              rw [decide_eq_true (show (0 : Int) ≤ (v : Int) by omega), decide_eq_true (show (v : Int) < (y.length : Int) by omega), Bool.true_and, Bool.true_and, Int.toNat_natCast, List.getD_eq_getElem?_getD, List.getElem?_eq_getElem hvy]; rfl
            rw [hat] at hstep
            generalize y[v] = yv at hcy hstep
            have hv0 : (0 : Int) ≤ (v : Int) := by omega
            have hv1 : (v : Int) < (y.length : Int) := by omega
            subst hAm
            subst hAy
            have Hstep := Lib.hid hstep
            clear hat hstep
            cases ib
            · go_wp2_with fail
              go_round
              case rel => exact ⟨m + 1, by omega, by rw [Hstep.out]; rfl, by go_num⟩
              case measure => simp [intOf]; omega
            · obtain ⟨yb, hyb⟩ : ∃ yb, (yv == 1) = yb := ⟨_, rfl⟩
              rw [hyb] at Hstep
              go_wp2_with fail
              go_round
              case rel => exact ⟨m + 1, by omega, by rw [Hstep.out]; first | rfl | (rw [← hyb]; rfl), by go_num⟩
              case measure => simp [intOf]; omega
      case pos =>
      have Ho := Lib.hid ho; have Hrc := Lib.hid hrc; have Hbw := Lib.hid hbw
      have hkn : k < n := by omega
      clear ho hrc hri
      go_wp2_with fail
      clear a3o y1o
      go_loopw [10, 75] (fun t10 t75 wr => ∃ (R3 : List Nat) (q : Nat), q ≤ OO.length ∧ t75 = .int .i64 (q : Int) ∧ OwnI wr W7.heap.size t10 (R3.map Int.ofNat) ∧ RcOk n s R3 ∧ k < R3.length ∧ Below W7.heap.size W7 wr) (fun _ t75 _ => OO.length - (intOf t75).toNat)
      case atStart => exact ⟨R2, 0, Nat.zero_le _, rfl, Ho.out, Hrc.out, hkR, Hbw.out⟩
      case round =>
        clear hbw Ho Hrc Hbw hkR
        obtain ⟨R3, q, hq, rfl, ho, hrc, hk3, hbw⟩ := hrel
        obtain ⟨A9, c9, rfl, hri, -⟩ := OwnI.form ho
        rw [List.length_map] at ho ⊢
        obtain ⟨wp, hwp⟩ : ∃ wp, wp = wr := ⟨_, rfl⟩
        subst hwp
        by_cases hqO : q < OO.length
        case neg =>
          have Ho := Lib.hid ho; have Hrc := Lib.hid hrc; have Hbw := Lib.hid hbw; have Hk3 := Lib.hid (Nat.succ_le_of_lt hk3)
          clear ho hrc hri hbw
          go_wp2_with fail
          go_roundw
          case rel => exact ⟨R3, k + 1, Hk3.out, by go_num, Ho.out, Hrc.out, Hbw.out⟩
          case measure => simp [intOf]; omega
        case pos =>
        obtain ⟨bq, oq, hA5, h5a, h5b⟩ := (Hrr.out.below hbw).at_ (k := q) (by rw [List.length_map]; exact hqO)
        rw [List.getElem_map] at h5a h5b
        have hqn := Hnode.out OO[q] (List.getElem_mem _)
        generalize OO[q] = rp at h5a h5b hqn
        obtain ⟨rt, rn⟩ := rp
        simp only [toI] at h5a h5b hqn
        have y1p := (hbw.cell (lt_of_cell y1)).trans y1
        subst hA5
        obtain ⟨Wq, hWq, kq, hbq, hsq⟩ := boxedA wp 41 #[.int .i64 (rt : Int), .int .i64 (rn : Int)]
        have hlq : wp.heap.size < Wq.heap.size := kq.lt
        have y1q := (hbq.cell (lt_of_cell y1p)).trans y1p
        have hoq := OwnI.below ho hbq
        have hbwq := hbw.trans (hbq.mono hbw.size)
        have hneq : ∀ b, (Value.slice A9 R3.length c9).ownBlock = some b → b ≠ wp.heap.size := fun b hb => Nat.ne_of_lt (World.ownsRow.lt ho b hb).2
        have HWq := Lib.hid hWq
        have Ho := Lib.hid hoq; have Hrc := Lib.hid hrc; have Hbw := Lib.hid hbwq; have Hne := Lib.hid hneq; have Hk3 := Lib.hid hk3; have Hqn := Lib.hid hqn
        clear hoq hrc hri hbwq hneq hbw ho hk3 hqn hWq
        go_upto_region 20 with fail
        rw [HWq.out]
        clear y1p h5a h5b
        go_wp2_with fail
        go_loopw [10, 82] (fun t10 t82 wr => ∃ (R4 : List Nat) (j : Nat), j ≤ l.length ∧ t82 = .int .i64 (j : Int) ∧ OwnI wr W7.heap.size t10 (R4.map Int.ofNat) ∧ RcOk n s R4 ∧ k < R4.length ∧ Below W7.heap.size W7 wr ∧ Blk wr wp.heap.size 41 #[.int .i64 (rt : Int), .int .i64 (rn : Int)] ∧ (∀ b, t10.ownBlock = some b → b ≠ wp.heap.size)) (fun _ t82 _ => l.length - (intOf t82).toNat)
        case atStart => exact ⟨R3, 0, Nat.zero_le _, rfl, Ho.out, Hrc.out, Hk3.out, Hbw.out, kq, Hne.out⟩
        case round =>
          clear kq Ho Hrc Hbw Hne Hk3 y1q HWq
          obtain ⟨R4, j, hj, rfl, ho, hrc, hk4, hbw, kr, hne⟩ := hrel
          obtain ⟨A9, c9, rfl, hri, -⟩ := OwnI.form ho
          rw [List.length_map] at ho hne ⊢
          by_cases hjl : j < l.length
          case neg =>
            have Ho := Lib.hid ho; have Hrc := Lib.hid hrc; have Hbw := Lib.hid hbw; have Hk4 := Lib.hid hk4
            clear ho hrc hri hbw hk4 kr hne
            go_wp2_with fail
            go_roundw
            case rel => exact ⟨R4, q + 1, by omega, by go_num, Ho.out, Hrc.out, Hk4.out, Hbw.out⟩
            case measure => simp [intOf]; omega
          case pos =>
          obtain ⟨bj, oj, hAL, hja, hjb⟩ := (Hrp.out.below hbw).at_ (k := j) hjl
          generalize l[j] = pj at hja hjb
          obtain ⟨pf, pt⟩ := pj
          simp only at hja hjb
          obtain ⟨bk, ok, hAk, hck⟩ := hri.at_ (k := k) (by rw [List.length_map]; exact hk4)
          rw [List.getElem_map, Int.ofNat_eq_natCast] at hck
          generalize R4[k] = rk at hck
          subst hAk
          subst hAL
          obtain ⟨Wj, hWj, kj, hbj, hsj⟩ := boxedA wr 43 #[.int .i64 pf, .int .i64 pt]
          have hwr : wr.heap.size < Wj.heap.size := kj.lt
          have hckj := (hbj.cell (lt_of_cell hck)).trans hck
          have kr' := kr.below hbj kr.lt
          have r0 : Wj.cell? ⟨wp.heap.size, 0, none⟩ = some (.int .i64 (rt : Int)) := kr'.cell 0
          have r1 : Wj.cell? ⟨wp.heap.size, 1, none⟩ = some (.int .i64 (rn : Int)) := kr'.cell 1
          have p0 : Wj.cell? ⟨wr.heap.size, 0, none⟩ = some (.int .i64 pf) := kj.cell 0
          have p1 : Wj.cell? ⟨wr.heap.size, 1, none⟩ = some (.int .i64 pt) := kj.cell 1
          have hoj := OwnI.below ho hbj
          have hbwj := hbw.trans (hbj.mono hbw.size)
          have hin4 := fun W (h : RI W (some ⟨bk, ok, none⟩) (R4.map Int.ofNat)) => in_any (some ⟨bk, ok, none⟩) (R4.map Int.ofNat) c9 (rn : Int) W (by rw [List.length_map]; have := hrc.len; omega) h
          rw [List.length_map, inB_ofNat] at hin4
          have Hin4 := Lib.hid hin4
          have hk0 : (0 : Int) ≤ (k : Int) := by omega
          have hk1 : (k : Int) < (R4.length : Int) := by omega
          have hrij := hri.below hbj
          have Ho := Lib.hid hoj; have Hrc := Lib.hid hrc; have Hbw := Lib.hid hbwj; have Hne := Lib.hid hne; have Hk4 := Lib.hid hk4; have Kr := Lib.hid kr'; have Hrij := Lib.hid hrij; have HWj := Lib.hid hWj
          clear hoj hrc hri hbwj hne hbw ho hk4 hWj kr kr' hck kj hin4 hrij
          go_upto_region 23 with fail
          rw [HWj.out]
          clear hja hjb HWj
          by_cases e1 : pf = (rt : Int)
          case neg =>
            have b1 : (pf == (rt : Int)) = false := beq_eq_false_iff_ne.2 e1
            clear e1
            refine wp_region_textB [18] (fun w' => Below Wj.heap.size Wj w') (fun _ => True) (by kernel_rfl) (by kernel_rfl) (by kernel_rfl) (Below.refl _ _).drew trivial ?_
            repeat (first
              | (refine TxtBL.skip (by rfl) ?_; simp only [Act.put, List.setIfInBounds_toArray, List.set_cons_zero, List.set_cons_succ])
              | (refine TxtBL.take (by rfl) (by rfl) ?_; apply Exists.intro; refine ⟨fun w1 hS1 => ?_, ?_⟩; (focus ((have g0 := (hS1.cell (lt_of_cell r0)).trans r0); (have g1 := (hS1.cell (lt_of_cell r1)).trans r1); (have g2 := (hS1.cell (lt_of_cell p0)).trans p0); (have g3 := (hS1.cell (lt_of_cell p1)).trans p1); (have g4 := (hS1.cell (lt_of_cell hckj)).trans hckj); go_simp; with_reducible rfl)); simp only [Act.put, List.setIfInBounds_toArray, List.set_cons_zero, List.set_cons_succ])
              | (refine TxtBL.takeE (by rfl) (by rfl) ?_; apply Exists.intro; refine ⟨fun w1 hS1 => ?_, ?_⟩; (focus ((have g0 := (hS1.cell (lt_of_cell r0)).trans r0); (have g1 := (hS1.cell (lt_of_cell r1)).trans r1); (have g2 := (hS1.cell (lt_of_cell p0)).trans p0); (have g3 := (hS1.cell (lt_of_cell p1)).trans p1); (have g4 := (hS1.cell (lt_of_cell hckj)).trans hckj); go_simp; with_reducible rfl)); simp only [Act.put, List.setIfInBounds_toArray, List.set_cons_zero, List.set_cons_succ]))
            refine TxtBL.nil (fun W5 hS5 _ => ?_)
            have hB5 := Hbw.out.trans (hS5.mono Hbw.out.size)
            have Ho5 := Lib.hid (OwnI.below Ho.out hS5); have HB5 := Lib.hid hB5; have Kr5 := Lib.hid (Kr.out.below hS5 Kr.out.lt)
            clear hB5 r0 r1 p0 p1 hckj hS5
            go_wp2_with fail
            go_roundw
            case rel => exact ⟨R4, j + 1, by omega, by go_num, Ho5.out, Hrc.out, Hk4.out, HB5.out, Kr5.out, Hne.out⟩
            case measure => simp [intOf]; omega
          case pos =>
          subst e1
          by_cases e2 : pt = (rk : Int)
          case neg =>
            have b2 : (pt == (rk : Int)) = false := beq_eq_false_iff_ne.2 e2
            clear e2
            refine wp_region_textB [18] (fun w' => Below Wj.heap.size Wj w') (fun _ => True) (by kernel_rfl) (by kernel_rfl) (by kernel_rfl) (Below.refl _ _).drew trivial ?_
            repeat (first
              | (refine TxtBL.skip (by rfl) ?_; simp only [Act.put, List.setIfInBounds_toArray, List.set_cons_zero, List.set_cons_succ])
              | (refine TxtBL.take (by rfl) (by rfl) ?_; apply Exists.intro; refine ⟨fun w1 hS1 => ?_, ?_⟩; (focus ((have g0 := (hS1.cell (lt_of_cell r0)).trans r0); (have g1 := (hS1.cell (lt_of_cell r1)).trans r1); (have g2 := (hS1.cell (lt_of_cell p0)).trans p0); (have g3 := (hS1.cell (lt_of_cell p1)).trans p1); (have g4 := (hS1.cell (lt_of_cell hckj)).trans hckj); go_simp; with_reducible rfl)); simp only [Act.put, List.setIfInBounds_toArray, List.set_cons_zero, List.set_cons_succ])
              | (refine TxtBL.takeE (by rfl) (by rfl) ?_; apply Exists.intro; refine ⟨fun w1 hS1 => ?_, ?_⟩; (focus ((have g0 := (hS1.cell (lt_of_cell r0)).trans r0); (have g1 := (hS1.cell (lt_of_cell r1)).trans r1); (have g2 := (hS1.cell (lt_of_cell p0)).trans p0); (have g3 := (hS1.cell (lt_of_cell p1)).trans p1); (have g4 := (hS1.cell (lt_of_cell hckj)).trans hckj); go_simp; with_reducible rfl)); simp only [Act.put, List.setIfInBounds_toArray, List.set_cons_zero, List.set_cons_succ]))
            refine TxtBL.nil (fun W5 hS5 _ => ?_)
            have hB5 := Hbw.out.trans (hS5.mono Hbw.out.size)
            have Ho5 := Lib.hid (OwnI.below Ho.out hS5); have HB5 := Lib.hid hB5; have Kr5 := Lib.hid (Kr.out.below hS5 Kr.out.lt)
            clear hB5 r0 r1 p0 p1 hckj hS5
            go_wp2_with fail
            go_roundw
            case rel => exact ⟨R4, j + 1, by omega, by go_num, Ho5.out, Hrc.out, Hk4.out, HB5.out, Kr5.out, Hne.out⟩
            case measure => simp [intOf]; omega
          case pos =>
          subst e2
          have hin := Hin4.out
          by_cases e3 : rn ∈ R4
          case pos =>
            rw [decide_eq_true e3] at hin
            have Hin := Lib.hid hin
            clear hin e3
            refine wp_region_textB [18] (fun w' => Below Wj.heap.size Wj w') (fun _ => True) (by kernel_rfl) (by kernel_rfl) (by kernel_rfl) (Below.refl _ _).drew trivial ?_
            repeat (first
              | (refine TxtBL.skip (by rfl) ?_; simp only [Act.put, List.setIfInBounds_toArray, List.set_cons_zero, List.set_cons_succ])
              | (refine TxtBL.take (by rfl) (by rfl) ?_; apply Exists.intro; refine ⟨fun w1 hS1 => ?_, ?_⟩; (focus ((have g0 := (hS1.cell (lt_of_cell r0)).trans r0); (have g1 := (hS1.cell (lt_of_cell r1)).trans r1); (have g2 := (hS1.cell (lt_of_cell p0)).trans p0); (have g3 := (hS1.cell (lt_of_cell p1)).trans p1); (have g4 := (hS1.cell (lt_of_cell hckj)).trans hckj); go_simp; with_reducible rfl)); simp only [Act.put, List.setIfInBounds_toArray, List.set_cons_zero, List.set_cons_succ])
              | (refine TxtBL.takeE (by rfl) (by rfl) ?_; apply Exists.intro; refine ⟨fun w1 hS1 => ?_, ?_⟩; (focus ((have g0 := (hS1.cell (lt_of_cell r0)).trans r0); (have g1 := (hS1.cell (lt_of_cell r1)).trans r1); (have g2 := (hS1.cell (lt_of_cell p0)).trans p0); (have g3 := (hS1.cell (lt_of_cell p1)).trans p1); (have g4 := (hS1.cell (lt_of_cell hckj)).trans hckj); go_simp; with_reducible rfl)); simp only [Act.put, List.setIfInBounds_toArray, List.set_cons_zero, List.set_cons_succ]))
            refine TxtBL.call (f := 10) (args := #[.slice (some ⟨bk, ok, none⟩) R4.length c9, .int .i64 (rn : Int)]) (fun u => u = .bool true) (fun _ _ => True) (by rfl) (by rfl) ⟨_, rfl⟩ (fun w1 hS1 hJ1 => by go_simp) (fun w1 hS1 hJ1 => ?_) ?_
            · refine (Hin.out w1 (Hrij.out.below hS1)).mono ?_
              rintro e w' ⟨rfl, rfl⟩
              exact ⟨_, rfl, hS1, rfl, trivial⟩
            rintro _ rfl
            simp only [Act.put, List.setIfInBounds_toArray, List.set_cons_zero, List.set_cons_succ]
            repeat (first
              | (refine TxtBL.skip (by rfl) ?_; simp only [Act.put, List.setIfInBounds_toArray, List.set_cons_zero, List.set_cons_succ])
              | (refine TxtBL.take (by rfl) (by rfl) ?_; apply Exists.intro; refine ⟨fun w1 hS1 => ?_, ?_⟩; (focus (skip; go_simp; with_reducible rfl)); simp only [Act.put, List.setIfInBounds_toArray, List.set_cons_zero, List.set_cons_succ])
              | (refine TxtBL.takeE (by rfl) (by rfl) ?_; apply Exists.intro; refine ⟨fun w1 hS1 => ?_, ?_⟩; (focus (skip; go_simp; with_reducible rfl)); simp only [Act.put, List.setIfInBounds_toArray, List.set_cons_zero, List.set_cons_succ]))
            refine TxtBL.nil (fun W5 hS5 _ => ?_)
            have hB5 := Hbw.out.trans (hS5.mono Hbw.out.size)
            have Ho5 := Lib.hid (OwnI.below Ho.out hS5); have HB5 := Lib.hid hB5; have Kr5 := Lib.hid (Kr.out.below hS5 Kr.out.lt)
            clear hB5 r0 r1 p0 p1 hckj hS5
            go_wp2_with fail
            go_roundw
            case rel => exact ⟨R4, j + 1, by omega, by go_num, Ho5.out, Hrc.out, Hk4.out, HB5.out, Kr5.out, Hne.out⟩
            case measure => simp [intOf]; omega
          case neg =>
          rw [decide_eq_false e3] at hin
          have Hin := Lib.hid hin; have He3 := Lib.hid e3
          clear hin e3
          refine wp_region_textB [18] (fun w' => Below Wj.heap.size Wj w') (fun _ => True) (by kernel_rfl) (by kernel_rfl) (by kernel_rfl) (Below.refl _ _).drew trivial ?_
          repeat (first
            | (refine TxtBL.skip (by rfl) ?_; simp only [Act.put, List.setIfInBounds_toArray, List.set_cons_zero, List.set_cons_succ])
            | (refine TxtBL.take (by rfl) (by rfl) ?_; apply Exists.intro; refine ⟨fun w1 hS1 => ?_, ?_⟩; (focus ((have g0 := (hS1.cell (lt_of_cell r0)).trans r0); (have g1 := (hS1.cell (lt_of_cell r1)).trans r1); (have g2 := (hS1.cell (lt_of_cell p0)).trans p0); (have g3 := (hS1.cell (lt_of_cell p1)).trans p1); (have g4 := (hS1.cell (lt_of_cell hckj)).trans hckj); go_simp; with_reducible rfl)); simp only [Act.put, List.setIfInBounds_toArray, List.set_cons_zero, List.set_cons_succ])
            | (refine TxtBL.takeE (by rfl) (by rfl) ?_; apply Exists.intro; refine ⟨fun w1 hS1 => ?_, ?_⟩; (focus ((have g0 := (hS1.cell (lt_of_cell r0)).trans r0); (have g1 := (hS1.cell (lt_of_cell r1)).trans r1); (have g2 := (hS1.cell (lt_of_cell p0)).trans p0); (have g3 := (hS1.cell (lt_of_cell p1)).trans p1); (have g4 := (hS1.cell (lt_of_cell hckj)).trans hckj); go_simp; with_reducible rfl)); simp only [Act.put, List.setIfInBounds_toArray, List.set_cons_zero, List.set_cons_succ]))
          refine TxtBL.call (f := 10) (args := #[.slice (some ⟨bk, ok, none⟩) R4.length c9, .int .i64 (rn : Int)]) (fun u => u = .bool false) (fun _ _ => True) (by rfl) (by rfl) ⟨_, rfl⟩ (fun w1 hS1 hJ1 => by go_simp) (fun w1 hS1 hJ1 => ?_) ?_
          · refine (Hin.out w1 (Hrij.out.below hS1)).mono ?_
            rintro e w' ⟨rfl, rfl⟩
            exact ⟨_, rfl, hS1, rfl, trivial⟩
          rintro _ rfl
          simp only [Act.put, List.setIfInBounds_toArray, List.set_cons_zero, List.set_cons_succ]
          repeat (first
            | (refine TxtBL.skip (by rfl) ?_; simp only [Act.put, List.setIfInBounds_toArray, List.set_cons_zero, List.set_cons_succ])
            | (refine TxtBL.take (by rfl) (by rfl) ?_; apply Exists.intro; refine ⟨fun w1 hS1 => ?_, ?_⟩; (focus (skip; go_simp; with_reducible rfl)); simp only [Act.put, List.setIfInBounds_toArray, List.set_cons_zero, List.set_cons_succ])
            | (refine TxtBL.takeE (by rfl) (by rfl) ?_; apply Exists.intro; refine ⟨fun w1 hS1 => ?_, ?_⟩; (focus (skip; go_simp; with_reducible rfl)); simp only [Act.put, List.setIfInBounds_toArray, List.set_cons_zero, List.set_cons_succ]))
          refine TxtBL.nil (fun W5 hS5 _ => ?_)
          have hB5 := Hbw.out.trans (hS5.mono Hbw.out.size)
          have hsz5 : W7.heap.size ≤ W5.heap.size := hB5.size
          have hlr : (R4.map Int.ofNat).length ≤ 1000000 := by rw [List.length_map]; have := Hrc.out.len; omega
          have hwp5 : wp.heap.size < W5.heap.size := (Kr.out.below hS5 Kr.out.lt).lt
          have r1 := (hS5.cell (lt_of_cell r1)).trans r1
          have Ho5 := Lib.hid (OwnI.below Ho.out hS5); have HB5 := Lib.hid hB5; have Kr5 := Lib.hid (Kr.out.below hS5 Kr.out.lt)
          have hm := Hrc.out.more Hqn.out He3.out
          have Hm := Lib.hid hm
          clear hB5 hm r0 p0 p1 hckj hS5
          go_wp2_with (at_builtin; refine wpList_appI2 (by rfl) _ _ (by rfl) W5 W7.heap.size _ (R4.map Int.ofNat) (rn : Int) Ho5.out (by rfl) (by rfl) rfl hlr hsz5 ?_; intro v6 w6 ho6 hb6 hg6 hl6; (have Ho6 := Lib.hid ho6); (have HB6 := Lib.hid (HB5.out.trans hb6)); (have Kr6 := Lib.hid (Kr5.out.grown hg6 (fun e => Hne.out _ e.symm rfl))); (have Hne6 := Lib.hid (app_ne Hne.out hwp5 hl6)); clear ho6 hb6 hg6 hl6)
          go_roundw
          case rel => exact ⟨R4 ++ [rn], j + 1, by omega, by go_num, by rw [List.map_append]; exact Ho6.out, Hm.out, by rw [List.length_append]; have := Hk4.out; omega, HB6.out, Kr6.out, Hne6.out⟩
          case measure => simp [intOf]; omega
end Go.Proofs.YthkknlnfdckdfaaGreatDoor
