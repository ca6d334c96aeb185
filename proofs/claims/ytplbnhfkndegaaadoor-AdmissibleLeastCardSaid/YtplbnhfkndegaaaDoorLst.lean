/- The walk of the statement AdmissibleLeast. -/
import Derived.Test.YtplbnhfkndegaaaDoorPlainB
import Derived.Test.YtplbnhfkndegaaaDoorAwake
import Derived.Test.YtplbnhfkndegaaaDoorGenW
namespace Go.Proofs.YtplbnhfkndegaaaDoor
open Go.ChangeShapes Go.WideShapes Go.ChangeAt Go.RowKit

theorem set_len {n : Nat} (hn : n ≤ 40) {x : List Int} (h : setB n x = true) : x.length ≤ 100000 := by
  have h1 := set_nodes h
  have h2 := nodesB_length n (maskN x).testBit
  rw [h1] at h2; omega

set_option maxRecDepth 100000 in
set_option maxHeartbeats 8000000 in
theorem least_any (A : Option Addr) (arg : List Int) (c : Nat) (w : World) (hlc : arg.length ≤ c) (hc : c ≤ 9223372036854775807) (hr : RI w A arg) (hx : ∀ x ∈ arg, -9223372036854775808 ≤ x ∧ x ≤ 9223372036854775807) (hT : Tab w) :
    Calls Tryd.prog 6 #[.slice A arg.length c] w (RetB (.bool true) w) := by
  go_enter Tryd.func6, Tryd.ntmps6
  go_wp2_with fail
  refine (new_any A arg c w hlc hc hr hx).mono ?_
  rintro e w1 ⟨p, rfl, hp, hs1, hb1⟩
  clear hr hx
  go_wp2_with fail
  refine (graph_any p 6 w1 hs1 (by omega)).mono ?_
  rintro e w2 ⟨n, l, AL, cl, rfl, hN, hv, hrp, _, _, hg2⟩
  have hb2 : Below w.heap.size w w2 := hb1.trans (below_of_grownBy hg2 hp hb1.size)
  clear hs1 hb1 hg2
  go_wp2_with fail
  obtain ⟨W0, hW, c0, c1, hb0, hlt0⟩ := boxed w2 27 (.int .i64 n) (.slice AL l.length cl)
  rw [hW]
  clear hW
  refine (sets_any n W0 (by omega)).mono ?_
  rintro e B ⟨SA, sc, rfl, hso, hb3⟩
  obtain ⟨d0, d1, hbb⟩ := keepC c0 c1 (Below.refl _ _) hb3
  have hrB := (hrp.below hb0).below hb3
  have hTB := hT.below (hb2.trans ((endB hb0 hb3).mono hb2.size))
  have hBw : Below w.heap.size w B := hb2.trans ((endB hb0 hb3).mono hb2.size)
  have hvR := hv.1
  have hn40 := hvR.1; have hlen := hvR.2.1
  have hgl : nGl n l = l := by unfold nGl; rw [hv.valE]; rfl
  have hS : ∀ x ∈ setsL n, setB n x = true := fun x h => sets_mem h
  have hSl : (setsL n).length ≤ 1024 := by rw [setsL_length]; have := Nat.pow_le_pow_right (n := 2) (by omega) hN; omega
  clear c0 c1 hb0 hb3 hbb hb2 hrp hT
  generalize w2.heap.size = G at *
  generalize setsL n = S at *
  have HS := Lib.hid hS; have HV := Lib.hid hv; have Hgl := Lib.hid hgl; clear hS hv hgl
  go_wp2_with fail
  go_loopw [23] (fun i wr => ∃ k : Nat, k ≤ S.length ∧ i = .int .i64 k ∧ Below B.heap.size B wr) (fun i _ => S.length - (intOf i).toNat)
  case atStart => exact ⟨0, Nat.zero_le _, rfl, Below.refl _ _⟩
  case round =>
    obtain ⟨k, hk, rfl, hbl⟩ := hrel
    by_cases hlt : k < S.length
    case neg =>
      go_wp2_with fail
      refine (awake_any wr (hTB.below hbl)).mono ?_
      rintro e w4 ⟨rfl, hb4⟩
      go_wp2_with fail
      go_ret
      exact ⟨rfl, hBw.trans ((endB hbl hb4).mono hBw.size)⟩
    case pos =>
    obtain ⟨b, o, A', c', rfl, hc, _, hri⟩ := (hso.below hbl) k hlt
    have hset := HS.out _ (List.getElem_mem hlt)
    generalize S[k] = x at *
    have hxl : x.length ≤ 100000 := set_len hn40 hset
    have hlw := least_law hvR hset
    clear hset
    obtain ⟨wo, hwo⟩ : ∃ wo, wo = wr := ⟨_, rfl⟩
    subst hwo
    have e0 := (hbl.cell (lt_of_cell d0)).trans d0
    have e1 := (hbl.cell (lt_of_cell d1)).trans d1
    go_wp2_with fail
    refine (aGrow_any _ n l cl _ x c' wo (hrB.below hbl) hvR hri hxl (hTB.below hbl)).mono ?_
    rintro e w4 ⟨GA, gac, rfl, _, hga, _, hb4⟩
    obtain ⟨f0, f1, hbl4⟩ := keepC e0 e1 hbl hb4
    have hri4 := hri.below hb4
    clear e0 e1 hb4 hri
    generalize (growL n l x).1 = a at *
    generalize (growL n l x).2 = ge at *
    go_wp2_with fail
    refine (aShrink_any _ n l cl _ x c' w4 (hrB.below hbl4) hvR hri4 hxl (hTB.below hbl4)).mono ?_
    rintro e w5 ⟨SB, sbc, rfl, _, hsb, _, hb5⟩
    obtain ⟨e0, e1, hbl5⟩ := keepC f0 f1 hbl4 hb5
    have hri5 := hri4.below hb5
    have hga5 := hga.below hb5
    clear f0 f1 hbl4 hb5 hri4 hga
    generalize (shrinkL n l x).1 = b at *
    generalize (shrinkL n l x).2 = se at *
    obtain ⟨he, hf, la, lb, gA, gB, gC⟩ := hlw
    have HA := Lib.hid gA; have HB := Lib.hid gB; have HC := Lib.hid gC; clear gA gB gC
    have Hf := Lib.hid hf; clear hf
    cases ha : admR n l x
    case false =>
      have Hadm := Lib.hid ha; rw [ha] at he; clear ha
      have Hge := Lib.hid he
      go_wp2_with fail
      have H9 := r13Admissible_any _ n l cl _ x c' w5 (hrB.below hbl5) hn40 hlen Hgl.out hri5 hxl
      rw [Hadm.out] at H9
      refine H9.mono ?_
      clear H9
      rintro e u101 ⟨rfl, hqu101⟩
      obtain ⟨pu101, qu101, hHu101⟩ := keepC e0 e1 hbl5 hqu101
      skip
      go_wp2_with fail
      cases hcf : cfR n l x
      case false =>
        have hf := Hf.out
        rw [hcf] at hf
        have Hcf := Lib.hid hcf; clear hcf
        have H9 := r13ConflictFree_any _ n l cl _ x c' u101 (hrB.below hHu101) hlen Hgl.out (hri5.below hqu101) hxl
        rw [Hcf.out] at H9
        refine H9.mono ?_
        clear H9
        rintro e u102 ⟨rfl, hqu102⟩
        obtain ⟨pu102, qu102, hHu102⟩ := keepC pu101 qu101 hHu101 hqu102
        have hZ : Below w5.heap.size w5 u102 := thenB hqu101 hqu102
        go_wp2_with fail
        go_loopw [85] (fun i wr => ∃ j : Nat, j ≤ S.length ∧ i = .int .i64 j ∧ Below u102.heap.size u102 wr) (fun i _ => S.length - (intOf i).toNat)
        case atStart => exact ⟨0, Nat.zero_le _, rfl, Below.refl _ _⟩
        case round =>
          obtain ⟨j, hj, rfl, hbj⟩ := hrel
          by_cases hjs : j < S.length
          case neg =>
            go_wp2_with fail
            go_roundw
            case rel => exact ⟨k + 1, by omega, by go_num, endB hHu102 hbj⟩
            case measure => simp [intOf]; omega
          case pos =>
          obtain ⟨b2, o2, A2, c2, hA2, hc2, _, hry⟩ := (hso.below (endB hHu102 hbj)) j hjs
          injection hA2 with hA2; injection hA2 with hA2 hA3' _; subst hA2; subst hA3'
          have hyset := HS.out _ (List.getElem_mem hjs)
          generalize S[j] = y at *
          have hyl : y.length ≤ 100000 := set_len hn40 hyset
          clear hyset
          have hX := endB hZ hbj
          obtain ⟨r0, r1, hbJ⟩ := keepC pu102 qu102 hHu102 hbj
          go_wp2_with fail
          go_roundw
          case rel => exact ⟨j + 1, by omega, by go_num, hbj⟩
          case measure => simp [intOf]; omega
      case true =>
        have hf := Hf.out
        rw [hcf] at hf
        obtain rfl : se = 0 := by simpa using hf
        clear hf
        have Hcf := Lib.hid hcf; clear hcf
        have H9 := r13ConflictFree_any _ n l cl _ x c' u101 (hrB.below hHu101) hlen Hgl.out (hri5.below hqu101) hxl
        rw [Hcf.out] at H9
        refine H9.mono ?_
        clear H9
        rintro e u103 ⟨rfl, hqu103⟩
        obtain ⟨pu103, qu103, hHu103⟩ := keepC pu101 qu101 hHu101 hqu103
        have hZ : Below w5.heap.size w5 u103 := thenB hqu101 hqu103
        go_wp2_with fail
        obtain ⟨hB1, hB2, hB3⟩ := HB.out Hcf.out
        have HB1 := Lib.hid hB1; have HB2 := Lib.hid hB2; have HB3 := Lib.hid hB3; clear hB1 hB2 hB3
        have H9 := r13Admissible_any _ n l cl _ b sbc u103 (hrB.below hHu103) hn40 hlen Hgl.out (hsb.below hZ) lb
        rw [HB1.out] at H9
        refine H9.mono ?_
        clear H9
        rintro e u104 ⟨rfl, hqu104⟩
        obtain ⟨pu104, qu104, hHu104⟩ := keepC pu103 qu103 hHu103 hqu104
        have hZ1 : Below w5.heap.size w5 u104 := thenB hZ hqu104
        go_wp2_with fail
        have H9 := inside_any _ _ b x sbc c' u104 (by omega) (by omega) (hsb.below hZ1) (hri5.below hZ1)
        rw [HB2.out] at H9
        refine H9.mono ?_
        clear H9
        rintro e w9 ⟨rfl, rfl⟩
        go_wp2_with fail
        go_loopw [85] (fun i wr => ∃ j : Nat, j ≤ S.length ∧ i = .int .i64 j ∧ Below u104.heap.size u104 wr) (fun i _ => S.length - (intOf i).toNat)
        case atStart => exact ⟨0, Nat.zero_le _, rfl, Below.refl _ _⟩
        case round =>
          obtain ⟨j, hj, rfl, hbj⟩ := hrel
          by_cases hjs : j < S.length
          case neg =>
            go_wp2_with fail
            go_roundw
            case rel => exact ⟨k + 1, by omega, by go_num, endB hHu104 hbj⟩
            case measure => simp [intOf]; omega
          case pos =>
          obtain ⟨b2, o2, A2, c2, hA2, hc2, _, hry⟩ := (hso.below (endB hHu104 hbj)) j hjs
          injection hA2 with hA2; injection hA2 with hA2 hA3' _; subst hA2; subst hA3'
          have hyset := HS.out _ (List.getElem_mem hjs)
          generalize S[j] = y at *
          have hyl : y.length ≤ 100000 := set_len hn40 hyset
          clear hyset
          have hX := endB hZ1 hbj
          obtain ⟨r0, r1, hbJ⟩ := keepC pu104 qu104 hHu104 hbj
          go_wp2_with fail
          refine (inside_any _ _ y x c2 c' wr (by omega) (by omega) hry (hri5.below hX)).mono ?_
          rintro e w9 ⟨rfl, rfl⟩
          cases hd1 : insideB y x
          · clear hd1
            go_wp2_with fail
            go_roundw
            case rel => exact ⟨j + 1, by omega, by go_num, hbj⟩
            case measure => simp [intOf]; omega
          · have Hd1 := Lib.hid hd1; clear hd1
            go_wp2_with fail
            refine (r13Admissible_any _ n l cl _ y c2 wr (hrB.below hbJ) hn40 hlen Hgl.out hry hyl).mono ?_
            rintro e u105 ⟨rfl, hqu105⟩
            obtain ⟨pu105, qu105, hHu105⟩ := keepC r0 r1 hbJ hqu105
            have hc3u105 := hqu105
            cases hd2 : admR n l y
            · clear hd2
              go_wp2_with fail
              go_roundw
              case rel => exact ⟨j + 1, by omega, by go_num, endB hbj hc3u105⟩
              case measure => simp [intOf]; omega
            · have hd3 := HB3.out y Hd1.out hd2
              clear hd2
              have Hd3 := Lib.hid hd3; clear hd3
              go_wp2_with fail
              have H9 := inside_any _ _ y b c2 sbc u105 (by omega) (by omega) (hry.below hc3u105) (hsb.below (endB hX hc3u105))
              rw [Hd3.out] at H9
              refine H9.mono ?_
              clear H9
              rintro e w9 ⟨rfl, rfl⟩
              go_wp2_with fail
              go_roundw
              case rel => exact ⟨j + 1, by omega, by go_num, endB hbj hc3u105⟩
              case measure => simp [intOf]; omega
    case true =>
      have Hadm := Lib.hid ha; rw [ha] at he; clear ha
      obtain rfl : ge = 0 := by simpa using he
      clear he
      have hcf : cfR n l x = true := HC.out Hadm.out
      obtain rfl : se = 0 := by have := Hf.out; rw [hcf] at this; simpa using this
      go_wp2_with fail
      have H9 := r13Admissible_any _ n l cl _ x c' w5 (hrB.below hbl5) hn40 hlen Hgl.out hri5 hxl
      rw [Hadm.out] at H9
      refine H9.mono ?_
      clear H9
      rintro e u106 ⟨rfl, hqu106⟩
      obtain ⟨pu106, qu106, hHu106⟩ := keepC e0 e1 hbl5 hqu106
      skip
      go_wp2_with fail
      have Hcf := Lib.hid hcf; clear hcf
      have H9 := r13ConflictFree_any _ n l cl _ x c' u106 (hrB.below hHu106) hlen Hgl.out (hri5.below hqu106) hxl
      rw [Hcf.out] at H9
      refine H9.mono ?_
      clear H9
      rintro e u107 ⟨rfl, hqu107⟩
      obtain ⟨pu107, qu107, hHu107⟩ := keepC pu106 qu106 hHu106 hqu107
      have hZ : Below w5.heap.size w5 u107 := thenB hqu106 hqu107
      go_wp2_with fail
      obtain ⟨hA1, hA2, hA3⟩ := HA.out Hadm.out
      have HA1 := Lib.hid hA1; have HA2 := Lib.hid hA2; have HA3 := Lib.hid hA3; clear hA1 hA2 hA3
      have H9 := r13IsComplete_any _ n l cl _ a gac u107 (hrB.below hHu107) hn40 hlen Hgl.out (hga5.below hZ) la
      rw [HA1.out] at H9
      refine H9.mono ?_
      clear H9
      rintro e u108 ⟨rfl, hqu108⟩
      obtain ⟨pu108, qu108, hHu108⟩ := keepC pu107 qu107 hHu107 hqu108
      have hZ1 : Below w5.heap.size w5 u108 := thenB hZ hqu108
      go_wp2_with fail
      have H9 := inside_any _ _ x a c' gac u108 (by omega) (by omega) (hri5.below hZ1) (hga5.below hZ1)
      rw [HA2.out] at H9
      refine H9.mono ?_
      clear H9
      rintro e w9 ⟨rfl, rfl⟩
      go_wp2_with fail
      obtain ⟨hB1, hB2, hB3⟩ := HB.out Hcf.out
      have HB1 := Lib.hid hB1; have HB2 := Lib.hid hB2; have HB3 := Lib.hid hB3; clear hB1 hB2 hB3
      have H9 := r13Admissible_any _ n l cl _ b sbc u108 (hrB.below hHu108) hn40 hlen Hgl.out (hsb.below hZ1) lb
      rw [HB1.out] at H9
      refine H9.mono ?_
      clear H9
      rintro e u109 ⟨rfl, hqu109⟩
      obtain ⟨pu109, qu109, hHu109⟩ := keepC pu108 qu108 hHu108 hqu109
      have hZ2 : Below w5.heap.size w5 u109 := thenB hZ1 hqu109
      go_wp2_with fail
      have H9 := inside_any _ _ b x sbc c' u109 (by omega) (by omega) (hsb.below hZ2) (hri5.below hZ2)
      rw [HB2.out] at H9
      refine H9.mono ?_
      clear H9
      rintro e w9 ⟨rfl, rfl⟩
      go_wp2_with fail
      go_loopw [85] (fun i wr => ∃ j : Nat, j ≤ S.length ∧ i = .int .i64 j ∧ Below u109.heap.size u109 wr) (fun i _ => S.length - (intOf i).toNat)
      case atStart => exact ⟨0, Nat.zero_le _, rfl, Below.refl _ _⟩
      case round =>
        obtain ⟨j, hj, rfl, hbj⟩ := hrel
        by_cases hjs : j < S.length
        case neg =>
          go_wp2_with fail
          go_roundw
          case rel => exact ⟨k + 1, by omega, by go_num, endB hHu109 hbj⟩
          case measure => simp [intOf]; omega
        case pos =>
        obtain ⟨b2, o2, A2, c2, hA2, hc2, _, hry⟩ := (hso.below (endB hHu109 hbj)) j hjs
        injection hA2 with hA2; injection hA2 with hA2 hA3' _; subst hA2; subst hA3'
        have hyset := HS.out _ (List.getElem_mem hjs)
        generalize S[j] = y at *
        have hyl : y.length ≤ 100000 := set_len hn40 hyset
        clear hyset
        have hX := endB hZ2 hbj
        obtain ⟨r0, r1, hbJ⟩ := keepC pu109 qu109 hHu109 hbj
        go_wp2_with fail
        refine (r13IsComplete_any _ n l cl _ y c2 wr (hrB.below hbJ) hn40 hlen Hgl.out hry hyl).mono ?_
        rintro e u110 ⟨rfl, hqu110⟩
        obtain ⟨pu110, qu110, hHu110⟩ := keepC r0 r1 hbJ hqu110
        cases hg1 : comR n l y
        · clear hg1
          go_wp2_with fail
          refine (inside_any _ _ y x c2 c' u110 (by omega) (by omega) (hry.below hqu110) (hri5.below (endB hX hqu110))).mono ?_
          rintro e w9 ⟨rfl, rfl⟩
          cases hd1 : insideB y x
          · clear hd1
            go_wp2_with fail
            go_roundw
            case rel => exact ⟨j + 1, by omega, by go_num, endB hbj hqu110⟩
            case measure => simp [intOf]; omega
          · have Hd1 := Lib.hid hd1; clear hd1
            go_wp2_with fail
            refine (r13Admissible_any _ n l cl _ y c2 u110 (hrB.below hHu110) hn40 hlen Hgl.out (hry.below hqu110) hyl).mono ?_
            rintro e u111 ⟨rfl, hqu111⟩
            obtain ⟨pu111, qu111, hHu111⟩ := keepC pu110 qu110 hHu110 hqu111
            have hc3u111 := thenB hqu110 hqu111
            cases hd2 : admR n l y
            · clear hd2
              go_wp2_with fail
              go_roundw
              case rel => exact ⟨j + 1, by omega, by go_num, endB hbj hc3u111⟩
              case measure => simp [intOf]; omega
            · have hd3 := HB3.out y Hd1.out hd2
              clear hd2
              have Hd3 := Lib.hid hd3; clear hd3
              go_wp2_with fail
              have H9 := inside_any _ _ y b c2 sbc u111 (by omega) (by omega) (hry.below hc3u111) (hsb.below (endB hX hc3u111))
              rw [Hd3.out] at H9
              refine H9.mono ?_
              clear H9
              rintro e w9 ⟨rfl, rfl⟩
              go_wp2_with fail
              go_roundw
              case rel => exact ⟨j + 1, by omega, by go_num, endB hbj hc3u111⟩
              case measure => simp [intOf]; omega
        · have Hg1 := Lib.hid hg1; clear hg1
          go_wp2_with fail
          refine (inside_any _ _ x y c' c2 u110 (by omega) (by omega) (hri5.below (endB hX hqu110)) (hry.below hqu110)).mono ?_
          rintro e w9 ⟨rfl, rfl⟩
          cases hg2 : insideB x y
          · clear hg2
            go_wp2_with fail
            refine (inside_any _ _ y x c2 c' u110 (by omega) (by omega) (hry.below hqu110) (hri5.below (endB hX hqu110))).mono ?_
            rintro e w9 ⟨rfl, rfl⟩
            cases hd1 : insideB y x
            · clear hd1
              go_wp2_with fail
              go_roundw
              case rel => exact ⟨j + 1, by omega, by go_num, endB hbj hqu110⟩
              case measure => simp [intOf]; omega
            · have Hd1 := Lib.hid hd1; clear hd1
              go_wp2_with fail
              refine (r13Admissible_any _ n l cl _ y c2 u110 (hrB.below hHu110) hn40 hlen Hgl.out (hry.below hqu110) hyl).mono ?_
              rintro e u112 ⟨rfl, hqu112⟩
              obtain ⟨pu112, qu112, hHu112⟩ := keepC pu110 qu110 hHu110 hqu112
              have hc3u112 := thenB hqu110 hqu112
              cases hd2 : admR n l y
              · clear hd2
                go_wp2_with fail
                go_roundw
                case rel => exact ⟨j + 1, by omega, by go_num, endB hbj hc3u112⟩
                case measure => simp [intOf]; omega
              · have hd3 := HB3.out y Hd1.out hd2
                clear hd2
                have Hd3 := Lib.hid hd3; clear hd3
                go_wp2_with fail
                have H9 := inside_any _ _ y b c2 sbc u112 (by omega) (by omega) (hry.below hc3u112) (hsb.below (endB hX hc3u112))
                rw [Hd3.out] at H9
                refine H9.mono ?_
                clear H9
                rintro e w9 ⟨rfl, rfl⟩
                go_wp2_with fail
                go_roundw
                case rel => exact ⟨j + 1, by omega, by go_num, endB hbj hc3u112⟩
                case measure => simp [intOf]; omega
          · have hg3 := HA3.out y Hg1.out hg2
            clear hg2
            have Hg3 := Lib.hid hg3; clear hg3
            go_wp2_with fail
            have H9 := inside_any _ _ a y gac c2 u110 (by omega) (by omega) (hga5.below (endB hX hqu110)) (hry.below hqu110)
            rw [Hg3.out] at H9
            refine H9.mono ?_
            clear H9
            rintro e w9 ⟨rfl, rfl⟩
            go_wp2_with fail
            refine (inside_any _ _ y x c2 c' u110 (by omega) (by omega) (hry.below hqu110) (hri5.below (endB hX hqu110))).mono ?_
            rintro e w9 ⟨rfl, rfl⟩
            cases hd1 : insideB y x
            · clear hd1
              go_wp2_with fail
              go_roundw
              case rel => exact ⟨j + 1, by omega, by go_num, endB hbj hqu110⟩
              case measure => simp [intOf]; omega
            · have Hd1 := Lib.hid hd1; clear hd1
              go_wp2_with fail
              refine (r13Admissible_any _ n l cl _ y c2 u110 (hrB.below hHu110) hn40 hlen Hgl.out (hry.below hqu110) hyl).mono ?_
              rintro e u113 ⟨rfl, hqu113⟩
              obtain ⟨pu113, qu113, hHu113⟩ := keepC pu110 qu110 hHu110 hqu113
              have hc3u113 := thenB hqu110 hqu113
              cases hd2 : admR n l y
              · clear hd2
                go_wp2_with fail
                go_roundw
                case rel => exact ⟨j + 1, by omega, by go_num, endB hbj hc3u113⟩
                case measure => simp [intOf]; omega
              · have hd3 := HB3.out y Hd1.out hd2
                clear hd2
                have Hd3 := Lib.hid hd3; clear hd3
                go_wp2_with fail
                have H9 := inside_any _ _ y b c2 sbc u113 (by omega) (by omega) (hry.below hc3u113) (hsb.below (endB hX hc3u113))
                rw [Hd3.out] at H9
                refine H9.mono ?_
                clear H9
                rintro e w9 ⟨rfl, rfl⟩
                go_wp2_with fail
                go_roundw
                case rel => exact ⟨j + 1, by omega, by go_num, endB hbj hc3u113⟩
                case measure => simp [intOf]; omega
end Go.Proofs.YtplbnhfkndegaaaDoor
