/- The walk of the statement AdmissibleLemma. -/
import Derived.Test.YtplbnhfkndegaaaDoorPlain13
import Derived.Test.YtplbnhfkndegaaaDoorAwake
import Derived.Test.YtplbnhfkndegaaaDoorGenW
namespace Go.Proofs.YtplbnhfkndegaaaDoor
open Go.ChangeShapes Go.WideShapes Go.ChangeAt Go.RowKit

set_option maxRecDepth 100000 in
set_option maxHeartbeats 8000000 in
theorem lemma_any (A : Option Addr) (arg : List Int) (c : Nat) (w : World) (hlc : arg.length ≤ c) (hc : c ≤ 9223372036854775807) (hr : RI w A arg) (hx : ∀ x ∈ arg, -9223372036854775808 ≤ x ∧ x ≤ 9223372036854775807) (hT : Tab w) :
    Calls Tryd.prog 4 #[.slice A arg.length c] w (RetB (.bool true) w) := by
  go_enter Tryd.func4, Tryd.ntmps4
  go_wp2_with fail
  refine (new_any A arg c w hlc hc hr hx).mono ?_
  rintro e w1 ⟨p, rfl, hp, hs1, hb1⟩
  clear hr hx
  go_wp2_with fail
  refine (graph_any p 6 w1 hs1 (by omega)).mono ?_
  rintro e w2 ⟨n, l, AL, cl, rfl, hN, hv, hrp, _, _, hg2⟩
  have hb2 : Below w.heap.size w w2 := hb1.trans (below_of_grownBy hg2 hp hb1.size)
  clear hs1 hb1 hg2
  go_wp2_with fail
  obtain ⟨W0, hW, c0, c1, hb0, hlt0⟩ := boxed w2 27 (.int .i64 n) (.slice AL l.length cl)
  rw [hW]
  clear hW
  refine (sets_any n W0 (by omega)).mono ?_
  rintro e B ⟨SA, sc, rfl, hso, hb3⟩
  obtain ⟨d0, d1, hbb⟩ := keepC c0 c1 (Below.refl _ _) hb3
  have hrB := (hrp.below hb0).below hb3
  have hTB := hT.below (hb2.trans ((endB hb0 hb3).mono hb2.size))
  have hBw : Below w.heap.size w B := hb2.trans ((endB hb0 hb3).mono hb2.size)
  have hvR := hv.1
  have hn40 := hvR.1; have hlen := hvR.2.1
  have hgl : nGl n l = l := by unfold nGl; rw [hv.valE]; rfl
  have hS : ∀ x ∈ setsL n, setB n x = true := fun x h => sets_mem h
  have hSl : (setsL n).length ≤ 1024 := by rw [setsL_length]; have := Nat.pow_le_pow_right (n := 2) (by omega) hN; omega
  clear c0 c1 hb0 hb3 hbb hb2 hrp hT
  generalize w2.heap.size = G at *
  generalize setsL n = S at *
  have HS := Lib.hid hS; have HV := Lib.hid hv; have Hgl := Lib.hid hgl; clear hS hv hgl
  go_wp2_with fail
  go_loopw [20] (fun i wr => ∃ k : Nat, k ≤ S.length ∧ i = .int .i64 k ∧ Below B.heap.size B wr) (fun i _ => S.length - (intOf i).toNat)
  case atStart => exact ⟨0, Nat.zero_le _, rfl, Below.refl _ _⟩
  case round =>
    obtain ⟨k, hk, rfl, hbl⟩ := hrel
    by_cases hlt : k < S.length
    case neg =>
      go_wp2_with fail
      refine (awake_any wr (hTB.below hbl)).mono ?_
      rintro e w4 ⟨rfl, hb4⟩
      go_wp2_with fail
      go_ret
      exact ⟨rfl, hBw.trans ((endB hbl hb4).mono hBw.size)⟩
    case pos =>
    obtain ⟨b, o, A', c', rfl, hc, _, hri⟩ := (hso.below hbl) k hlt
    have hset := HS.out _ (List.getElem_mem hlt)
    generalize S[k] = x at *
    have hxl : x.length ≤ 100000 := by
      have h1 := set_nodes hset
      have h2 := nodesB_length n (maskN x).testBit
      rw [h1] at h2; omega
    have Hset := Lib.hid hset; clear hset
    obtain ⟨wo, hwo⟩ : ∃ wo, wo = wr := ⟨_, rfl⟩
    subst hwo
    have e0 := (hbl.cell (lt_of_cell d0)).trans d0
    have e1 := (hbl.cell (lt_of_cell d1)).trans d1
    go_wp2_with fail
    refine (r13Admissible_any _ n l _ _ x _ wo (hrB.below hbl) hn40 hlen Hgl.out hri hxl).mono ?_
    rintro e w4 ⟨rfl, hb4⟩
    obtain ⟨f0, f1, hbl4⟩ := keepC e0 e1 hbl hb4
    have hri4 := hri.below hb4
    clear e0 e1 hb4 hri
    cases ha : admR n l x
    · have Ha := Lib.hid ha; clear ha
      go_wp2_with fail
      go_roundw
      case rel => exact ⟨k + 1, by omega, by go_num, hbl4⟩
      case measure => simp [intOf]; omega
    have hsd : soundL n l x = true := by rw [admR_eq hvR] at ha; exact ha
    have Ha := Lib.hid ha; have Hsd := Lib.hid hsd; clear ha hsd
    go_wp2_with fail
    refine (aStep_any _ n l _ _ x _ w4 (hrB.below hbl4) hvR hri4 hxl (hTB.below hbl4)).mono ?_
    rintro e w5 ⟨TA, tc, rfl, _, htr, _, hb5⟩
    obtain ⟨e0, e1, hbl5⟩ := keepC f0 f1 hbl4 hb5
    have hri5 := hri4.below hb5
    have htl : (stepL n l x).length ≤ 100000 := by
      unfold stepL
      split
      · have := nodesB_length n (stepN n l (maskN x)).testBit; omega
      · simp
    have hmore : ∀ i ∈ stepL n l x, soundL n l (nodesB n fun k => decide ((k : Int) = i) || inB x k) = true ∧ insideB (stepL n l x) (stepL n l (nodesB n fun k => decide ((k : Int) = i) || inB x k)) = true := fun i hi => lemma_law hvR Hsd.out hi
    have Hmore := Lib.hid hmore
    clear f0 f1 hbl4 hb5 hri4 hmore
    generalize stepL n l x = T at htl htr Hmore ⊢
    go_wp2_with fail
    go_loopw [33] (fun i wr => ∃ j : Nat, j ≤ T.length ∧ i = .int .i64 j ∧ Below w5.heap.size w5 wr) (fun i _ => T.length - (intOf i).toNat)
    case atStart => exact ⟨0, Nat.zero_le _, rfl, Below.refl _ _⟩
    case round =>
      obtain ⟨j, hj, rfl, hbj⟩ := hrel
      by_cases hjt : j < T.length
      case neg =>
        go_wp2_with fail
        go_roundw
        case rel => exact ⟨k + 1, by omega, by go_num, endB hbl5 hbj⟩
        case measure => simp [intOf]; omega
      case pos =>
      obtain ⟨b2, o2, rfl, hc2⟩ := (htr.below hbj).at_ hjt
      have hmi := Hmore.out _ (List.getElem_mem hjt)
      have Hmi := Lib.hid hmi; clear hmi
      generalize T[j] = i at *
      obtain ⟨wj, hwj⟩ : ∃ wj, wj = wr := ⟨_, rfl⟩
      subst hwj
      obtain ⟨f0, f1, hblj⟩ := keepC e0 e1 hbl5 hbj
      have hrij := hri5.below hbj
      go_wp2_with fail
      go_loopw [10, 11] (fun v q wr => ∃ m : Nat, m ≤ n ∧ q = .int .i64 m ∧ OwnI wr wj.heap.size v (nodesB m fun k => decide ((k : Int) = i) || inB x k) ∧ Below wj.heap.size wj wr) (fun _ q _ => n - (intOf q).toNat)
      case atStart => exact ⟨0, Nat.zero_le _, rfl, OwnI.nil _ _, Below.refl _ _⟩
      case round =>
        obtain ⟨m, hm, rfl, hown, hbm⟩ := hrel
        have Hown := Lib.hid hown; clear hown
        obtain ⟨g0, g1, hblm⟩ := keepC f0 f1 hblj hbm
        by_cases hmn : m < n
        case neg =>
          obtain rfl : m = n := by omega
          obtain ⟨MA, mc, rfl, hmr, _⟩ := Hown.out.form
          have hml : (nodesB m fun k => decide ((k : Int) = i) || inB x k).length ≤ 100000 := by have := nodesB_length m (fun k => decide ((k : Int) = i) || inB x k); omega
          have htm := htr.below (hbj.trans (hbm.mono hbj.size))
          generalize (nodesB m fun k => decide ((k : Int) = i) || inB x k) = more at *
          have Hown2 := Hown; clear Hown
          have hm1 : (setB m more && soundB m l (maskN more)) = true := Hmi.out.1
          have hm2 : insideB T (stepL m l more) = true := Hmi.out.2
          have Hm2 := Lib.hid hm2; clear hm2
          go_wp2_with fail
          have H6 := aAdmissible_any _ m l cl _ more mc wr (hrB.below hblm) hvR hmr hml
          rw [hm1] at H6
          clear hm1
          refine H6.mono ?_
          clear H6
          rintro e w6 ⟨rfl, hb6⟩
          obtain ⟨h0, h1, hbl6⟩ := keepC g0 g1 hblm hb6
          go_wp2_with fail
          refine (aStep_any _ m l _ _ more _ w6 (hrB.below hbl6) hvR (hmr.below hb6) hml (hTB.below hbl6)).mono ?_
          rintro e w7 ⟨UA, uc, rfl, _, hur, _, hb7⟩
          have hul : (stepL m l more).length ≤ 100000 := by
            unfold stepL
            split
            · have := nodesB_length m (stepN m l (maskN more)).testBit; omega
            · simp
          generalize stepL m l more = U at *
          go_wp2_with fail
          have H8 := inside_any _ _ T U tc uc w7 (by omega) (by omega) (htm.below (thenB hb6 hb7)) hur
          rw [Hm2.out] at H8
          refine H8.mono ?_
          clear H8
          rintro e w8 ⟨rfl, rfl⟩
          go_wp2_with fail
          go_roundw
          case rel => exact ⟨j + 1, by omega, by go_num, endB hbj (thenB hbm (thenB hb6 hb7))⟩
          case measure => simp [intOf]; omega
        case pos =>
        have hmn' : (m : Int) < (n : Int) := by omega
        have hml : (nodesB m fun k => decide ((k : Int) = i) || inB x k).length ≤ 1000000 := by have := nodesB_length m (fun k => decide ((k : Int) = i) || inB x k); omega
        have hrim := hri5.below (hbj.trans (hbm.mono hbj.size))
        by_cases hmi : (m : Int) = i
        case pos =>
          have hq : ((m : Int) == i) = true := by simpa using hmi
          have Hq := Lib.hid hmi; clear hmi
          go_wp2_with (at_builtin; refine wpList_appI (by rfl) _ _ (by rfl) wr wj.heap.size _ _ (m : Int) Hown.out (by rfl) (by rfl) (by omega) hbm.size ?_; intro v' w6 hown' hb6 _)
          go_roundw
          case rel => exact ⟨m + 1, by omega, by go_num, by rw [nodesB_succ, if_pos (by rw [Bool.or_eq_true, decide_eq_true_iff]; exact .inl Hq.out)]; exact hown', hbm.trans hb6⟩
          case measure => simp [intOf]; omega
        case neg =>
          have hq : ((m : Int) == i) = false := by simpa using hmi
          have Hq := Lib.hid hmi; clear hmi
          go_wp2_with fail
          refine (in_any _ x _ (m : Int) wr (by omega) hrim).mono ?_
          rintro e w6 ⟨rfl, rfl⟩
          cases hin : inB x m
          · have Hin := Lib.hid hin; clear hin
            go_wp2_with fail
            go_roundw
            case rel => exact ⟨m + 1, by omega, by go_num, by rw [nodesB_succ, if_neg (by rw [Bool.or_eq_true, decide_eq_true_iff, Hin.out]; exact fun h => h.elim Hq.out (by simp)), List.append_nil]; exact Hown.out, hbm⟩
            case measure => simp [intOf]; omega
          · have Hin := Lib.hid hin; clear hin
            go_wp2_with (at_builtin; refine wpList_appI (by rfl) _ _ (by rfl) wr wj.heap.size _ _ (m : Int) Hown.out (by rfl) (by rfl) (by omega) hbm.size ?_; intro v' w6 hown' hb6 _)
            go_roundw
            case rel => exact ⟨m + 1, by omega, by go_num, by rw [nodesB_succ, if_pos (by rw [Bool.or_eq_true]; exact .inr Hin.out)]; exact hown', hbm.trans hb6⟩
            case measure => simp [intOf]; omega
end Go.Proofs.YtplbnhfkndegaaaDoor
