/- The walk of the statement AdmissibleUnion. -/
import Derived.Test.YtplbnhfkndegaaaDoorPlain13
import Derived.Test.YtplbnhfkndegaaaDoorAwake
import Derived.Test.YtplbnhfkndegaaaDoorGenW
namespace Go.Proofs.YtplbnhfkndegaaaDoor
open Go.ChangeShapes Go.WideShapes Go.ChangeAt Go.RowKit

theorem sound_len {n : Nat} (hn : n ≤ 40) {l : List (Int × Int)} {x : List Int} (h : soundL n l x = true) : x.length ≤ 100000 := by
  unfold soundL at h
  rw [Bool.and_eq_true] at h
  have h1 := set_nodes h.1
  have h2 := nodesB_length n (maskN x).testBit
  rw [h1] at h2; omega
/-- a cell of the base's world lies below the appends -/
theorem ltB {B wr : World} {a : Addr} {v u : Value} (_ : Below B.heap.size B wr) (h : B.cell? a = some v) (_ : wr.cell? a = some u) : a.block < B.heap.size := lt_of_cell h

set_option maxRecDepth 100000 in
set_option maxHeartbeats 8000000 in
theorem union_any (A : Option Addr) (arg : List Int) (c : Nat) (w : World) (hlc : arg.length ≤ c) (hc : c ≤ 9223372036854775807) (hr : RI w A arg) (hx : ∀ x ∈ arg, -9223372036854775808 ≤ x ∧ x ≤ 9223372036854775807) (hT : Tab w) :
    Calls Tryd.prog 3 #[.slice A arg.length c] w (RetB (.bool true) w) := by
  go_enter Tryd.func3, Tryd.ntmps3
  go_wp2_with fail
  refine (new_any A arg c w hlc hc hr hx).mono ?_
  rintro e w1 ⟨p, rfl, hp, hs1, hb1⟩
  clear hr hx
  go_wp2_with fail
  refine (graph_any p 6 w1 hs1 (by omega)).mono ?_
  rintro e w2 ⟨n, l, AL, cl, rfl, hN, hv, hrp, _, _, hg2⟩
  have hb2 : Below w.heap.size w w2 := hb1.trans (below_of_grownBy hg2 hp hb1.size)
  clear hs1 hb1 hg2
  go_wp2_with fail
  obtain ⟨W0, hW, c0, c1, hb0, hlt0⟩ := boxed w2 27 (.int .i64 n) (.slice AL l.length cl)
  rw [hW]
  clear hW
  refine (sets_any n W0 (by omega)).mono ?_
  rintro e B ⟨SA, sc, rfl, hso, hb3⟩
  obtain ⟨d0, d1, hbb⟩ := keepC c0 c1 (Below.refl _ _) hb3
  have hrB := (hrp.below hb0).below hb3
  have hTB := hT.below (hb2.trans ((endB hb0 hb3).mono hb2.size))
  have hBw : Below w.heap.size w B := hb2.trans ((endB hb0 hb3).mono hb2.size)
  have hvR := hv.1
  have hn40 := hvR.1; have hlen := hvR.2.1
  have hgl : nGl n l = l := by unfold nGl; rw [hv.valE]; rfl
  have hS : ∀ x ∈ setsL n, setB n x = true := fun x h => sets_mem h
  have hSl : (setsL n).length ≤ 1024 := by rw [setsL_length]; have := Nat.pow_le_pow_right (n := 2) (by omega) hN; omega
  have Hpos := Lib.hid (good_pos hvR)
  clear c0 c1 hb0 hb3 hbb hb2 hrp hT
  generalize w2.heap.size = G at *
  generalize setsL n = S at *
  have HS := Lib.hid hS; have HV := Lib.hid hv; have Hgl := Lib.hid hgl; clear hS hv hgl
  go_wp2_with fail
  go_loopw [5, 22] (fun v i wr => ∃ (k : Nat) (xs : List Value), k ≤ S.length ∧ i = .int .i64 k ∧ OwnS wr B.heap.size v xs ∧ OwnL wr 0 xs ((S.take k).filter (soundL n l)) ∧ Below B.heap.size B wr) (fun _ i _ => S.length - (intOf i).toNat)
  case atStart => exact ⟨0, [], Nat.zero_le _, rfl, OwnS.nil _ _, OwnL.nil _ _, Below.refl _ _⟩
  case round =>
    obtain ⟨k, xs, hk, rfl, hown, hol, hbl⟩ := hrel
    by_cases hlt : k < S.length
    case neg =>
      obtain rfl : k = S.length := by omega
      rw [List.take_of_length_le (Nat.le_refl _)] at hol
      have hGs : ∀ x ∈ S.filter (soundL n l), soundL n l x = true := fun x h => (List.mem_filter.1 h).2
      have hGl : (S.filter (soundL n l)).length ≤ 1024 := Nat.le_trans (List.length_filter_le _ _) hSl
      have hGp : 0 < (S.filter (soundL n l)).length := Hpos.out
      obtain ⟨GA, gc, rfl, hgo⟩ := hown.forms hol
      clear hown hol
      generalize S.filter (soundL n l) = GL at *
      have HGs := Lib.hid hGs; clear hGs
      obtain ⟨B2, hB2⟩ : ∃ B2, B2 = wr := ⟨_, rfl⟩
      subst hB2
      have hpos : decide (0 < (GL.length : Int)) = true := by rw [decide_eq_true_eq]; omega
      have hpos' : (0 : Int) < (GL.length : Int) := by omega
      go_wp2_with fail
      go_loopw [45] (fun i wr => ∃ j : Nat, j ≤ GL.length ∧ i = .int .i64 j ∧ Below B2.heap.size B2 wr) (fun i _ => GL.length - (intOf i).toNat)
      case atStart => exact ⟨0, Nat.zero_le _, rfl, Below.refl _ _⟩
      case round =>
        obtain ⟨i, hi, rfl, hbi⟩ := hrel
        by_cases hig : i < GL.length
        case neg =>
          go_wp2_with fail
          refine (awake_any wr (hTB.below (endB hbl hbi))).mono ?_
          rintro e w9 ⟨rfl, hb9⟩
          go_wp2_with fail
          go_ret
          exact ⟨rfl, hBw.trans ((endB (endB hbl hbi) hb9).mono hBw.size)⟩
        case pos =>
        obtain ⟨b1, o1, A1, c1, rfl, hc1, _, hr1⟩ := (hgo.below hbi) i hig
        have hx := HGs.out _ (List.getElem_mem hig)
        generalize GL[i] = x at *
        have hxl : x.length ≤ 100000 := sound_len hn40 hx
        have Hx := Lib.hid hx; clear hx
        obtain ⟨wi, hwi⟩ : ∃ wi, wi = wr := ⟨_, rfl⟩
        subst hwi
        have hbI := endB hbl hbi
        go_wp2_with fail
        go_loopw [51] (fun i wr => ∃ j : Nat, j ≤ GL.length ∧ i = .int .i64 j ∧ Below wi.heap.size wi wr) (fun i _ => GL.length - (intOf i).toNat)
        case atStart => exact ⟨0, Nat.zero_le _, rfl, Below.refl _ _⟩
        case round =>
          obtain ⟨j, hj, rfl, hbj⟩ := hrel
          by_cases hjg : j < GL.length
          case neg =>
            go_wp2_with fail
            go_roundw
            case rel => exact ⟨i + 1, by omega, by go_num, endB hbi hbj⟩
            case measure => simp [intOf]; omega
          case pos =>
          obtain ⟨b2, o2, A2, c2, hA2, hc2, _, hr2⟩ := (hgo.below (endB hbi hbj)) j hjg
          injection hA2 with hA2; injection hA2 with hA2 hA3 _; subst hA2; subst hA3
          have hy := HGs.out _ (List.getElem_mem hjg)
          generalize GL[j] = y at *
          have hyl : y.length ≤ 100000 := sound_len hn40 hy
          have hun : freeL n l (bothL n x y) = true → soundL n l (bothL n x y) = true := union_law hvR Hx.out hy
          have Hun := Lib.hid hun; clear hun hy
          obtain ⟨wj, hwj⟩ : ∃ wj, wj = wr := ⟨_, rfl⟩
          subst hwj
          have hbJ := endB hbI hbj
          have hr1j := hr1.below hbj
          have e0 := (hbJ.cell (lt_of_cell d0)).trans d0
          have e1 := (hbJ.cell (lt_of_cell d1)).trans d1
          go_wp2_with fail
          go_loopw [12, 13] (fun v q wr => ∃ m : Nat, m ≤ n ∧ q = .int .i64 m ∧ OwnI wr wj.heap.size v (nodesB m fun k => inB x k || inB y k) ∧ Below wj.heap.size wj wr) (fun _ q _ => n - (intOf q).toNat)
          case atStart => exact ⟨0, Nat.zero_le _, rfl, OwnI.nil _ _, Below.refl _ _⟩
          case round =>
            obtain ⟨m, hm, rfl, hown, hbm⟩ := hrel
            have Hown := Lib.hid hown; clear hown
            obtain ⟨g0, g1, hbM⟩ := keepC e0 e1 hbJ hbm
            have hml : (nodesB m fun k => inB x k || inB y k).length ≤ 100000 := by have := nodesB_length m (fun k => inB x k || inB y k); omega
            have hr1m := hr1j.below hbm
            have hr2m := hr2.below hbm
            by_cases hmn : m < n
            case neg =>
              obtain rfl : m = n := by omega
              obtain ⟨MA, mc, rfl, hmr, _⟩ := Hown.out.form
              have hun : (setB m (nodesB m fun k => inB x k || inB y k) && freeB l (maskN (nodesB m fun k => inB x k || inB y k))) = true → (setB m (nodesB m fun k => inB x k || inB y k) && soundB m l (maskN (nodesB m fun k => inB x k || inB y k))) = true := Hun.out
              have Hun2 := Lib.hid hun; clear hun Hun
              generalize (nodesB m fun k => inB x k || inB y k) = both at *
              go_wp2_with fail
              refine (aConflictFree_any _ m l _ _ both _ wr (hrB.below hbM) hvR hmr hml).mono ?_
              rintro e w6 ⟨rfl, hb6⟩
              obtain ⟨h0, h1, hbl6⟩ := keepC g0 g1 hbM hb6
              cases hf : (setB m both && freeB l (maskN both))
              · clear hf
                go_wp2_with fail
                go_roundw
                case rel => exact ⟨j + 1, by omega, by go_num, endB hbj (thenB hbm hb6)⟩
                case measure => simp [intOf]; omega
              · have hsd := Hun2.out hf
                clear hf
                go_wp2_with fail
                have H7 := aAdmissible_any _ m l cl _ both mc w6 (hrB.below hbl6) hvR (hmr.below hb6) hml
                rw [hsd] at H7
                clear hsd
                refine H7.mono ?_
                clear H7
                rintro e w7 ⟨rfl, hb7⟩
                go_wp2_with fail
                go_roundw
                case rel => exact ⟨j + 1, by omega, by go_num, endB hbj (thenB hbm (thenB hb6 hb7))⟩
                case measure => simp [intOf]; omega
            case pos =>
            have hmn' : (m : Int) < (n : Int) := by omega
            go_wp2_with fail
            refine (in_any _ x _ (m : Int) wr (by omega) hr1m).mono ?_
            rintro e w6 ⟨rfl, rfl⟩
            cases hin : inB x m
            · have Hin := Lib.hid hin; clear hin
              go_wp2_with fail
              refine (in_any _ y _ (m : Int) wr (by omega) hr2m).mono ?_
              rintro e w6 ⟨rfl, rfl⟩
              cases hin2 : inB y m
              · have Hin2 := Lib.hid hin2; clear hin2
                go_wp2_with fail
                go_roundw
                case rel => exact ⟨m + 1, by omega, by go_num, by rw [nodesB_succ, if_neg (by rw [Hin.out, Hin2.out]; simp), List.append_nil]; exact Hown.out, hbm⟩
                case measure => simp [intOf]; omega
              · have Hin2 := Lib.hid hin2; clear hin2
                go_wp2_with (at_builtin; refine wpList_appI (by rfl) _ _ (by rfl) wr wj.heap.size _ _ (m : Int) Hown.out (by rfl) (by rfl) (by omega) hbm.size ?_; intro v' w6 hown' hb6 _)
                go_roundw
                case rel => exact ⟨m + 1, by omega, by go_num, by rw [nodesB_succ, if_pos (by rw [Hin2.out]; simp)]; exact hown', hbm.trans hb6⟩
                case measure => simp [intOf]; omega
            · have Hin := Lib.hid hin; clear hin
              go_wp2_with (at_builtin; refine wpList_appI (by rfl) _ _ (by rfl) wr wj.heap.size _ _ (m : Int) Hown.out (by rfl) (by rfl) (by omega) hbm.size ?_; intro v' w6 hown' hb6 _)
              go_roundw
              case rel => exact ⟨m + 1, by omega, by go_num, by rw [nodesB_succ, if_pos (by rw [Hin.out]; simp)]; exact hown', hbm.trans hb6⟩
              case measure => simp [intOf]; omega
    case pos =>
    obtain ⟨b, o, A', c', rfl, hc, hox, hri⟩ := (hso.below hbl) k hlt
    have hset := HS.out _ (List.getElem_mem hlt)
    have htk : S.take (k + 1) = S.take k ++ [S[k]] := List.take_succ_eq_append_getElem hlt
    have hxsl : xs.length ≤ 1000000 := by
      have h1 := hol.1
      have h2 := List.length_filter_le (soundL n l) (S.take k)
      rw [List.length_take] at h2; omega
    generalize S[k] = x at *
    have hxl : x.length ≤ 100000 := by
      have h1 := set_nodes hset
      have h2 := nodesB_length n (maskN x).testBit
      rw [h1] at h2; omega
    have Hset := Lib.hid hset; have Htk := Lib.hid htk; clear hset htk
    have e0 := (hbl.cell (lt_of_cell d0)).trans d0
    have e1 := (hbl.cell (lt_of_cell d1)).trans d1
    have Hown := Lib.hid hown; have Hol := Lib.hid hol; have Hox := Lib.hid hox; clear hown hol hox
    go_wp2_with fail
    refine (aAdmissible_any _ n l _ _ x _ wr (hrB.below hbl) hvR hri hxl).mono ?_
    rintro e w4 ⟨rfl, hb4⟩
    obtain ⟨f0, f1, hbl4⟩ := keepC e0 e1 hbl hb4
    have Hown4 := Lib.hid (ownsRow_below Hown.out hb4 : OwnS w4 B.heap.size _ xs)
    have Hol4 := Lib.hid (Hol.out.below hb4)
    have Hox4 := Lib.hid (Hox.out.below hb4)
    clear e0 e1 hb4 hri Hown Hol Hox
    cases hs : (setB n x && soundB n l (maskN x))
    · have hsd : soundL n l x = false := hs
      have hr4 := Hox4.out.ri
      have Hs := Lib.hid hs; have Hsd := Lib.hid hsd; clear hs hsd
      have hnext : (S.take (k + 1)).filter (soundL n l) = (S.take k).filter (soundL n l) := by rw [Htk.out, List.filter_append]; simp [Hsd.out]
      have Hn := Lib.hid hnext; clear hnext
      go_wp2_with fail
      refine (aIsStable_any _ n l _ _ x _ w4 (hrB.below hbl4) hvR hr4 hxl).mono ?_
      rintro e w6 ⟨rfl, hb6⟩
      obtain ⟨h0, h1, hbl6⟩ := keepC f0 f1 hbl4 hb6
      have hr6 := hr4.below hb6
      have Hown6 := Lib.hid (ownsRow_below Hown4.out hb6 : OwnS w6 B.heap.size _ _)
      have Hol6 := Lib.hid (Hol4.out.below hb6)
      clear f0 f1 hb6 hr4 Hown4 Hol4
      cases ht : (setB n x && stabB n l (maskN x))
      · clear ht
        go_wp2_with fail
        go_roundw
        case rel => exact ⟨k + 1, xs, by omega, by go_num, Hown6.out, by rw [Hn.out]; exact Hol6.out, hbl6⟩
        case measure => simp [intOf]; omega
      · have hcm : (setB n x && complB n l (maskN x)) = true := stable_law hvR ht
        clear ht
        go_wp2_with fail
        have H7 := aIsComplete_any _ n l cl _ x c' w6 (hrB.below hbl6) hvR hr6 hxl
        rw [hcm] at H7
        clear hcm
        refine H7.mono ?_
        clear H7
        rintro e w7 ⟨rfl, hb7⟩
        go_wp2_with fail
        go_roundw
        case rel => exact ⟨k + 1, xs, by omega, by go_num, ownsRow_below Hown6.out hb7, by rw [Hn.out]; exact Hol6.out.below hb7, endB hbl6 hb7⟩
        case measure => simp [intOf]; omega
    · have hsd : soundL n l x = true := hs
      have Hs := Lib.hid hs; have Hsd := Lib.hid hsd; clear hs hsd
      have hnext : (S.take (k + 1)).filter (soundL n l) = (S.take k).filter (soundL n l) ++ [x] := by rw [Htk.out, List.filter_append]; simp [Hsd.out]
      have Hn := Lib.hid hnext; clear hnext
      go_wp2_with (at_builtin; refine wpList_appS (by rfl) _ _ (by rfl) w4 B.heap.size _ xs A' x.length c' Hown4.out (by rfl) (by rfl) hxsl hbl4.size ?_; intro v' w5 hown5 hb5 hg5; have hol5 := (Hol4.out.append Hown4.out hg5).snoc (World.ownsRow.kept Hox4.out hg5 (Hox4.out.apart Hown4.out)); have hr5 := OwnI.ri (World.ownsRow.kept Hox4.out hg5 (Hox4.out.apart Hown4.out)); have Hown5 := Lib.hid hown5; have Hol5 := Lib.hid hol5; have hbl5 := hbl4.trans hb5; have g0 := (hb5.cell (ltB hbl4 d0 f0)).trans f0; have g1 := (hb5.cell (ltB hbl4 d1 f1)).trans f1; clear hown5 hol5 hb5 hg5)
      refine (aIsStable_any _ n l _ _ x _ w5 (hrB.below hbl5) hvR hr5 hxl).mono ?_
      rintro e w6 ⟨rfl, hb6⟩
      obtain ⟨h0, h1, hbl6⟩ := keepC g0 g1 hbl5 hb6
      have hr6 := hr5.below hb6
      have Hown6 := Lib.hid (ownsRow_below Hown5.out hb6 : OwnS w6 B.heap.size _ _)
      have Hol6 := Lib.hid (Hol5.out.below hb6)
      clear g0 g1 hb6 hr5 Hown5 Hol5
      cases ht : (setB n x && stabB n l (maskN x))
      · clear ht
        go_wp2_with fail
        go_roundw
        case rel => exact ⟨k + 1, (xs ++ [Value.slice A' x.length c']), by omega, by go_num, Hown6.out, by rw [Hn.out]; exact Hol6.out, hbl6⟩
        case measure => simp [intOf]; omega
      · have hcm : (setB n x && complB n l (maskN x)) = true := stable_law hvR ht
        clear ht
        go_wp2_with fail
        have H7 := aIsComplete_any _ n l cl _ x c' w6 (hrB.below hbl6) hvR hr6 hxl
        rw [hcm] at H7
        clear hcm
        refine H7.mono ?_
        clear H7
        rintro e w7 ⟨rfl, hb7⟩
        go_wp2_with fail
        go_roundw
        case rel => exact ⟨k + 1, (xs ++ [Value.slice A' x.length c']), by omega, by go_num, ownsRow_below Hown6.out hb7, by rw [Hn.out]; exact Hol6.out.below hb7, endB hbl6 hb7⟩
        case measure => simp [intOf]; omega
end Go.Proofs.YtplbnhfkndegaaaDoor
