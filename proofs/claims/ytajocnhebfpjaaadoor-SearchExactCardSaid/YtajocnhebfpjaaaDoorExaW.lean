/- law14: the walk of SearchExact. -/
import Derived.Test.YtajocnhebfpjaaaDoorAwN
import Derived.Test.YtajocnhebfpjaaaDoorLc
import Derived.Test.YtajocnhebfpjaaaDoorPl14x
namespace Go.Proofs.YtajocnhebfpjaaaDoor
open Go.ChangeShapes Go.WideShapes Go.ChangeAt Go.RowKit

theorem filter_step {α : Type} (p : α → Bool) (L : List α) {k : Nat} (h : k < L.length) : (L.take (k + 1)).filter p = (L.take k).filter p ++ if p L[k] then [L[k]] else [] := by
  rw [List.take_succ_eq_append_getElem h, List.filter_append]
  congr 1
  rw [List.filter_cons, List.filter_nil]
theorem filter_take_len {α : Type} (p : α → Bool) (L : List α) (k : Nat) : ((L.take k).filter p).length ≤ L.length := by
  have h1 := List.length_filter_le p (L.take k)
  have h2 := List.length_take_le' k L
  omega
theorem alls_step {α : Type} (p : α → Bool) (L : List α) {k : Nat} (h : k < L.length) : (L.take (k + 1)).all p = ((L.take k).all p && p L[k]) := by
  rw [List.take_succ_eq_append_getElem h, List.all_append]; simp
theorem anys_step {α : Type} (p : α → Bool) (L : List α) {k : Nat} (h : k < L.length) : (L.take (k + 1)).any p = ((L.take k).any p || p L[k]) := by
  rw [List.take_succ_eq_append_getElem h, List.any_append]; simp
theorem RLs.filter_step {w : World} {xs : List Value} {p : List Int → Bool} {L : List (List Int)} {k : Nat} (h : RLs w xs ((L.take k).filter p)) (hk : k < L.length) {x : List Int} (hx : L[k] = x) (hp : p x = true) {A : Option Addr} {c : Nat} (hr : RI w A x) :
    RLs w (xs ++ [.slice A x.length c]) ((L.take (k + 1)).filter p) := by
  rw [Go.Proofs.YtajocnhebfpjaaaDoor.filter_step p L hk, hx, if_pos hp]
  exact h.snoc hr
theorem RLs.filter_skip {w : World} {xs : List Value} {p : List Int → Bool} {L : List (List Int)} {k : Nat} (h : RLs w xs ((L.take k).filter p)) (hk : k < L.length) {x : List Int} (hx : L[k] = x) (hp : p x = false) :
    RLs w xs ((L.take (k + 1)).filter p) := by
  rw [Go.Proofs.YtajocnhebfpjaaaDoor.filter_step p L hk, hx, if_neg (by simp [hp]), List.append_nil]
  exact h
theorem comp_all_len {n : Nat} {l : List (Int × Int)} (k : Nat) (h : k < (compL n l).length) : (compL n l)[k].length = n := comp_len (List.getElem_mem h)

set_option maxRecDepth 100000 in
set_option maxHeartbeats 16000000 in
theorem exact_law_any (A : Option Addr) (arg : List Int) (c : Nat) (w : World)
    (hlc : arg.length ≤ c) (hc : c ≤ 9223372036854775807) (hr : RI w A arg) (hx : ∀ x ∈ arg, -9223372036854775808 ≤ x ∧ x ≤ 9223372036854775807) (hT : Tab w) :
    Calls Tryd.prog 6 #[.slice A arg.length c] w (RetB (.bool true) w) := by
  go_enter Tryd.func6, Tryd.ntmps6
  go_wp2_with fail
  refine (new_any A arg c w hlc hc hr hx).mono ?_
  rintro e w1 ⟨p, rfl, hp, hs1, hb1⟩
  have hp1 := hs1.lt
  clear hr hx
  go_wp2_with fail
  refine (graph_any p 6 w1 hs1 (by omega)).mono ?_
  rintro e w2 ⟨n, l, AL, cl, rfl, hN, hv, hrp, hloc, hs2, hg2⟩
  have hb2 : Below w.heap.size w w2 := hb1.trans (below_of_grownBy hg2 hp hb1.size)
  clear hs1 hb1 hg2
  go_wp2_with fail
  obtain ⟨W0, hW, c0, c1, hb0, hlt0⟩ := boxed w2 24 (.int .i64 n) (.slice AL l.length cl)
  rw [hW]
  clear hW
  have hst := GSt.start hp hp1 hb2 hs2 hrp hloc hb0 c0 c1
  have hn6 : n ≤ 6 := by omega
  have hlen := hv.1.2.1
  have HV := Lib.hid hv
  have hgl : nGl n l = l := by unfold nGl; rw [hv.valE]; rfl
  have Hgl := Lib.hid hgl
  clear hs2 hrp hloc hb0 c0 c1 hb2 hp1 hv hgl
  generalize w2.heap.size = G at *
  obtain ⟨c0, c1⟩ : _ ∧ _ := ⟨hst.c0, hst.c1⟩
  have hB0 := hst.hb
  have hrp := hst.rp
  clear hst
  refine (r11Labellings_any n W0 (by omega)).mono ?_
  rintro e B ⟨AS, cS, rfl, hrs, hbB⟩
  have hBw := endB hB0 hbB
  have d0 := (hbB.cell (lt_of_cell c0)).trans c0
  have d1 := (hbB.cell (lt_of_cell c1)).trans c1
  have hrB := hrp.below hbB
  have hTB := hT.below hBw
  have hLS := labs_small (n := n) (by omega)
  have hcl : compL n l = (labsL n).filter (comB n l) := rfl
  have hlab : ∀ k (h : k < (labsL n).length), labB n (labsL n)[k] = true := fun k h => (mem_labs n _).1 (List.getElem_mem h)
  have Hlab := Lib.hid hlab; have Hcl := Lib.hid hcl
  clear hlab hcl hbB hB0 c0 c1 hrp hT
  generalize labsL n = LS at *
  go_wp2_with fail
  go_loopw [5, 32] (fun v i wr => ∃ (k : Nat) (xs : List Value), k ≤ LS.length ∧ i = .int .i64 k ∧ OwnS wr B.heap.size v xs ∧ RLs B xs ((LS.take k).filter (comB n l)) ∧ Below B.heap.size B wr) (fun _ i _ => LS.length - (intOf i).toNat)
  case atStart => exact ⟨0, [], Nat.zero_le _, rfl, OwnS.nil _ _, RLs.nil _, Below.refl _ _⟩
  case round =>
    obtain ⟨k, xs, hk, rfl, hown, hrl, hbl⟩ := hrel
    have e0 := (hbl.cell (lt_of_cell d0)).trans d0
    have e1 := (hbl.cell (lt_of_cell d1)).trans d1
    have hBr := endB hBw hbl
    by_cases hlt : k < LS.length
    case pos =>
      have hlt' : (k : Int) < (LS.length : Int) := by omega
      have hlx := Hlab.out k hlt
      obtain ⟨b, o, AX, cx, hA, hcellB, _, hriB⟩ := hrs k hlt
      subst hA
      have hcell := (hbl.cell (lt_of_cell hcellB)).trans hcellB
      obtain ⟨x, hx⟩ : ∃ x, LS[k] = x := ⟨_, rfl⟩
      rw [hx] at hcell hriB hlx
      have hxl := (labB_iff.1 hlx).1
      have hx5 : x.length ≤ 6 := by omega
      have hri := hriB.below hbl
      have hxs : xs.length ≤ 1000000 := by have h1 := hrl.1; have h2 := filter_take_len (comB n l) LS k; omega
      have Hx := Lib.hid hx; have Hrl := Lib.hid hrl; have Hown := Lib.hid hown; have Hxs := Lib.hid hxs; have Hxl := Lib.hid hxl
      clear hx hrl hcellB hlx hown hxs hxl
      go_wp2_with fail
      refine (lIsComplete_any _ n l _ _ x _ _ (hrB.below hbl) HV.out hri (by omega) (hTB.below hbl)).mono ?_
      rintro e W2 ⟨rfl, hb2⟩
      have hbl2 := endB hbl hb2
      cases hco : comB n l x
      case false =>
        go_wp2_with fail
        go_roundw
        case rel => exact ⟨k + 1, xs, by omega, by go_num, ownsRow_below Hown.out hb2, Hrl.out.filter_skip hlt Hx.out hco, hbl2⟩
        case measure => simp [intOf]; omega
      case true =>
        have Hown2 := Lib.hid (show OwnS W2 B.heap.size _ xs from ownsRow_below Hown.out hb2)
        go_wp2_with (at_builtin; refine wpList_appS (by rfl) (.tmp 39) (.tmp 41) (by rfl) W2 B.heap.size _ xs AX x.length cx Hown2.out (by rfl) (by rfl) Hxs.out hbl2.size ?_; intro v' w3 hown' hb3 hg3)
        go_roundw
        case rel => exact ⟨k + 1, _, by omega, by go_num, hown', Hrl.out.filter_step hlt Hx.out hco hriB, hbl2.trans hb3⟩
        case measure => simp [intOf]; omega
    case neg =>
    have hfull : LS.take k = LS := List.take_of_length_le (by omega)
    rw [hfull] at hrl
    rw [← Hcl.out] at hrl
    obtain ⟨A1, c1, rfl, hr1, _⟩ := OwnS.form hown (hrl.below hbl)
    obtain ⟨CL, hCL⟩ : ∃ CL, compL n l = CL := ⟨_, rfl⟩
    rw [hCL] at hr1
    rw [hCL]
    have hcl2 : CL.length ≤ 100000 := by rw [← hCL, Hcl.out]; have := List.length_filter_le (comB n l) LS; omega
    have HCL := Lib.hid hCL; have Hr1 := Lib.hid hr1
    have hrr := hrB.below hbl
    have hTr := hTB.below hbl
    clear hrl hown hfull hCL hr1 d0 d1 hrB hTB
    go_wp2_with fail
    refine (sets_any n wr (by omega)).mono ?_
    rintro e S1 ⟨AT, cT, rfl, hrt, hbS⟩
    have hSw := endB hBr hbS
    have d0 := (hbS.cell (lt_of_cell e0)).trans e0
    have d1 := (hbS.cell (lt_of_cell e1)).trans e1
    have hrS := hrr.below hbS
    have hTS := hTr.below hbS
    have Hr1S := Lib.hid (Hr1.out.below hbS)
    have htl : (tryL n l) = (setsL n).filter (tryB n l) := rfl
    have hts : ∀ k (h : k < (setsL n).length), (setsL n)[k].length ≤ 6 := fun k h => by have := sets_small h; omega
    have htn : (setsL n).length ≤ 64 := by rw [sets_len]; exact Nat.pow_le_pow_right (n := 2) (by omega) hn6
    have htb : ∀ x, tryB n l x = (cfR n l x && (setsL n).all (tryP n l x)) := fun _ => rfl
    have Htl := Lib.hid htl; have Hts := Lib.hid hts; have Htb := Lib.hid htb
    clear hrr hTr Hr1 hbS e0 e1 htl hts htb hLS hbl hlt hk
    generalize setsL n = TS at *
    go_wp2_with fail
    go_loopw [6, 49] (fun v i wr => ∃ (k : Nat) (xs : List Value), k ≤ TS.length ∧ i = .int .i64 k ∧ OwnS wr S1.heap.size v xs ∧ RLs S1 xs ((TS.take k).filter (tryB n l)) ∧ Below S1.heap.size S1 wr) (fun _ i _ => TS.length - (intOf i).toNat)
    case atStart => exact ⟨0, [], Nat.zero_le _, rfl, OwnS.nil _ _, RLs.nil _, Below.refl _ _⟩
    case round =>
      obtain ⟨k, xs, hk, rfl, hown, hrl, hbl⟩ := hrel
      have e0 := (hbl.cell (lt_of_cell d0)).trans d0
      have e1 := (hbl.cell (lt_of_cell d1)).trans d1
      have hSr := endB hSw hbl
      by_cases hlt : k < TS.length
      case pos =>
        have hlt' : (k : Int) < (TS.length : Int) := by omega
        obtain ⟨b, o, AX, cx, hA, hcellB, _, hriB⟩ := hrt k hlt
        subst hA
        have hcell := (hbl.cell (lt_of_cell hcellB)).trans hcellB
        have hx6 := Hts.out k hlt
        obtain ⟨x, hx⟩ : ∃ x, TS[k] = x := ⟨_, rfl⟩
        rw [hx] at hcell hriB hx6
        have hri := hriB.below hbl
        have hxs : xs.length ≤ 1000000 := by have h1 := hrl.1; have h2 := filter_take_len (tryB n l) TS k; omega
        have Hx := Lib.hid hx; have Hrl := Lib.hid hrl; have Hown := Lib.hid hown; have Hxs := Lib.hid hxs
        clear hx hrl hown hxs hcellB
        go_wp2_with fail
        refine (r13ConflictFree_any AL n l cl AX x cx wr (hrS.below hbl) hlen Hgl.out hri (by omega)).mono ?_
        rintro e W2 ⟨rfl, hb2⟩
        have hbl2 := endB hbl hb2
        have f0 := (hb2.cell (lt_of_cell e0)).trans e0
        have f1 := (hb2.cell (lt_of_cell e1)).trans e1
        have hri2 := hri.below hb2
        have Hown2 := Lib.hid (show OwnS W2 S1.heap.size _ xs from ownsRow_below Hown.out hb2)
        obtain ⟨r0, hr0⟩ : ∃ r0, cfR n l x = r0 := ⟨_, rfl⟩
        rw [hr0]
        have Hr0 := Lib.hid hr0
        clear hr0 Hown hri e0 e1 hcell hbl
        go_wp2_with fail
        go_loopw [12, 58] (fun d j wi => ∃ t : Nat, t ≤ TS.length ∧ j = .int .i64 t ∧ d = .bool (r0 && (TS.take t).all (tryP n l x)) ∧ Below W2.heap.size W2 wi) (fun _ j _ => TS.length - (intOf j).toNat)
        case atStart => exact ⟨0, Nat.zero_le _, rfl, by simp, Below.refl _ _⟩
        case round =>
          obtain ⟨t, ht, rfl, rfl, hbt⟩ := hrel
          obtain ⟨d, hd⟩ : ∃ d, (r0 && (TS.take t).all (tryP n l x)) = d := ⟨_, rfl⟩
          rw [hd]
          have Hd := Lib.hid hd
          clear hd
          have hbl3 := endB hbl2 hbt
          by_cases htl : t < TS.length
          case neg =>
            have hdx : d = tryB n l x := by
              have := Hd.out
              rw [List.take_of_length_le (by omega)] at this
              rw [← this, ← Hr0.out, Htb.out]
            have Hdx := Lib.hid hdx
            have Hown3 := Lib.hid (show OwnS wr S1.heap.size _ xs from ownsRow_below Hown2.out hbt)
            clear hdx
            cases d
            · go_wp2_with fail
              go_roundw
              case rel => exact ⟨k + 1, xs, by omega, by go_num, Hown3.out, Hrl.out.filter_skip hlt Hx.out Hdx.out.symm, hbl3⟩
              case measure => simp [intOf]; omega
            · go_wp2_with (at_builtin; refine wpList_appS (by rfl) (.tmp 84) (.tmp 86) (by rfl) wr S1.heap.size _ xs AX x.length cx Hown3.out (by rfl) (by rfl) Hxs.out hbl3.size ?_; intro v' w3 hown' hb3 hg3)
              go_roundw
              case rel => exact ⟨k + 1, _, by omega, by go_num, hown', Hrl.out.filter_step hlt Hx.out Hdx.out.symm hriB, hbl3.trans hb3⟩
              case measure => simp [intOf]; omega
          case pos =>
          have htl' : (t : Int) < (TS.length : Int) := by omega
          obtain ⟨b', o', AY, cy, hA', hcellB', _, hriB'⟩ := hrt t htl
          injection hA' with hA'
          injection hA' with hA1 hA2 _
          subst hA1 hA2
          have hcelly := (hbl3.cell (lt_of_cell hcellB')).trans hcellB'
          have hy6 := Hts.out t htl
          have hstp := alls_step (tryP n l x) TS htl
          obtain ⟨y, hy⟩ : ∃ y, TS[t] = y := ⟨_, rfl⟩
          rw [hy] at hcelly hriB' hy6 hstp
          have hstp2 : (r0 && (TS.take (t + 1)).all (tryP n l x)) = (d && tryP n l x y) := by rw [hstp, ← Bool.and_assoc, Hd.out]
          have Hstp := Lib.hid hstp2
          have hriy := hriB'.below hbl3
          have hrix := hri2.below hbt
          have g0 := (hbt.cell (lt_of_cell f0)).trans f0
          have g1 := (hbt.cell (lt_of_cell f1)).trans f1
          have hrg := hrS.below hbl3
          clear hstp hstp2 hy hcellB'
          cases d
          case false =>
            go_wp2_with fail
            go_roundw
            case rel => exact ⟨t + 1, by omega, by go_num, by rw [Hstp.out]; rfl, hbt⟩
            case measure => simp [intOf]; omega
          case true =>
          by_cases hle : y.length ≤ x.length
          case pos =>
            have hle' : (y.length : Int) ≤ (x.length : Int) := by omega
            have hp : tryP n l x y = true := by unfold tryP; rw [decide_eq_true hle]; rfl
            have Hp := Lib.hid hp
            clear hp hle
            go_wp2_with fail
            go_roundw
            case rel => exact ⟨t + 1, by omega, by go_num, by rw [Hstp.out, Hp.out]; rfl, hbt⟩
            case measure => simp [intOf]; omega
          case neg =>
          have hle' : ¬ (y.length : Int) ≤ (x.length : Int) := by omega
          have hld : decide ((y.length : Int) ≤ (x.length : Int)) = false := by rw [decide_eq_false_iff_not]; exact hle'
          have hp : tryP n l x y = (!cfR n l y || !insideB x y) := by unfold tryP; rw [decide_eq_false hle]; rfl
          have Hp := Lib.hid hp
          have hcf := r13ConflictFree_any AL n l cl AY y cy wr hrg hlen Hgl.out hriy (by omega)
          obtain ⟨r1, hr1⟩ : ∃ r1, cfR n l y = r1 := ⟨_, rfl⟩
          rw [hr1] at hcf
          have Hr1 := Lib.hid hr1; have Hcf := Lib.hid hcf
          have hq := inside_any AX AY x y cx cy
          obtain ⟨r2, hr2⟩ : ∃ r2, insideB x y = r2 := ⟨_, rfl⟩
          rw [hr2] at hq
          have Hr2 := Lib.hid hr2; have Hq := Lib.hid hq
          clear hp hle hr1 hcf hr2 hq
          cases r1
          case false =>
            go_wp2_with fail
            refine Hcf.out.mono ?_
            rintro e W5 ⟨rfl, hb5⟩
            go_wp2_with fail
            go_roundw
            case rel => exact ⟨t + 1, by omega, by go_num, by rw [Hstp.out, Hp.out, Hr1.out]; rfl, hbt.trans (hb5.mono hbt.size)⟩
            case measure => simp [intOf]; omega
          case true =>
            go_wp2_with fail
            refine Hcf.out.mono ?_
            rintro e W5 ⟨rfl, hb5⟩
            have hq5 := Hq.out W5 (by omega) (by omega) (hrix.below hb5) (hriy.below hb5)
            go_wp2_with fail
            refine hq5.mono ?_
            rintro e W6 hret
            obtain ⟨rfl, hW6⟩ := hret
            subst hW6
            cases r2
            · go_wp2_with fail
              go_roundw
              case rel => exact ⟨t + 1, by omega, by go_num, by rw [Hstp.out, Hp.out, Hr1.out, Hr2.out]; rfl, hbt.trans (hb5.mono hbt.size)⟩
              case measure => simp [intOf]; omega
            · go_wp2_with fail
              go_roundw
              case rel => exact ⟨t + 1, by omega, by go_num, by rw [Hstp.out, Hp.out, Hr1.out, Hr2.out]; rfl, hbt.trans (hb5.mono hbt.size)⟩
              case measure => simp [intOf]; omega
      case neg =>
      have hfull : TS.take k = TS := List.take_of_length_le (by omega)
      rw [hfull] at hrl
      rw [← Htl.out] at hrl
      obtain ⟨A2, c2, rfl, hr2, _⟩ := OwnS.form hown (hrl.below hbl)
      obtain ⟨FL, hFL⟩ : ∃ FL, tryL n l = FL := ⟨_, rfl⟩
      rw [hFL] at hr2
      rw [hFL]
      have hnx := navX HV.out hn6
      obtain ⟨⟨NS, ne⟩, hNR⟩ : ∃ r, navR n l = r := ⟨_, rfl⟩
      rw [hNR, hFL] at hnx
      have hfl : FL.length ≤ 64 := by rw [← hFL, Htl.out]; have := filter_take_len (tryB n l) TS k; rw [hfull] at this; omega
      have hfs : ∀ y ∈ FL, y.length ≤ 6 := fun y hy => by
        rw [← hFL, Htl.out] at hy
        obtain ⟨k, hk, rfl⟩ := List.mem_iff_getElem.1 (List.mem_filter.1 hy).1
        exact Hts.out k hk
      have HNR := Lib.hid hNR; have Hnx := Lib.hid hnx; have Hr2 := Lib.hid hr2; have Hr12 := Lib.hid (Hr1S.out.below hbl); have Hfs := Lib.hid hfs
      have hrr := hrS.below hbl
      have hTr := hTS.below hbl
      clear hrl hown hfull hFL hr2 d0 d1 hrS hTS hNR hnx hfs
      have hcn : compR n l = if 200 < CL.length then ([], 2) else (CL, 0) := by rw [compR_ok HV.out.valE, HCL.out]
      have hcs : ∀ y ∈ CL, y.length ≤ 100000 := fun y hy => by
        rw [← HCL.out] at hy
        have := comp_len hy
        omega
      have Hcs := Lib.hid hcs
      clear hcs
      by_cases hbig : 200 < CL.length
      case pos =>
        rw [if_pos hbig] at hcn
        have hcc := complete_any AL (n : Int) l cl wr hrr hlen hTr
        rw [hcn] at hcc
        have Hcc := Lib.hid hcc
        have hbd : decide ((200 : Int) < (CL.length : Int)) = true := by rw [decide_eq_true_iff]; omega
        clear hcc hcn hbig
        go_wp2_with fail
        refine Hcc.out.mono ?_
        rintro e w3 ⟨A3, c3, rfl, hr3, _, hb3⟩
        have g0 := (hb3.cell (lt_of_cell e0)).trans e0
        have g1 := (hb3.cell (lt_of_cell e1)).trans e1
        have hnn := naive_any AL (n : Int) l cl w3 (hrr.below hb3) hlen (hTr.below hb3)
        have Hnn := Lib.hid hnn
        clear hnn hr3 Hcc e0 e1
        go_wp2_with fail
        refine Hnn.out.mono ?_
        rintro e w4 ⟨A4, c4, rfl, hr4, _, hb4⟩
        have hTA := (hTr.below hb3).below hb4
        clear hr4 Hnn
        go_wp2_with fail
        refine (awake14_any w4 hTA).mono ?_
        rintro e w9 ⟨rfl, hb9⟩
        go_wp2_with fail
        go_ret
        exact ⟨rfl, endB (endB (endB hSr hb3) hb4) hb9⟩
      case neg =>
      rw [if_neg hbig] at hcn
      have hcc := complete_any AL (n : Int) l cl wr hrr hlen hTr
      rw [hcn] at hcc
      have Hcc := Lib.hid hcc
      have hbd : decide ((200 : Int) < (CL.length : Int)) = false := by rw [decide_eq_false_iff_not]; omega
      clear hcc hcn hbig
      go_wp2_with fail
      refine Hcc.out.mono ?_
      rintro e w3 ⟨A3, c3, rfl, hr3, _, hb3⟩
      have g0 := (hb3.cell (lt_of_cell e0)).trans e0
      have g1 := (hb3.cell (lt_of_cell e1)).trans e1
      have hnn := naive_any AL (n : Int) l cl w3 (hrr.below hb3) hlen (hTr.below hb3)
      rw [HNR.out] at hnn
      have Hnn := Lib.hid hnn; have Hr3 := Lib.hid hr3
      clear hnn hr3 Hcc e0 e1
      go_wp2_with fail
      refine Hnn.out.mono ?_
      rintro e w4 ⟨A4, c4, rfl, hr4, _, hb4⟩
      have hTA := (hTr.below hb3).below hb4
      have hb14 := endB hb3 hb4
      have hls := lists_any A3 A1 CL CL c3 c1 w4 hcl2 hcl2 Hcs.out Hcs.out (Hr3.out.below hb4).rs (Hr12.out.below hb14)
      rw [(eqLs_iff _ _).2 rfl] at hls
      have hne : ne = 0 := Hnx.out.e
      have hnlen : NS.length = FL.length := Hnx.out.len
      have hncmp : ∀ k (h : k + 1 < NS.length), cmpLs NS[k] NS[k + 1] = -1 := Hnx.out.cmp
      have hnsm : ∀ k (h : k < NS.length), NS[k].length ≤ 100 := Hnx.out.small
      have hnhit : ∀ k (h : k < NS.length), (FL.any fun y => eqB NS[k] y) = true := Hnx.out.hit
      have hr4' : RSo w4 A4 NS := hr4
      subst hne
      have hfn : (FL.length : Int) = (NS.length : Int) := by omega
      have hff : ((NS.length : Int) != (FL.length : Int)) = false := by rw [hfn]; exact bne_self_eq_false _
      have Hls := Lib.hid hls; have Hncmp := Lib.hid hncmp; have Hnsm := Lib.hid hnsm; have Hnhit := Lib.hid hnhit; have Hr4 := Lib.hid hr4'
      have Hr24 := Lib.hid (Hr2.out.below hb14)
      have hS4 := endB hSr hb14
      clear hls hncmp hnsm hnhit hr4 hr4' Hnn Hnx HNR g0 g1 Hr12 Hr2 Hr3
      go_wp2_with fail
      refine Hls.out.mono ?_
      rintro e w5 ⟨rfl, hb5⟩
      have hS5 := endB hS4 hb5
      have Hr45 := Lib.hid (Hr4.out.below hb5); have Hr25 := Lib.hid (Hr24.out.below hb5)
      have hT5 := hTA.below hb5
      clear Hls Hr4 Hr24
      go_wp2_with fail
      go_loopw [128] (fun j wr => ∃ k : Nat, k ≤ NS.length ∧ j = .int .i64 k ∧ Below w5.heap.size w5 wr) (fun j _ => NS.length - (intOf j).toNat)
      case atStart => exact ⟨0, Nat.zero_le _, rfl, Below.refl _ _⟩
      case round =>
        obtain ⟨k, hk, rfl, hbk⟩ := hrel
        have hSk := endB hS5 hbk
        by_cases hkl : k < NS.length
        case neg =>
          have hkl' : ¬ (k : Int) < (FL.length : Int) := by omega
          go_wp2_with fail
          refine (awake14_any wr (hT5.below hbk)).mono ?_
          rintro e w9 ⟨rfl, hb9⟩
          go_wp2_with fail
          go_ret
          exact ⟨rfl, endB hSk hb9⟩
        case pos =>
        have hkl' : (k : Int) < (FL.length : Int) := by omega
        have hkn : k < FL.length := by omega
        have hk0' : (0 : Int) ≤ (k : Int) := by omega
        obtain ⟨b, o, AX, cx, hA, hcell, _, hrix⟩ := Hr45.out.below hbk k hkl
        subst hA
        have hsx := Hnsm.out k hkl
        have hhx := Hnhit.out k hkl
        have hcx : ∀ h : 0 < k, cmpLs (NS[k - 1]'(by omega)) NS[k] = -1 := fun h => by
          have := Hncmp.out (k - 1) (by omega)
          simpa only [Nat.sub_add_cancel h] using this
        obtain ⟨x, hx⟩ : ∃ x, NS[k] = x := ⟨_, rfl⟩
        rw [hx] at hcell hrix hsx hhx hcx
        have Hcx := Lib.hid hcx; have Hhx := Lib.hid hhx
        clear hcx hhx hx
        obtain ⟨wo, hwo⟩ : ∃ wo, wo = wr := ⟨_, rfl⟩
        subst hwo
        go_wp2_with fail
        go_loopw [21, 135] (fun h j wi => ∃ t : Nat, t ≤ FL.length ∧ j = .int .i64 t ∧ h = .bool ((FL.take t).any fun y => eqB x y) ∧ Below wo.heap.size wo wi) (fun _ j _ => FL.length - (intOf j).toNat)
        case atStart => exact ⟨0, Nat.zero_le _, rfl, by simp, Below.refl _ _⟩
        case round =>
          obtain ⟨t, ht, rfl, rfl, hbt⟩ := hrel
          have hbkt := endB hbk hbt
          obtain ⟨d, hd⟩ : ∃ d, ((FL.take t).any fun y => eqB x y) = d := ⟨_, rfl⟩
          rw [hd]
          have Hd := Lib.hid hd
          clear hd
          by_cases htl : t < FL.length
          case pos =>
            have htl' : (t : Int) < (FL.length : Int) := by omega
            obtain ⟨b', o', AY, cy, hA', hcelly, hriy⟩ := (Hr25.out.below hbkt).at_ htl
            have hA2 := Lib.hid hA'
            have hys := Hfs.out _ (List.getElem_mem htl)
            have hstp := anys_step (fun y => eqB x y) FL htl
            rw [Hd.out] at hstp
            obtain ⟨y, hy⟩ : ∃ y, FL[t] = y := ⟨_, rfl⟩
            rw [hy] at hcelly hriy hys hstp
            have Hstp := Lib.hid hstp
            have hq := ints_any AX AY x y cx cy wr (by omega) (by omega) (hrix.below hbt) hriy
            obtain ⟨q, hqq⟩ : ∃ q, eqB x y = q := ⟨_, rfl⟩
            rw [hqq] at hq
            have Hq := Lib.hid hq; have Hqq := Lib.hid hqq
            clear hq hqq hstp hy
            subst hA'
            cases d
            case true =>
              go_wp2_with fail
              go_roundw
              case rel => exact ⟨t + 1, by omega, by go_num, by rw [Hstp.out]; rfl, hbt⟩
              case measure => simp [intOf]; omega
            case false =>
              go_wp2_with fail
              refine Hq.out.mono ?_
              rintro e w6 hret
              obtain ⟨rfl, hb6⟩ := hret.below
              clear hret hA2
              cases q
              · go_wp2_with fail
                go_roundw
                case rel => exact ⟨t + 1, by omega, by go_num, by rw [Hstp.out]; simp only [Hqq.out]; rfl, hbt.trans (hb6.mono hbt.size)⟩
                case measure => simp [intOf]; omega
              · go_wp2_with fail
                go_roundw
                case rel => exact ⟨t + 1, by omega, by go_num, by rw [Hstp.out]; simp only [Hqq.out]; rfl, hbt.trans (hb6.mono hbt.size)⟩
                case measure => simp [intOf]; omega
          case neg =>
          have hdt : d = true := by
            have h1 := Hd.out
            rw [List.take_of_length_le (by omega), Hhx.out] at h1
            exact h1.symm
          subst hdt
          cases k with
          | zero =>
            go_wp2_with fail
            go_roundw
            case rel => exact ⟨1, by omega, by go_num, hbkt⟩
            case measure => simp [intOf]; omega
          | succ k =>
            have hk2 : k < NS.length := by omega
            obtain ⟨b', o', AY, cy, hA', hcellx, _, hriy⟩ := Hr45.out.below hbkt k hk2
            injection hA' with hA'
            injection hA' with hA1 hA2 _
            subst hA1 hA2
            have hsy := Hnsm.out k hk2
            have hcx := Hcx.out (by omega)
            simp only [Nat.add_sub_cancel] at hcx
            obtain ⟨y, hy⟩ : ∃ y, NS[k] = y := ⟨_, rfl⟩
            rw [hy] at hcellx hriy hsy hcx
            clear hy
            have hcc := lCompare_any AY AX y x cy cx wr hriy (hrix.below hbt) (by omega) (by omega)
            rw [hcx] at hcc
            have Hcc := Lib.hid hcc
            clear hcc hcx
            go_wp2_with fail
            refine Hcc.out.mono ?_
            rintro e w6 ⟨rfl, hw6⟩
            subst hw6
            go_wp2_with fail
            go_roundw
            case rel => exact ⟨k + 2, by omega, by go_num, hbkt⟩
            case measure => simp [intOf]; omega
end Go.Proofs.YtajocnhebfpjaaaDoor
