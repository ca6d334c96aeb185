/- law14: the walk of SearchMeet. -/
import Derived.Test.YtajocnhebfpjaaaDoorAwN
import Derived.Test.YtajocnhebfpjaaaDoorPl14q
import Derived.Test.YtajocnhebfpjaaaDoorLc
namespace Go.Proofs.YtajocnhebfpjaaaDoor
open Go.ChangeShapes Go.WideShapes Go.ChangeAt Go.RowKit

theorem meets_len {n : Nat} {l : List (Int × Int)} {a : List Int} {L : List (List Int)} (ha : a ∈ compL n l) (hL : ∀ y ∈ L, y ∈ compL n l) : (meetsL a L).length = n :=
  (labB_iff.1 (meets_lab L a (comB_iff.1 (mem_comp.1 ha)).1 fun y hy => (comB_iff.1 (mem_comp.1 (hL y hy))).1)).1

set_option maxRecDepth 100000 in
set_option maxHeartbeats 8000000 in
theorem meet_law_any (A : Option Addr) (arg : List Int) (c : Nat) (w : World)
    (hlc : arg.length ≤ c) (hc : c ≤ 9223372036854775807) (hr : RI w A arg) (hx : ∀ x ∈ arg, -9223372036854775808 ≤ x ∧ x ≤ 9223372036854775807) (hT : Tab w) :
    Calls Tryd.prog 8 #[.slice A arg.length c] w (RetB (.bool true) w) := by
  go_enter Tryd.func8, Tryd.ntmps8
  go_wp2_with fail
  refine (new_any A arg c w hlc hc hr hx).mono ?_
  rintro e w1 ⟨p, rfl, hp, hs1, hb1⟩
  have hp1 := hs1.lt
  clear hr hx
  go_wp2_with fail
  refine (graph_any p 9 w1 hs1 (by omega)).mono ?_
  rintro e w2 ⟨n, l, AL, cl, rfl, hN, hv, hrp, hloc, hs2, hg2⟩
  have hb2 : Below w.heap.size w w2 := hb1.trans (below_of_grownBy hg2 hp hb1.size)
  clear hs1 hb1 hg2
  go_wp2_with fail
  obtain ⟨W0, hW, c0, c1, hb0, hlt0⟩ := boxed w2 24 (.int .i64 n) (.slice AL l.length cl)
  rw [hW]
  clear hW
  have hst := GSt.start hp hp1 hb2 hs2 hrp hloc hb0 c0 c1
  have hn40 := hv.1.1; have hlen := hv.1.2.1
  have HV := Lib.hid hv
  have hve := hv.valE
  clear hs2 hrp hloc hb0 c0 c1 hb2 hp1 hv
  generalize w2.heap.size = G at *
  obtain ⟨c0, c1⟩ : _ ∧ _ := ⟨hst.c0, hst.c1⟩
  have hB0 := hst.hb
  have hrp := hst.rp
  have hcr := compR_ok hve
  have Hcr := Lib.hid hcr
  clear hcr hve
  refine (complete_any AL (n : Int) l cl W0 hrp hlen (hT.below hB0)).mono ?_
  rintro e W1 ⟨AS, cS, rfl, hrs, _, hb1⟩
  have hB1 := endB hB0 hb1
  have hT1 := hT.below hB1
  have d0 := (hb1.cell (lt_of_cell c0)).trans c0
  have d1 := (hb1.cell (lt_of_cell c1)).trans c1
  have hr1 := hrp.below hb1
  clear hst c0 c1 hrp
  by_cases hlim : 200 < (compL n l).length
  case pos =>
    rw [Hcr.out, if_pos hlim]
    clear hlim hrs Hcr
    go_wp2_with fail
    refine (awake14_any W1 hT1).mono ?_
    rintro e W2 ⟨rfl, hb2⟩
    go_wp2_with fail
    go_ret
    exact ⟨rfl, endB hB1 hb2⟩
  case neg =>
  rw [Hcr.out, if_neg hlim] at hrs
  rw [Hcr.out, if_neg hlim]
  have hl200 : (compL n l).length ≤ 200 := by omega
  have hpos := comp_some HV.out.1
  have hlenS : ∀ k (h : k < (compL n l).length), (compL n l)[k].length = n := fun k h => comp_len (List.getElem_mem h)
  have hmeet : ∀ k (h0 : 0 < (compL n l).length), (meetsL (compL n l)[0] ((compL n l).take k)).length = n := fun k h0 => meets_len (List.getElem_mem h0) fun y hy => List.mem_of_mem_take hy
  have hfin : ∀ (h0 : 0 < (compL n l).length), meetsL (compL n l)[0] (compL n l) = lst n (grL n l) := fun h0 => meets_gr HV.out.1 (List.getElem_mem h0)
  have hfound : (compL n l).any (eqB (lst n (grL n l))) = true := List.any_eq_true.2 ⟨_, gr_mem HV.out.1, (eqB_iff _ _).2 rfl⟩
  have hxl : (lst n (grL n l)).length = n := lst_length ..
  obtain ⟨LS, hLS⟩ : ∃ LS, compL n l = LS := ⟨_, rfl⟩
  rw [hLS] at hrs hl200 hpos hlenS hmeet hfin hfound ⊢
  have hgl := gLabel_any AL n l cl W1 hr1 HV.out hT1
  obtain ⟨x, hxx⟩ : ∃ x, lst n (grL n l) = x := ⟨_, rfl⟩
  rw [hxx] at hfin hfound hxl hgl
  have hx9 : x.length ≤ 9 := by omega
  obtain ⟨b0, o0, A0, c00, rfl, hc0, _, hri0⟩ := hrs 0 hpos
  have hlp : ((LS.length : Int) == 0) = false := by rw [beq_eq_false_iff_ne]; omega
  have hpos' : (0 : Int) < (LS.length : Int) := by omega
  have Hgl := Lib.hid hgl; have HlenS := Lib.hid hlenS; have Hmeet := Lib.hid hmeet; have Hfin := Lib.hid hfin; have Hfound := Lib.hid hfound; have Hxl := Lib.hid hxl
  clear hlim hLS hgl hlenS hmeet hfin hfound hxl hxx Hcr
  have hc0' : W1.cell? ⟨b0, o0, none⟩ = some (.slice A0 LS[0].length c00) := hc0
  go_wp2_with fail
  refine Hgl.out.mono ?_
  rintro e W2 ⟨AX, cx, rfl, _, hrx, _, hb2⟩
  have hB2 := endB hB1 hb2
  have hrs2 := hrs.below hb2
  have hri2 := hri0.below hb2
  clear hrs hri0 hc0 hc0' d0 d1 hr1 Hgl
  go_wp2_with fail
  go_loopw [7, 8, 38] (fun s7 s8 j wr => ∃ (k : Nat) (A7 : Option Addr) (c7 : Nat), k ≤ LS.length ∧ j = .int .i64 k ∧ s7 = .slice A7 (meetsL LS[0] (LS.take k)).length c7 ∧ RI wr A7 (meetsL LS[0] (LS.take k)) ∧ s8 = .bool ((LS.take k).any (eqB x)) ∧ Below W2.heap.size W2 wr) (fun _ _ j _ => LS.length - (intOf j).toNat)
  case atStart => exact ⟨0, A0, c00, Nat.zero_le _, rfl, rfl, hri2, rfl, Below.refl _ _⟩
  case round =>
    obtain ⟨k, A7, c7, hk, rfl, rfl, hri7, rfl, hbl⟩ := hrel
    have hml := Hmeet.out k hpos
    obtain ⟨m, hm⟩ : ∃ m, meetsL LS[0] (LS.take k) = m := ⟨_, rfl⟩
    rw [hm] at hml hri7 ⊢
    obtain ⟨fb, hfb⟩ : ∃ fb, (LS.take k).any (eqB x) = fb := ⟨_, rfl⟩
    rw [hfb]
    have Hm := Lib.hid hm; have Hfb := Lib.hid hfb; have Hml := Lib.hid hml
    have hm9 : m.length ≤ 9 := by omega
    clear hm hfb hml
    have hrxl := hrx.below hbl
    by_cases hkl : k < LS.length
    case neg =>
      have hk' : k = LS.length := by omega
      have hff : fb = true := by rw [← Hfb.out, List.take_of_length_le (by omega)]; exact Hfound.out
      have hmx : m = x := by rw [← Hm.out, List.take_of_length_le (by omega)]; exact Hfin.out hpos
      subst hff hmx
      have hq : eqB m m = true := (eqB_iff _ _).2 rfl
      have hie := ints_any A7 AX m m c7 cx wr (by omega) (by omega) hri7 hrxl
      rw [hq] at hie
      have Hie := Lib.hid hie
      clear hie hq hk'
      go_wp2_with fail
      refine Hie.out.mono ?_
      rintro e W3 ⟨rfl, nd, rfl⟩
      have hb3 : Below wr.heap.size wr (wr.drewN nd) := below_drewN (Below.refl _ _) nd
      have hB3 := endB hB2 (endB hbl hb3)
      go_wp2_with fail
      refine (awake14_any _ (hT.below hB3)).mono ?_
      rintro e W4 ⟨rfl, hb4⟩
      go_wp2_with fail
      go_ret
      exact ⟨rfl, endB hB3 hb4⟩
    case pos =>
    obtain ⟨b, o, AY, cy, hA, hcell, _, hriy⟩ := hrs2.below hbl k hkl
    injection hA with hA
    injection hA with hA1 hA2 _
    subst hA1 hA2
    have hkl' : (k : Int) < (LS.length : Int) := by omega
    have hstepm : meetsL LS[0] (LS.take (k + 1)) = meetL m LS[k] := by rw [List.take_succ_eq_append_getElem hkl, meets_snoc, Hm.out]
    have hstepf : (LS.take (k + 1)).any (eqB x) = (fb || eqB x LS[k]) := by rw [List.take_succ_eq_append_getElem hkl, List.any_append, Hfb.out]; simp
    have hyl := HlenS.out k hkl
    obtain ⟨y, hy⟩ : ∃ y, LS[k] = y := ⟨_, rfl⟩
    rw [hy] at hcell hriy hstepm hstepf hyl
    have hy9 : y.length ≤ 9 := by omega
    obtain ⟨q, hq⟩ : ∃ q, eqB x y = q := ⟨_, rfl⟩
    rw [hq] at hstepf
    have Hq := Lib.hid hq; have Hsm := Lib.hid hstepm; have Hsf := Lib.hid hstepf
    clear hq hstepm hstepf hy hyl
    go_wp2_with fail
    refine (lMeet_any A7 AY m y c7 cy wr hri7 hriy (by omega) (by omega)).mono ?_
    rintro e W3 ⟨A8, c8, rfl, _, hri8, _, hb3⟩
    have hb23 := endB hbl hb3
    have hie := ints_any AX AY x y cx cy W3 (by omega) (by omega) (hrx.below hb23) (hriy.below hb3)
    rw [Hq.out] at hie
    have Hie := Lib.hid hie
    clear hie hcell hriy hri7 hrxl
    rw [← Hsm.out] at hri8 ⊢
    cases fb
    · go_wp2_with fail
      refine Hie.out.mono ?_
      rintro e W4 ⟨rfl, nd, rfl⟩
      have hb4 : Below W3.heap.size W3 (W3.drewN nd) := below_drewN (Below.refl _ _) nd
      go_wp2_with fail
      go_roundw
      case rel => exact ⟨k + 1, A8, c8, by omega, by go_num, rfl, hri8.below hb4, by rw [Hsf.out, Bool.false_or], endB hb23 hb4⟩
      case measure => simp [intOf]; omega
    · go_wp2_with fail
      go_roundw
      case rel => exact ⟨k + 1, A8, c8, by omega, by go_num, rfl, hri8, by rw [Hsf.out, Bool.true_or], hb23⟩
      case measure => simp [intOf]; omega
end Go.Proofs.YtajocnhebfpjaaaDoor
