/- The walk of the statement AdmissibleSets. -/
import Derived.Test.YtplbnhfkndegaaaDoorPlainC
import Derived.Test.YtplbnhfkndegaaaDoorAwake
import Derived.Test.YtplbnhfkndegaaaDoorGst
namespace Go.Proofs.YtplbnhfkndegaaaDoor
open Go.ChangeShapes Go.WideShapes Go.ChangeAt Go.RowKit

set_option maxRecDepth 100000 in
set_option maxHeartbeats 8000000 in
theorem sets_law_any (R : Option Addr) (raw : List Int) (rc : Nat) (at_ : Int) (A : Option Addr) (arg : List Int) (c : Nat) (w : World) (hrl : raw.length ≤ 9223372036854775807) (hraw : RI w R raw) (hrn : R = none → raw = [] ∧ rc = 0)
    (hlc : arg.length ≤ c) (hc : c ≤ 9223372036854775807) (hr : RI w A arg) (hx : ∀ x ∈ arg, -9223372036854775808 ≤ x ∧ x ≤ 9223372036854775807) (hT : Tab w) :
    Calls Tryd.prog 7 #[.slice R raw.length rc, .int .i64 at_, .slice A arg.length c] w (RetB (.bool true) w) := by
  by_cases h60 : 60 < raw.length
  · have hd : decide ((60 : Int) < (raw.length : Int)) = true := by rw [decide_eq_true_eq]; omega
    have H60 := Lib.hid h60; clear h60
    go_enter Tryd.func7, Tryd.ntmps7
    go_wp2_with fail
    go_ret
    exact ⟨rfl, Below.refl _ _⟩
  have hd : decide ((60 : Int) < (raw.length : Int)) = false := by rw [decide_eq_false_iff_not]; omega
  have hrl2 : raw.length ≤ 100000 := by omega
  clear h60 hrl
  go_enter Tryd.func7, Tryd.ntmps7
  go_wp2_with fail
  refine (new_any A arg c w hlc hc hr hx).mono ?_
  rintro e w1 ⟨p, rfl, hp, hs1, hb1⟩
  have hany : AnyO p w (.slice R raw.length rc) := ⟨R, raw, rc, rfl, hraw, hrl2, hrn, fun b o h hne e => by
    obtain ⟨b', o', hA, hcc⟩ := hraw 0 (List.length_pos_iff.2 hne)
    rw [h] at hA
    injection hA with hA
    injection hA with hA
    subst hA
    have := lt_of_cell hcc
    simp at this; omega⟩
  have hp1 := hs1.lt
  clear hr hx hd hraw hrn
  go_wp2_with fail
  refine (graph_any p 8 w1 hs1 (by omega)).mono ?_
  rintro e w2 ⟨n, l, AL, cl, rfl, hN, hv, hrp, hloc, hs2, hg2⟩
  have hb2 : Below w.heap.size w w2 := hb1.trans (below_of_grownBy hg2 hp hb1.size)
  clear hs1 hb1 hg2
  go_wp2_with fail
  obtain ⟨W0, hW, c0, c1, hb0, hlt0⟩ := boxed w2 27 (.int .i64 n) (.slice AL l.length cl)
  rw [hW]
  clear hW
  have hst := GSt.start hp hp1 hb2 hs2 hrp hloc hb0 c0 c1
  have hn40 := hv.1.1; have hlen := hv.1.2.1; have hvR := hv.1
  have hgl : nGl n l = l := by unfold nGl; rw [hv.valE]; rfl
  have HV := Lib.hid hv; have Hgl := Lib.hid hgl
  clear hs2 hrp hloc hb0 c0 c1 hb2 hp1 hv hgl
  generalize w2.heap.size = G at *
  refine (part_any p n W0 hst.src (by omega)).mono ?_
  rintro e w3 ⟨f1, v1, rfl, ho1, hs3, hg3⟩
  have hpW : p < W0.heap.size := hst.src.lt
  have hst3 := hst.grown hs3 hg3
  have hW3 := hg3.size
  clear hst hg3 hs3
  obtain ⟨d0, d1⟩ : _ ∧ _ := ⟨hst3.c0, hst3.c1⟩
  go_wp2_with fail
  refine (n_any p 12 w3 hst3.src (by omega) (by omega)).mono ?_
  rintro e w4 ⟨d, rfl, hd1, hd2, hs4, hg4⟩
  have hst4 := hst3.grown hs4 hg4
  have ho4 : OwnI w4 W0.heap.size v1 (nodesB n f1) := ownsRow_far ho1 hg4 hpW
  have hW4 : W0.heap.size ≤ w4.heap.size := Nat.le_trans hW3 hg4.size
  have hwr : IntKind.i64.wrap (d - 2) = d - 2 := by rw [IntKind.wrap_i64]; omega
  have hfl : (nodesB n f1).length ≤ 40 := by have := nodesB_length n f1; omega
  have Ho4 := Lib.hid ho4
  clear d0 d1 ho1 hst3 hg4 hs4 ho4
  go_wp2_with (at_builtin; refine wpList_appI (by rfl) _ _ (by rfl) w4 W0.heap.size _ _ (d - 2) Ho4.out (by rfl) (by rfl) (by omega) hW4 ?_; intro v5 w5 ho5 hb5 hg5; have hst5 := hst4.append Ho4.out hg5 hb5 hlt0; have ha5 := AnyO.own ho5 (by simp; omega) hpW)
  have hT5 := hT.below hst5.hb
  have ha0 := hany.below hst5.hb
  have hany0 := hany
  clear hwr ho5 hb5 hg5 hst4 Ho4 hany
  have ha5' := ha5
  obtain ⟨A5, x5, c5, rfl, _⟩ := ha5
  have hsh : ∃ v : Value, ∃ A k c, v = Value.slice A k c := ⟨_, none, 0, 0, rfl⟩
  refine wp_region_textB [4, 9, 11] (fun w' => GSt w p G n l AL cl w' ∧ AnyO p w' (.slice A5 x5.length c5)) (fun _ => True) (by kernel_rfl) (by kernel_rfl) (by kernel_rfl) ⟨hst5.below (Below.refl _ _).drew, ha5'.below (Below.refl _ _).drew⟩ trivial ?_
  repeat (first
    | (refine TxtBL.skip (by rfl) ?_; simp only [Act.put, List.setIfInBounds_toArray, List.set_cons_zero, List.set_cons_succ])
    | (refine TxtBL.take (by rfl) (by rfl) ?_; apply Exists.intro; refine ⟨fun w1 hS1 => ?_, ?_⟩; (focus (have g0 := hS1.1.c0; have g1 := hS1.1.c1; go_simp; with_reducible rfl)); simp only [Act.put, List.setIfInBounds_toArray, List.set_cons_zero, List.set_cons_succ]))
  refine TxtBL.call (f := 20) (args := #[.pointer (some ⟨p, 0, none⟩), .int .i64 n]) (fun v => ∃ A k c, v = Value.slice A k c) (fun v w' => AnyO p w' v) (by rfl) (by rfl) hsh (fun w1 hS1 hJ1 => by go_simp) (fun w1 hS1 hJ1 => ?_) ?_
  · refine (part_any p n w1 hS1.1.src (by omega)).mono ?_
    intro e w' hh
    obtain ⟨v, rfl, ha, hs, hg⟩ := hh.any hn40 hS1.1.src.lt
    exact ⟨v, rfl, ⟨hS1.1.grown hs hg, hS1.2.grown hg⟩, ha.shape, ha⟩
  rintro v33 ⟨A33, k33, c33, rfl⟩
  simp only [Act.put, List.setIfInBounds_toArray, List.set_cons_zero, List.set_cons_succ]
  repeat (first
    | (refine TxtBL.skip (by rfl) ?_; simp only [Act.put, List.setIfInBounds_toArray, List.set_cons_zero, List.set_cons_succ])
    | (refine TxtBL.take (by rfl) (by rfl) ?_; apply Exists.intro; refine ⟨fun w1 hS1 => ?_, ?_⟩; (focus (have g0 := hS1.1.c0; have g1 := hS1.1.c1; go_simp; with_reducible rfl)); simp only [Act.put, List.setIfInBounds_toArray, List.set_cons_zero, List.set_cons_succ]))
  have hmin : (if (3 : Int) < (n : Int) then (3 : Int) else (n : Int)) = ((min n 3 : Nat) : Int) := by split <;> omega
  rw [hmin]
  clear hmin
  refine TxtBL.call (f := 20) (args := #[.pointer (some ⟨p, 0, none⟩), .int .i64 (min n 3 : Nat)]) (fun v => ∃ A k c, v = Value.slice A k c) (fun v w' => AnyO p w' (.slice A33 k33 c33) ∧ AnyO p w' v) (by rfl) (by rfl) hsh (fun w1 hS1 hJ1 => by go_simp) (fun w1 hS1 hJ1 => ?_) ?_
  · refine (part_any p (min n 3) w1 hS1.1.src (by omega)).mono ?_
    intro e w' hh
    obtain ⟨v, rfl, ha, hs, hg⟩ := hh.any (by omega) hS1.1.src.lt
    exact ⟨v, rfl, ⟨hS1.1.grown hs hg, hS1.2.grown hg⟩, ha.shape, hJ1.grown hg, ha⟩
  rintro v38 ⟨A38, k38, c38, rfl⟩
  simp only [Act.put, List.setIfInBounds_toArray, List.set_cons_zero, List.set_cons_succ]
  repeat (first
    | (refine TxtBL.skip (by rfl) ?_; simp only [Act.put, List.setIfInBounds_toArray, List.set_cons_zero, List.set_cons_succ])
    | (refine TxtBL.take (by rfl) (by rfl) ?_; apply Exists.intro; refine ⟨fun w1 hS1 => ?_, ?_⟩; (focus (have g0 := hS1.1.c0; have g1 := hS1.1.c1; go_simp; with_reducible rfl)); simp only [Act.put, List.setIfInBounds_toArray, List.set_cons_zero, List.set_cons_succ]))
  refine TxtBL.value (fun v => ∃ g, v = Value.slice (some ⟨g, 0, none⟩) 5 5) (fun v w' => AnyO p w' (.slice A33 k33 c33) ∧ AnyO p w' (.slice A38 k38 c38) ∧ ∃ g, v = Value.slice (some ⟨g, 0, none⟩) 5 5 ∧ Blk w' g 22 #[.slice R raw.length rc, .slice A33 k33 c33, .slice A38 k38 c38, .slice A5 x5.length c5, .slice none 0 0]) (by rfl) (by rfl) ⟨_, 0, rfl⟩ (fun w1 hS1 hJ1 => ?_) ?_
  · refine ⟨.slice (some ⟨w1.heap.size, 0, none⟩) 5 5, w1.alloc (.cells #[.slice R raw.length rc, .slice A33 k33 c33, .slice A38 k38 c38, .slice A5 x5.length c5, .slice none 0 0] 22), by go_simp, ?_, ⟨_, rfl⟩, hJ1.1.below (newB _ _), hJ1.2.below (newB _ _), _, rfl, Blk.new _ _ _⟩
    exact ⟨hS1.1.below (newB _ _), hS1.2.below (newB _ _)⟩
  rintro v40 ⟨g, rfl⟩
  simp only [Act.put, List.setIfInBounds_toArray, List.set_cons_zero, List.set_cons_succ]
  repeat (first
    | (refine TxtBL.skip (by rfl) ?_; simp only [Act.put, List.setIfInBounds_toArray, List.set_cons_zero, List.set_cons_succ])
    | (refine TxtBL.take (by rfl) (by rfl) ?_; apply Exists.intro; refine ⟨fun w1 hS1 => ?_, ?_⟩; (focus (have g0 := hS1.1.c0; have g1 := hS1.1.c1; go_simp; with_reducible rfl)); simp only [Act.put, List.setIfInBounds_toArray, List.set_cons_zero, List.set_cons_succ]))
  refine TxtBL.nil (fun B hS hJ => ?_)
  obtain ⟨hJ1, hJ2, g', hg', hblk⟩ := hJ
  injection hg' with hg' _ _; injection hg' with hg'; injection hg' with hg' _ _; subst hg'
  have hraw := hany0.below hS.1.hb
  have hTB := hT.below hS.1.hb
  have hel : ∀ j, j < 5 → ∃ v, B.cell? ⟨g, j, none⟩ = some v ∧ AnyO p B v := fun j hj => by
    rw [hblk.cell]
    match j, hj with
    | 0, _ => exact ⟨_, rfl, hraw⟩
    | 1, _ => exact ⟨_, rfl, hJ1⟩
    | 2, _ => exact ⟨_, rfl, hJ2⟩
    | 3, _ => exact ⟨_, rfl, hS.2⟩
    | 4, _ => exact ⟨_, rfl, AnyO.nil _ _⟩
  obtain ⟨d0, d1⟩ : _ ∧ _ := ⟨hS.1.c0, hS.1.c1⟩
  have hrB := hS.1.rp
  have hBw := hS.1.hb
  clear hS hJ1 hJ2 hblk hst5 hT5 ha0 ha5' hsh
  go_wp2_with fail
  go_loopw [42] (fun i wr => ∃ k : Nat, k ≤ 5 ∧ i = .int .i64 k ∧ Below B.heap.size B wr) (fun i _ => 5 - (intOf i).toNat)
  case atStart => exact ⟨0, Nat.zero_le _, rfl, Below.refl _ _⟩
  case round =>
    obtain ⟨k, hk, rfl, hbl⟩ := hrel
    by_cases hlt : k < 5
    case neg =>
      go_wp2_with fail
      refine (awake_any wr (hTB.below hbl)).mono ?_
      rintro e w9 ⟨rfl, hb9⟩
      go_wp2_with fail
      go_ret
      exact ⟨rfl, hBw.trans ((endB hbl hb9).mono hBw.size)⟩
    case pos =>
    obtain ⟨v, hcv, hav⟩ := hel k hlt
    obtain ⟨XA, x, xc, rfl, hxr, hxl, _, _⟩ := hav
    have hk0 : (0 : Int) ≤ (k : Int) := by omega
    have hk1 : (k : Int) < 5 := by omega
    obtain ⟨W1, hW1⟩ : ∃ W1, W1 = wr := ⟨_, rfl⟩
    subst hW1
    have e0 := (hbl.cell (lt_of_cell d0)).trans d0
    have e1 := (hbl.cell (lt_of_cell d1)).trans d1
    have e2 := (hbl.cell (lt_of_cell hcv)).trans hcv
    have hr1 := hrB.below hbl
    have hx1 := hxr.below hbl
    have hT1 := hTB.below hbl
    go_wp2_with fail
    have hadm : admR n l x = (setB n x && soundB n l (maskN x)) := admR_eq hvR x
    have hcom : comR n l x = (setB n x && complB n l (maskN x)) := comR_eq hvR x
    have hcf : cfR n l x = (setB n x && freeB l (maskN x)) := cfR_eq hvR x
    have hstb : stableR n l x = (setB n x && stabB n l (maskN x)) := stableR_eq hvR x
    have hstp : stepR n l x = stepL n l x := stepR_eq hvR x
    have hrng : rangeR n l x = rangeL n l x := rangeR_eq hvR x
    have HA := Lib.hid hadm; have HC := Lib.hid hcom; have HF := Lib.hid hcf; have HS := Lib.hid hstb; have HP := Lib.hid hstp; have HR := Lib.hid hrng
    clear hadm hcom hcf hstb hstp hrng
    have hsl : (stepL n l x).length ≤ 100000 := by unfold stepL; split; (· have := nodesB_length n (stepN n l (maskN x)).testBit; omega); (· simp)
    have hrl : (rangeL n l x).length ≤ 100000 := by unfold rangeL; split; (· have := nodesB_length n (maskN x ||| attN l (maskN x)).testBit; omega); (· simp)
    refine wp_region_textB [2, 5, 6, 7, 10, 13, 14, 15, 16, 19, 22, 23, 24, 25, 28, 31, 32, 33, 34, 37, 40, 41, 42, 43, 46, 49, 50, 51, 52, 53, 56, 59, 60] (SB W1) (RIs []) (by kernel_rfl) (by kernel_rfl) (by kernel_rfl) (Below.refl _ _).drew (RIs.nil _) ?_
    repeat (first
      | (refine TxtBL.skip (by rfl) ?_; simp only [Act.put, List.setIfInBounds_toArray, List.set_cons_zero, List.set_cons_succ])
      | (refine TxtBL.take (by rfl) (by rfl) ?_; apply Exists.intro; refine ⟨fun w1 hS1 => ?_, ?_⟩; (focus (have g0 := (hS1.cell (lt_of_cell e0)).trans e0; have g1 := (hS1.cell (lt_of_cell e1)).trans e1; go_simp; with_reducible rfl)); simp only [Act.put, List.setIfInBounds_toArray, List.set_cons_zero, List.set_cons_succ])
      | (refine TxtBL.takeE (by rfl) (by rfl) ?_; apply Exists.intro; refine ⟨fun w1 hS1 => ?_, ?_⟩; (focus (have g0 := (hS1.cell (lt_of_cell e0)).trans e0; have g1 := (hS1.cell (lt_of_cell e1)).trans e1; go_simp; with_reducible rfl)); simp only [Act.put, List.setIfInBounds_toArray, List.set_cons_zero, List.set_cons_succ])
      | (refine TxtBL.callB (by rfl) (by rfl) ?_; apply Exists.intro; apply Exists.intro; refine ⟨fun w1 hS1 => ?_, ?_⟩; (focus (go_simp; first | with_reducible rfl | exact ⟨rfl, rfl⟩)); apply Exists.intro; refine ⟨fun w1 hS1 hJ1 => ?_, ?_⟩; (focus (first
          | (go_at_call 30; exact aValid_any _ _ _ _ _ _ (hx1.below hS1) hxl)
          | (go_at_call 31; exact r13Valid_any _ _ _ _ _ _ (hx1.below hS1) hxl)
          | (go_at_call 15; exact aConflictFree_any _ n l _ _ x _ _ (hr1.below hS1) hvR (hx1.below hS1) hxl)
          | (go_at_call 28; have H9 := r13ConflictFree_any _ n l cl _ x xc _ (hr1.below hS1) hlen Hgl.out (hx1.below hS1) hxl; rw [HF.out] at H9; exact H9)
          | (go_at_call 11; exact aAdmissible_any _ n l _ _ x _ _ (hr1.below hS1) hvR (hx1.below hS1) hxl)
          | (go_at_call 17; have H9 := r13Admissible_any _ n l cl _ x xc _ (hr1.below hS1) hn40 hlen Hgl.out (hx1.below hS1) hxl; rw [HA.out] at H9; exact H9)
          | (go_at_call 13; exact aIsComplete_any _ n l _ _ x _ _ (hr1.below hS1) hvR (hx1.below hS1) hxl)
          | (go_at_call 29; have H9 := r13IsComplete_any _ n l cl _ x xc _ (hr1.below hS1) hn40 hlen Hgl.out (hx1.below hS1) hxl; rw [HC.out] at H9; exact H9)
          | (go_at_call 12; exact aIsStable_any _ n l _ _ x _ _ (hr1.below hS1) hvR (hx1.below hS1) hxl)
          | (go_at_call 32; have H9 := r13IsStable_any _ n l cl _ x xc _ (hr1.below hS1) hn40 hlen Hgl.out (hx1.below hS1) hxl; rw [HS.out] at H9; exact H9))); simp only [Act.put, List.setIfInBounds_toArray, List.set_cons_zero, List.set_cons_succ]))
    refine TxtBL.callI (by rfl) (by rfl) ?_
    apply Exists.intro; apply Exists.intro
    refine ⟨fun w1 hS1 => ?_, ?_⟩
    focus (go_simp; first | with_reducible rfl | exact ⟨rfl, rfl⟩)
    refine ⟨stepL n l x, fun w1 hS1 hJ1 => ?_, fun A91 c91 => ?_⟩
    · exact aStep_any _ n l _ _ x _ _ (hr1.below hS1) hvR (hx1.below hS1) hxl (hT1.below hS1)
    simp only [Act.put, List.setIfInBounds_toArray, List.set_cons_zero, List.set_cons_succ]
    repeat (first
      | (refine TxtBL.skip (by rfl) ?_; simp only [Act.put, List.setIfInBounds_toArray, List.set_cons_zero, List.set_cons_succ])
      | (refine TxtBL.take (by rfl) (by rfl) ?_; apply Exists.intro; refine ⟨fun w1 hS1 => ?_, ?_⟩; (focus (have g0 := (hS1.cell (lt_of_cell e0)).trans e0; have g1 := (hS1.cell (lt_of_cell e1)).trans e1; go_simp; with_reducible rfl)); simp only [Act.put, List.setIfInBounds_toArray, List.set_cons_zero, List.set_cons_succ])
      | (refine TxtBL.takeE (by rfl) (by rfl) ?_; apply Exists.intro; refine ⟨fun w1 hS1 => ?_, ?_⟩; (focus (have g0 := (hS1.cell (lt_of_cell e0)).trans e0; have g1 := (hS1.cell (lt_of_cell e1)).trans e1; go_simp; with_reducible rfl)); simp only [Act.put, List.setIfInBounds_toArray, List.set_cons_zero, List.set_cons_succ]))
    refine TxtBL.callI (by rfl) (by rfl) ?_
    apply Exists.intro; apply Exists.intro
    refine ⟨fun w1 hS1 => ?_, ?_⟩
    focus (go_simp; first | with_reducible rfl | exact ⟨rfl, rfl⟩)
    refine ⟨stepL n l x, fun w1 hS1 hJ1 => ?_, fun A92 c92 => ?_⟩
    · have H9 := r13Step_any _ n l cl _ x xc _ (hr1.below hS1) hn40 hlen Hgl.out (hx1.below hS1) hxl
      rw [HP.out] at H9
      exact H9
    simp only [Act.put, List.setIfInBounds_toArray, List.set_cons_zero, List.set_cons_succ]
    repeat (first
      | (refine TxtBL.skip (by rfl) ?_; simp only [Act.put, List.setIfInBounds_toArray, List.set_cons_zero, List.set_cons_succ])
      | (refine TxtBL.take (by rfl) (by rfl) ?_; apply Exists.intro; refine ⟨fun w1 hS1 => ?_, ?_⟩; (focus (have g0 := (hS1.cell (lt_of_cell e0)).trans e0; have g1 := (hS1.cell (lt_of_cell e1)).trans e1; go_simp; with_reducible rfl)); simp only [Act.put, List.setIfInBounds_toArray, List.set_cons_zero, List.set_cons_succ])
      | (refine TxtBL.takeE (by rfl) (by rfl) ?_; apply Exists.intro; refine ⟨fun w1 hS1 => ?_, ?_⟩; (focus (have g0 := (hS1.cell (lt_of_cell e0)).trans e0; have g1 := (hS1.cell (lt_of_cell e1)).trans e1; go_simp; with_reducible rfl)); simp only [Act.put, List.setIfInBounds_toArray, List.set_cons_zero, List.set_cons_succ]))
    refine TxtBL.callB (by rfl) (by rfl) ?_
    apply Exists.intro; apply Exists.intro
    refine ⟨fun w1 hS1 => ?_, ?_⟩
    focus (go_simp; first | with_reducible rfl | exact ⟨rfl, rfl⟩)
    refine ⟨.bool true, fun w1 hS1 hJ1 => ?_, ?_⟩
    · have H9 := ints_any A91 A92 (stepL n l x) (stepL n l x) c91 c92 w1 (by omega) (by omega) hJ1.tail.head hJ1.head
      rw [(eqB_iff _ _).2 rfl] at H9
      exact H9.mono fun e w' h => h.below
    simp only [Act.put, List.setIfInBounds_toArray, List.set_cons_zero, List.set_cons_succ]
    repeat (first
      | (refine TxtBL.skip (by rfl) ?_; simp only [Act.put, List.setIfInBounds_toArray, List.set_cons_zero, List.set_cons_succ])
      | (refine TxtBL.take (by rfl) (by rfl) ?_; apply Exists.intro; refine ⟨fun w1 hS1 => ?_, ?_⟩; (focus (have g0 := (hS1.cell (lt_of_cell e0)).trans e0; have g1 := (hS1.cell (lt_of_cell e1)).trans e1; go_simp; with_reducible rfl)); simp only [Act.put, List.setIfInBounds_toArray, List.set_cons_zero, List.set_cons_succ])
      | (refine TxtBL.takeE (by rfl) (by rfl) ?_; apply Exists.intro; refine ⟨fun w1 hS1 => ?_, ?_⟩; (focus (have g0 := (hS1.cell (lt_of_cell e0)).trans e0; have g1 := (hS1.cell (lt_of_cell e1)).trans e1; go_simp; with_reducible rfl)); simp only [Act.put, List.setIfInBounds_toArray, List.set_cons_zero, List.set_cons_succ]))
    refine TxtBL.callI (by rfl) (by rfl) ?_
    apply Exists.intro; apply Exists.intro
    refine ⟨fun w1 hS1 => ?_, ?_⟩
    focus (go_simp; first | with_reducible rfl | exact ⟨rfl, rfl⟩)
    refine ⟨rangeL n l x, fun w1 hS1 hJ1 => ?_, fun A93 c93 => ?_⟩
    · exact aRange_any _ n l _ _ x _ _ (hr1.below hS1) hvR (hx1.below hS1) hxl (hT1.below hS1)
    simp only [Act.put, List.setIfInBounds_toArray, List.set_cons_zero, List.set_cons_succ]
    repeat (first
      | (refine TxtBL.skip (by rfl) ?_; simp only [Act.put, List.setIfInBounds_toArray, List.set_cons_zero, List.set_cons_succ])
      | (refine TxtBL.take (by rfl) (by rfl) ?_; apply Exists.intro; refine ⟨fun w1 hS1 => ?_, ?_⟩; (focus (have g0 := (hS1.cell (lt_of_cell e0)).trans e0; have g1 := (hS1.cell (lt_of_cell e1)).trans e1; go_simp; with_reducible rfl)); simp only [Act.put, List.setIfInBounds_toArray, List.set_cons_zero, List.set_cons_succ])
      | (refine TxtBL.takeE (by rfl) (by rfl) ?_; apply Exists.intro; refine ⟨fun w1 hS1 => ?_, ?_⟩; (focus (have g0 := (hS1.cell (lt_of_cell e0)).trans e0; have g1 := (hS1.cell (lt_of_cell e1)).trans e1; go_simp; with_reducible rfl)); simp only [Act.put, List.setIfInBounds_toArray, List.set_cons_zero, List.set_cons_succ]))
    refine TxtBL.callI (by rfl) (by rfl) ?_
    apply Exists.intro; apply Exists.intro
    refine ⟨fun w1 hS1 => ?_, ?_⟩
    focus (go_simp; first | with_reducible rfl | exact ⟨rfl, rfl⟩)
    refine ⟨rangeL n l x, fun w1 hS1 hJ1 => ?_, fun A94 c94 => ?_⟩
    · have H9 := r13Range_any _ n l cl _ x xc _ (hr1.below hS1) hn40 hlen Hgl.out (hx1.below hS1) hxl
      rw [HR.out] at H9
      exact H9
    simp only [Act.put, List.setIfInBounds_toArray, List.set_cons_zero, List.set_cons_succ]
    repeat (first
      | (refine TxtBL.skip (by rfl) ?_; simp only [Act.put, List.setIfInBounds_toArray, List.set_cons_zero, List.set_cons_succ])
      | (refine TxtBL.take (by rfl) (by rfl) ?_; apply Exists.intro; refine ⟨fun w1 hS1 => ?_, ?_⟩; (focus (have g0 := (hS1.cell (lt_of_cell e0)).trans e0; have g1 := (hS1.cell (lt_of_cell e1)).trans e1; go_simp; with_reducible rfl)); simp only [Act.put, List.setIfInBounds_toArray, List.set_cons_zero, List.set_cons_succ])
      | (refine TxtBL.takeE (by rfl) (by rfl) ?_; apply Exists.intro; refine ⟨fun w1 hS1 => ?_, ?_⟩; (focus (have g0 := (hS1.cell (lt_of_cell e0)).trans e0; have g1 := (hS1.cell (lt_of_cell e1)).trans e1; go_simp; with_reducible rfl)); simp only [Act.put, List.setIfInBounds_toArray, List.set_cons_zero, List.set_cons_succ]))
    refine TxtBL.callB (by rfl) (by rfl) ?_
    apply Exists.intro; apply Exists.intro
    refine ⟨fun w1 hS1 => ?_, ?_⟩
    focus (go_simp; first | with_reducible rfl | exact ⟨rfl, rfl⟩)
    refine ⟨.bool true, fun w1 hS1 hJ1 => ?_, ?_⟩
    · have H9 := ints_any A93 A94 (rangeL n l x) (rangeL n l x) c93 c94 w1 (by omega) (by omega) hJ1.tail.head hJ1.head
      rw [(eqB_iff _ _).2 rfl] at H9
      exact H9.mono fun e w' h => h.below
    simp only [Act.put, List.setIfInBounds_toArray, List.set_cons_zero, List.set_cons_succ]
    repeat (first
      | (refine TxtBL.skip (by rfl) ?_; simp only [Act.put, List.setIfInBounds_toArray, List.set_cons_zero, List.set_cons_succ])
      | (refine TxtBL.take (by rfl) (by rfl) ?_; apply Exists.intro; refine ⟨fun w1 hS1 => ?_, ?_⟩; (focus (have g0 := (hS1.cell (lt_of_cell e0)).trans e0; have g1 := (hS1.cell (lt_of_cell e1)).trans e1; go_simp; with_reducible rfl)); simp only [Act.put, List.setIfInBounds_toArray, List.set_cons_zero, List.set_cons_succ])
      | (refine TxtBL.takeE (by rfl) (by rfl) ?_; apply Exists.intro; refine ⟨fun w1 hS1 => ?_, ?_⟩; (focus (have g0 := (hS1.cell (lt_of_cell e0)).trans e0; have g1 := (hS1.cell (lt_of_cell e1)).trans e1; go_simp; with_reducible rfl)); simp only [Act.put, List.setIfInBounds_toArray, List.set_cons_zero, List.set_cons_succ]))
    refine TxtBL.nil (fun W2 hS2 _ => ?_)
    have hbl2 := endB hbl hS2
    have g0 := (hS2.cell (lt_of_cell e0)).trans e0
    have g1 := (hS2.cell (lt_of_cell e1)).trans e1
    have hr2 := hr1.below hS2
    have hx2 := hx1.below hS2
    clear e0 e1 e2 hr1 hx1 hT1
    go_wp2_with fail
    go_loopw [12] (fun i wr => ∃ t : Int, -1 ≤ t ∧ t ≤ n + 1 ∧ i = .int .i64 t ∧ Below W2.heap.size W2 wr) (fun i _ => (n + 1 - intOf i).toNat)
    case atStart => exact ⟨-1, by omega, by omega, rfl, Below.refl _ _⟩
    case round =>
      obtain ⟨t, ht0, ht1, rfl, hbt⟩ := hrel
      obtain ⟨W3, hW3⟩ : ∃ W3, W3 = wr := ⟨_, rfl⟩
      subst hW3
      have e0 := (hbt.cell (lt_of_cell g0)).trans g0
      have e1 := (hbt.cell (lt_of_cell g1)).trans g1
      have hr3 := hr2.below hbt
      have hx3 := hx2.below hbt
      by_cases htn : t ≤ n
      case neg =>
        go_wp2_with fail
        refine wp_region_textB [3, 7] (SB W3) (RIs []) (by kernel_rfl) (by kernel_rfl) (by kernel_rfl) (Below.refl _ _).drew (RIs.nil _) ?_
        repeat (first
          | (refine TxtBL.skip (by rfl) ?_; simp only [Act.put, List.setIfInBounds_toArray, List.set_cons_zero, List.set_cons_succ])
          | (refine TxtBL.take (by rfl) (by rfl) ?_; apply Exists.intro; refine ⟨fun w1 hS1 => ?_, ?_⟩; (focus (have g8 := (hS1.cell (lt_of_cell e0)).trans e0; have g9 := (hS1.cell (lt_of_cell e1)).trans e1; go_simp; with_reducible rfl)); simp only [Act.put, List.setIfInBounds_toArray, List.set_cons_zero, List.set_cons_succ])
          | (refine TxtBL.callB (by rfl) (by rfl) ?_; apply Exists.intro; apply Exists.intro; refine ⟨fun w1 hS1 => ?_, ?_⟩; (focus (go_simp; first | with_reducible rfl | exact ⟨rfl, rfl⟩)); apply Exists.intro; refine ⟨fun w1 hS1 hJ1 => ?_, ?_⟩; (focus (first
              | (go_at_call 36; exact aDefends_any _ n l _ _ x _ at_ _ (hr3.below hS1) hvR (hx3.below hS1) hxl)
              | (go_at_call 37; have H9 := r13Defends_any _ n l cl _ x xc at_ _ (hr3.below hS1) hlen Hgl.out (hx3.below hS1) hxl; rw [defR_eq hvR] at H9; exact H9))); simp only [Act.put, List.setIfInBounds_toArray, List.set_cons_zero, List.set_cons_succ]))
        refine TxtBL.nil (fun W4 hS4 _ => ?_)
        go_wp2_with fail
        go_roundw
        case rel => exact ⟨k + 1, by omega, by go_num, endB hbl2 (endB hbt hS4)⟩
        case measure => simp [intOf]; omega
      case pos =>
      go_wp2_with fail
      refine wp_region_textB [3, 7] (SB W3) (RIs []) (by kernel_rfl) (by kernel_rfl) (by kernel_rfl) (Below.refl _ _).drew (RIs.nil _) ?_
      repeat (first
        | (refine TxtBL.skip (by rfl) ?_; simp only [Act.put, List.setIfInBounds_toArray, List.set_cons_zero, List.set_cons_succ])
        | (refine TxtBL.take (by rfl) (by rfl) ?_; apply Exists.intro; refine ⟨fun w1 hS1 => ?_, ?_⟩; (focus (have g8 := (hS1.cell (lt_of_cell e0)).trans e0; have g9 := (hS1.cell (lt_of_cell e1)).trans e1; go_simp; with_reducible rfl)); simp only [Act.put, List.setIfInBounds_toArray, List.set_cons_zero, List.set_cons_succ])
        | (refine TxtBL.callB (by rfl) (by rfl) ?_; apply Exists.intro; apply Exists.intro; refine ⟨fun w1 hS1 => ?_, ?_⟩; (focus (go_simp; first | with_reducible rfl | exact ⟨rfl, rfl⟩)); apply Exists.intro; refine ⟨fun w1 hS1 hJ1 => ?_, ?_⟩; (focus (first
            | (go_at_call 36; exact aDefends_any _ n l _ _ x _ t _ (hr3.below hS1) hvR (hx3.below hS1) hxl)
            | (go_at_call 37; have H9 := r13Defends_any _ n l cl _ x xc t _ (hr3.below hS1) hlen Hgl.out (hx3.below hS1) hxl; rw [defR_eq hvR] at H9; exact H9))); simp only [Act.put, List.setIfInBounds_toArray, List.set_cons_zero, List.set_cons_succ]))
      refine TxtBL.nil (fun W4 hS4 _ => ?_)
      go_wp2_with fail
      go_roundw
      case rel => exact ⟨t + 1, by omega, by omega, by go_num, endB hbt hS4⟩
      case measure => simp [intOf]; omega
end Go.Proofs.YtplbnhfkndegaaaDoor
