/- The walk of the statement LabellingLegal. -/
import Derived.Test.YtiljbfeipfdmdaaDoorLb
import Derived.Test.YtiljbfeipfdmdaaDoorGst
namespace Go.Proofs.YtiljbfeipfdmdaaDoor
open Go.ChangeShapes Go.WideShapes Go.ChangeAt Go.RowKit

set_option maxRecDepth 100000 in
set_option maxHeartbeats 8000000 in
theorem legal_law_any (R : Option Addr) (raw : List Int) (rc : Nat) (A : Option Addr) (arg : List Int) (c : Nat) (w : World) (hrl : raw.length ≤ 9223372036854775807) (hraw : RI w R raw) (hrn : R = none → raw = [] ∧ rc = 0)
    (hlc : arg.length ≤ c) (hc : c ≤ 9223372036854775807) (hr : RI w A arg) (hx : ∀ x ∈ arg, -9223372036854775808 ≤ x ∧ x ≤ 9223372036854775807) (hT : Tab w) :
    Calls Tryd.prog 3 #[.slice R raw.length rc, .slice A arg.length c] w (RetB (.bool true) w) := by
  by_cases h60 : 60 < raw.length
  · have hd : decide ((60 : Int) < (raw.length : Int)) = true := by rw [decide_eq_true_eq]; omega
    have H60 := Lib.hid h60; clear h60
    go_enter Tryd.func3, Tryd.ntmps3
    go_wp2_with fail
    go_ret
    exact ⟨rfl, Below.refl _ _⟩
  have hd : decide ((60 : Int) < (raw.length : Int)) = false := by rw [decide_eq_false_iff_not]; omega
  have hrl2 : raw.length ≤ 100000 := by omega
  clear h60 hrl
  go_enter Tryd.func3, Tryd.ntmps3
  go_wp2_with fail
  refine (new_any A arg c w hlc hc hr hx).mono ?_
  rintro e w1 ⟨p, rfl, hp, hs1, hb1⟩
  have hany : AnyO p w (.slice R raw.length rc) := ⟨R, raw, rc, rfl, hraw, hrl2, hrn, fun b o h hne e => by
    obtain ⟨b', o', hA, hcc⟩ := hraw 0 (List.length_pos_iff.2 hne)
    rw [h] at hA
    injection hA with hA
    injection hA with hA
    subst hA
    have := lt_of_cell hcc
    simp at this; omega⟩
  have hp1 := hs1.lt
  clear hr hx hd hraw hrn
  go_wp2_with fail
  refine (graph_any p 8 w1 hs1 (by omega)).mono ?_
  rintro e w2 ⟨n, l, AL, cl, rfl, hN, hv, hrp, hloc, hs2, hg2⟩
  have hb2 : Below w.heap.size w w2 := hb1.trans (below_of_grownBy hg2 hp hb1.size)
  clear hs1 hb1 hg2
  go_wp2_with fail
  obtain ⟨W0, hW, c0, c1, hb0, hlt0⟩ := boxed w2 27 (.int .i64 n) (.slice AL l.length cl)
  rw [hW]
  clear hW
  have hst := GSt.start hp hp1 hb2 hs2 hrp hloc hb0 c0 c1
  have hn40 := hv.1.1; have hlen := hv.1.2.1
  have HV := Lib.hid hv
  clear hs2 hrp hloc hb0 c0 c1 hb2 hp1 hv
  generalize w2.heap.size = G at *
  refine (labels_any p n W0 hst.src (by omega)).mono ?_
  rintro e w3 ⟨x, v1, rfl, ho1, hlx, hs3, hg3⟩
  have hpW : p < W0.heap.size := hst.src.lt
  have hst3 := hst.grown hs3 hg3
  have hW3 := hg3.size
  have hxl := (labB_iff.1 hlx).1
  have Hlx := Lib.hid hlx; have Hxl := Lib.hid hxl
  have ha3 : AnyO p w3 v1 := AnyO.own ho1 (by omega) hpW
  obtain ⟨A3, c3, rfl, hri3, hnn3⟩ := ho1.form2
  have hcap := OwnI.cap ho1
  have hx6 : x.length ≤ 1000000 := by omega
  have hx5 : x.length + 1 ≤ 100000 := by omega
  have Ho1 := Lib.hid ho1
  clear hst hg3 hs3 hlx hxl ho1
  go_upto_region 6 with fail
  go_cut [8] (fun s8 wx => OwnI wx w3.heap.size s8 (x ++ [1]) ∧ Below w3.heap.size w3 wx)
  case first =>
    cases A3 with
    | none =>
      obtain ⟨rfl, rfl⟩ := hnn3 rfl
      go_wp2_with (at_builtin; go_loud (refine wpList_appCap (by rfl) _ _ (by rfl) w3 none [] 1 hri3 (fun _ => rfl) rfl (by rfl) (by rfl) (by rfl) (by decide) ?_); intro v5 w5 ho5 hb5)
      go_meet
      exact ⟨ho5, hb5⟩
    | some ad =>
      have hcap2 : (x.length : Int) ≤ (c3 : Int) := by omega
      go_wp2_with (at_builtin; go_loud (refine wpList_appCap (by rfl) _ _ (by rfl) w3 (some ad) x 1 hri3 (fun e => by cases e) rfl (by rfl) (by rfl) (by rfl) hx6 ?_); intro v5 w5 ho5 hb5)
      go_meet
      exact ⟨ho5, hb5⟩
  obtain ⟨ho5, hb5⟩ := hcut
  generalize wc = w5 at ho5 hb5 ⊢
  have hst5 := hst3.below hb5
  have hp5 : p < w3.heap.size := hst3.src.lt
  have hl5 : (x ++ [(1 : Int)]).length = x.length + 1 := by rw [List.length_append]; rfl
  have ha5 := AnyO.own ho5 (by rw [hl5]; omega) hp5
  have hW5 : W0.heap.size ≤ w5.heap.size := Nat.le_trans hW3 hb5.size
  obtain ⟨A5, c5, rfl, _, _⟩ := ho5.form2
  rw [hl5] at ho5 ha5 ⊢
  have ha35 := ha3.below hb5
  have hri5 := hri3.below hb5
  have Hnn3 := Lib.hid hnn3
  have hg0 := hst5.c0
  clear ho5 hb5 hst3 ha3 hri3 hcap Ho1 hnn3 hW3
  by_cases hz : 0 < x.length
  case' neg =>
    have hz' : ¬ (0 : Int) < (x.length : Int) := by omega
    clear hz
    go_upto_region 10 with fail
    have hstf := hst5; have haf := ha5; have ha3f := ha35
    clear ha5 hst5 ha35 hri5 hg0
    generalize w5 = wf at *
    obtain ⟨A8, k8, c8, h8⟩ : ∃ A8 k8 c8, Value.slice A5 (x.length + 1) c5 = Value.slice A8 k8 c8 := ⟨_, _, _, rfl⟩
    rw [h8] at haf ⊢
    clear h8
  case' pos =>
    have hz' : (0 : Int) < (x.length : Int) := by omega
    go_wp2_with (at_builtin; refine wpList_appIs (by rfl) _ _ (by rfl) (w5.alloc (.cells #[] 3)) w5.heap.size _ [] A3 x c3 (own_empty w5) (hri5.below (newB _ _)) Hnn3.out (by rfl) (by rfl) (by simp; omega) (by simp) ?_; intro v7 w7 ho7 hb7 hg7; (obtain ⟨A7, c7, rfl, _, _⟩ := OwnI.form2 ho7); simp only [List.nil_append] at ho7; simp only [List.nil_append])
    have hb7' : Below w5.heap.size w5 w7 := ((Below.refl _ _).alloc (Nat.le_refl _) _).trans hb7
    have hst7 := hst5.below hb7'
    have hpw5 : p < w5.heap.size := hst5.src.lt
    refine (n_any p x.length w7 hst7.src (by omega) (by omega)).mono ?_
    rintro e w8 ⟨d1, rfl, hd1, hd1', hs8, hg8⟩
    have hst8 := hst7.grown hs8 hg8
    have ho8 : OwnI w8 w5.heap.size _ x := ownsRow_far ho7 hg8 hpw5
    have Ho8 := Lib.hid ho8
    clear ho7 hb7 hg7 ho8
    go_wp2_with fail
    refine (n_any p 6 w8 hst8.src (by omega) (by omega)).mono ?_
    rintro e w9 ⟨d2, rfl, hd2, hd2', hs9, hg9⟩
    have hst9 := hst8.grown hs9 hg9
    have ho9 : OwnI w9 w5.heap.size _ x := ownsRow_far Ho8.out hg9 hpw5
    obtain ⟨d, rfl⟩ := Int.eq_ofNat_of_zero_le hd1
    have hdl : d < x.length := by omega
    obtain ⟨g, rfl, hgw, hgs, hfz⟩ := OwnI.pos ho9 hz
    have hcd := OwnI.cellAt ho9 hdl
    have hfd := hfz d
    have hwr : IntKind.i64.wrap (d2 - 1) = d2 - 1 := by rw [IntKind.wrap_i64]; omega
    have hdl' : (d : Int) < (x.length : Int) := by omega
    have Ho9 := Lib.hid (OwnI.store ho9 hdl (d2 - 1))
    have Hri : Hid (∀ b o, A3 = some ⟨b, o, none⟩ → b ≠ g) := Lib.hid fun b o h => by
      obtain ⟨b', o', hA, hcc⟩ := hri5 0 hz
      rw [h] at hA
      injection hA with hA
      injection hA with hA
      subst hA
      have := lt_of_cell hcc
      simp at this; omega
    have ha3' := (((ha35.below hb7').grown hg8).grown hg9)
    have hgb : w9.grownBy (w9.setCell ⟨g, d, none⟩ (.int .i64 (d2 - 1))) (some g) := ⟨rfl, rfl, rfl, Nat.le_of_eq (by simp [World.setCell]), fun k _ hne => Below.heap_setCell _ _ _ k (fun e => hne (congrArg some e))⟩
    have hstf := hst9.append (v := .slice (some ⟨g, 0, none⟩) x.length c7) ho9 hgb (((Below.refl w5.heap.size w9)).setCell (p := ⟨g, d, none⟩) hgw _) (by omega)
    have ha3f : AnyO p (w9.setCell ⟨g, d, none⟩ (.int .i64 (d2 - 1))) (.slice A3 x.length c3) := by
      obtain ⟨A', x', c', e, q1, q2, q3, q4⟩ := ha3'
      injection e with e1 e2 e3
      subst e1 e3
      refine ⟨A3, x', c3, by rw [e2], fun j hj => ?_, q2, q3, q4⟩
      obtain ⟨b', o', hA, hcc⟩ := q1 j hj
      have hne := Hri.out b' o' hA
      exact ⟨b', o', hA, by rw [World.cell?_setCell_other _ _ _ _ (fun e => by injection e; omega)]; exact hcc⟩
    have haf := AnyO.own Ho9.out (by rw [List.length_set]; omega) hpw5
    clear ho9 hs8 hs9 hfz hd1
    dsimp only
    go_upto_region 10 with fail
    obtain ⟨wf, hwf⟩ : ∃ wf, w9.setCell ⟨g, d, none⟩ (.int .i64 (d2 - 1)) = wf := ⟨_, rfl⟩
    rw [hwf] at hstf haf ha3f ⊢
    clear hgb hwf Ho9 Ho8 hst5 hst7 hst8 hst9 ha5 ha35 ha3' hcd hfd hri5 hg0 hg8 hg9 hb7' hwr
    obtain ⟨A8, k8, c8, h8⟩ : ∃ A8 k8 c8, Value.slice (some ⟨g, 0, none⟩) x.length c7 = Value.slice A8 k8 c8 := ⟨_, _, _, rfl⟩
    rw [h8] at haf ⊢
    clear h8
  all_goals
    obtain ⟨e0, e1⟩ : _ ∧ _ := ⟨hstf.c0, hstf.c1⟩
    go_wp2_with fail
    refine (labels_any p n wf hstf.src (by omega)).mono ?_
    rintro e w10 ⟨x2, v2, rfl, ho2, hlx2, hs10, hg10⟩
    have hst10 := hstf.grown hs10 hg10
    have ha2 : AnyO p w10 v2 := AnyO.own ho2 (by have := (labB_iff.1 hlx2).1; omega) hstf.src.lt
    have ha8 := haf.grown hg10
    have ha3g := ha3f.grown hg10
    have haR := hany.below hst10.hb
    obtain ⟨A2, k2, c2, rfl⟩ := ha2.shape
    clear e0 e1 ho2 hlx2 hs10 hg10 hstf haf ha3f
    obtain ⟨B, hB, hblk, hbB⟩ : ∃ B, w10.alloc (.cells #[.slice R raw.length rc, .slice A3 x.length c3, .slice A8 k8 c8, .slice A2 k2 c2, .slice none 0 0] 22) = B ∧ Blk B w10.heap.size 22 #[.slice R raw.length rc, .slice A3 x.length c3, .slice A8 k8 c8, .slice A2 k2 c2, .slice none 0 0] ∧ Below w10.heap.size w10 B := ⟨_, rfl, Blk.new _ _ _, newB _ _⟩
    have hstB := hst10.below hbB
    have hel : ∀ j, j < 5 → ∃ v, B.cell? ⟨w10.heap.size, j, none⟩ = some v ∧ AnyO p B v := fun j hj => by
      rw [hblk.cell]
      match j, hj with
      | 0, _ => exact ⟨_, rfl, haR.below hbB⟩
      | 1, _ => exact ⟨_, rfl, ha3g.below hbB⟩
      | 2, _ => exact ⟨_, rfl, ha8.below hbB⟩
      | 3, _ => exact ⟨_, rfl, ha2.below hbB⟩
      | 4, _ => exact ⟨_, rfl, AnyO.nil _ _⟩
    obtain ⟨d0, d1⟩ : _ ∧ _ := ⟨hstB.c0, hstB.c1⟩
    have hrB := hstB.rp
    have hBw := hstB.hb
    have hTB := hT.below hBw
    clear hblk hbB ha2 ha8 ha3g haR hst10 hstB
    go_wp2_with fail
    clear hB
    go_loopw [54] (fun i wr => ∃ k : Nat, k ≤ 5 ∧ i = .int .i64 k ∧ Below B.heap.size B wr) (fun i _ => 5 - (intOf i).toNat)
    case atStart => exact ⟨0, Nat.zero_le _, rfl, Below.refl _ _⟩
    case round =>
      obtain ⟨k, hk, rfl, hbl⟩ := hrel
      by_cases hlt : k < 5
      case neg =>
        go_wp2_with fail
        refine (awake11_any wr (hTB.below hbl)).mono ?_
        rintro e w9 ⟨rfl, hb9⟩
        go_wp2_with fail
        go_ret
        exact ⟨rfl, hBw.trans ((endB hbl hb9).mono hBw.size)⟩
      case pos =>
      obtain ⟨v, hcv, hav⟩ := hel k hlt
      obtain ⟨XA, y, yc, rfl, hyr, hyl, _, _⟩ := hav
      have hk0 : (0 : Int) ≤ (k : Int) := by omega
      have hk1 : (k : Int) < 5 := by omega
      obtain ⟨W1, hW1⟩ : ∃ W1, W1 = wr := ⟨_, rfl⟩
      subst hW1
      have e0 := (hbl.cell (lt_of_cell d0)).trans d0
      have e1 := (hbl.cell (lt_of_cell d1)).trans d1
      have e2 := (hbl.cell (lt_of_cell hcv)).trans hcv
      have hr1 := hrB.below hbl
      have hx1 := hyr.below hbl
      have hT1 := hTB.below hbl
      go_wp2_with fail
      have hil : (illL n l y).length ≤ 100000 := by unfold illL; split; (· have := nodesB_length n fun i => !legB l y i; omega); (· simp)
      refine wp_region_textB [2, 5, 7, 10, 13, 14, 17, 20, 23] (SB W1) (RIs []) (by kernel_rfl) (by kernel_rfl) (by kernel_rfl) (Below.refl _ _).drew (RIs.nil _) ?_
      repeat (first
        | (refine TxtBL.skip (by rfl) ?_; simp only [Act.put, List.setIfInBounds_toArray, List.set_cons_zero, List.set_cons_succ])
        | (refine TxtBL.take (by rfl) (by rfl) ?_; apply Exists.intro; refine ⟨fun w1 hS1 => ?_, ?_⟩; (focus ((have g0 := (hS1.cell (lt_of_cell e0)).trans e0); (have g1 := (hS1.cell (lt_of_cell e1)).trans e1); go_simp; with_reducible rfl)); simp only [Act.put, List.setIfInBounds_toArray, List.set_cons_zero, List.set_cons_succ])
        | (refine TxtBL.takeE (by rfl) (by rfl) ?_; apply Exists.intro; refine ⟨fun w1 hS1 => ?_, ?_⟩; (focus ((have g0 := (hS1.cell (lt_of_cell e0)).trans e0); (have g1 := (hS1.cell (lt_of_cell e1)).trans e1); go_simp; with_reducible rfl)); simp only [Act.put, List.setIfInBounds_toArray, List.set_cons_zero, List.set_cons_succ]))
      refine TxtBL.callB (by rfl) (by rfl) ?_
      apply Exists.intro; apply Exists.intro
      refine ⟨fun w1 hS1 => ?_, ?_⟩
      focus (go_simp; first | with_reducible rfl | exact ⟨rfl, rfl⟩)
      refine ⟨.bool (labB n y), fun w1 hS1 hJ1 => ?_, ?_⟩
      · exact lValid_any _ n _ y _ _ (hx1.below hS1) hyl
      simp only [Act.put, List.setIfInBounds_toArray, List.set_cons_zero, List.set_cons_succ]
      repeat (first
        | (refine TxtBL.skip (by rfl) ?_; simp only [Act.put, List.setIfInBounds_toArray, List.set_cons_zero, List.set_cons_succ])
        | (refine TxtBL.take (by rfl) (by rfl) ?_; apply Exists.intro; refine ⟨fun w1 hS1 => ?_, ?_⟩; (focus ((have g0 := (hS1.cell (lt_of_cell e0)).trans e0); (have g1 := (hS1.cell (lt_of_cell e1)).trans e1); go_simp; with_reducible rfl)); simp only [Act.put, List.setIfInBounds_toArray, List.set_cons_zero, List.set_cons_succ])
        | (refine TxtBL.takeE (by rfl) (by rfl) ?_; apply Exists.intro; refine ⟨fun w1 hS1 => ?_, ?_⟩; (focus ((have g0 := (hS1.cell (lt_of_cell e0)).trans e0); (have g1 := (hS1.cell (lt_of_cell e1)).trans e1); go_simp; with_reducible rfl)); simp only [Act.put, List.setIfInBounds_toArray, List.set_cons_zero, List.set_cons_succ]))
      refine TxtBL.callB (by rfl) (by rfl) ?_
      apply Exists.intro; apply Exists.intro
      refine ⟨fun w1 hS1 => ?_, ?_⟩
      focus (go_simp; first | with_reducible rfl | exact ⟨rfl, rfl⟩)
      refine ⟨.bool (labB n y), fun w1 hS1 hJ1 => ?_, ?_⟩
      · exact r11Valid_any _ n _ y _ _ (hx1.below hS1) hyl
      simp only [Act.put, List.setIfInBounds_toArray, List.set_cons_zero, List.set_cons_succ]
      repeat (first
        | (refine TxtBL.skip (by rfl) ?_; simp only [Act.put, List.setIfInBounds_toArray, List.set_cons_zero, List.set_cons_succ])
        | (refine TxtBL.take (by rfl) (by rfl) ?_; apply Exists.intro; refine ⟨fun w1 hS1 => ?_, ?_⟩; (focus ((have g0 := (hS1.cell (lt_of_cell e0)).trans e0); (have g1 := (hS1.cell (lt_of_cell e1)).trans e1); go_simp; with_reducible rfl)); simp only [Act.put, List.setIfInBounds_toArray, List.set_cons_zero, List.set_cons_succ])
        | (refine TxtBL.takeE (by rfl) (by rfl) ?_; apply Exists.intro; refine ⟨fun w1 hS1 => ?_, ?_⟩; (focus ((have g0 := (hS1.cell (lt_of_cell e0)).trans e0); (have g1 := (hS1.cell (lt_of_cell e1)).trans e1); go_simp; with_reducible rfl)); simp only [Act.put, List.setIfInBounds_toArray, List.set_cons_zero, List.set_cons_succ]))
      refine TxtBL.callI (by rfl) (by rfl) ?_
      apply Exists.intro; apply Exists.intro
      refine ⟨fun w1 hS1 => ?_, ?_⟩
      focus (go_simp; first | with_reducible rfl | exact ⟨rfl, rfl⟩)
      refine ⟨illL n l y, fun w1 hS1 hJ1 => ?_, fun A91 c91 => ?_⟩
      · exact lIllegal_any _ n l _ _ y _ _ (hr1.below hS1) HV.out (hx1.below hS1) hyl (hT1.below hS1)
      simp only [Act.put, List.setIfInBounds_toArray, List.set_cons_zero, List.set_cons_succ]
      repeat (first
        | (refine TxtBL.skip (by rfl) ?_; simp only [Act.put, List.setIfInBounds_toArray, List.set_cons_zero, List.set_cons_succ])
        | (refine TxtBL.take (by rfl) (by rfl) ?_; apply Exists.intro; refine ⟨fun w1 hS1 => ?_, ?_⟩; (focus ((have g0 := (hS1.cell (lt_of_cell e0)).trans e0); (have g1 := (hS1.cell (lt_of_cell e1)).trans e1); go_simp; with_reducible rfl)); simp only [Act.put, List.setIfInBounds_toArray, List.set_cons_zero, List.set_cons_succ])
        | (refine TxtBL.takeE (by rfl) (by rfl) ?_; apply Exists.intro; refine ⟨fun w1 hS1 => ?_, ?_⟩; (focus ((have g0 := (hS1.cell (lt_of_cell e0)).trans e0); (have g1 := (hS1.cell (lt_of_cell e1)).trans e1); go_simp; with_reducible rfl)); simp only [Act.put, List.setIfInBounds_toArray, List.set_cons_zero, List.set_cons_succ]))
      refine TxtBL.callI (by rfl) (by rfl) ?_
      apply Exists.intro; apply Exists.intro
      refine ⟨fun w1 hS1 => ?_, ?_⟩
      focus (go_simp; first | with_reducible rfl | exact ⟨rfl, rfl⟩)
      refine ⟨illL n l y, fun w1 hS1 hJ1 => ?_, fun A92 c92 => ?_⟩
      · exact r11Illegal_any _ n l _ _ y _ _ (hr1.below hS1) HV.out (hx1.below hS1) hyl (hT1.below hS1)
      simp only [Act.put, List.setIfInBounds_toArray, List.set_cons_zero, List.set_cons_succ]
      repeat (first
        | (refine TxtBL.skip (by rfl) ?_; simp only [Act.put, List.setIfInBounds_toArray, List.set_cons_zero, List.set_cons_succ])
        | (refine TxtBL.take (by rfl) (by rfl) ?_; apply Exists.intro; refine ⟨fun w1 hS1 => ?_, ?_⟩; (focus (skip; go_simp; with_reducible rfl)); simp only [Act.put, List.setIfInBounds_toArray, List.set_cons_zero, List.set_cons_succ])
        | (refine TxtBL.takeE (by rfl) (by rfl) ?_; apply Exists.intro; refine ⟨fun w1 hS1 => ?_, ?_⟩; (focus (skip; go_simp; with_reducible rfl)); simp only [Act.put, List.setIfInBounds_toArray, List.set_cons_zero, List.set_cons_succ]))
      refine TxtBL.callB (by rfl) (by rfl) ?_
      apply Exists.intro; apply Exists.intro
      refine ⟨fun w1 hS1 => ?_, ?_⟩
      focus (go_simp; first | with_reducible rfl | exact ⟨rfl, rfl⟩)
      refine ⟨.bool true, fun w1 hS1 hJ1 => ?_, ?_⟩
      · have H9 := ints_any A91 A92 (illL n l y) (illL n l y) c91 c92 w1 (by omega) (by omega) hJ1.tail.head hJ1.head
        rw [(eqB_iff _ _).2 rfl] at H9
        exact H9.mono fun e w' h => h.below
      simp only [Act.put, List.setIfInBounds_toArray, List.set_cons_zero, List.set_cons_succ]
      repeat (first
        | (refine TxtBL.skip (by rfl) ?_; simp only [Act.put, List.setIfInBounds_toArray, List.set_cons_zero, List.set_cons_succ])
        | (refine TxtBL.take (by rfl) (by rfl) ?_; apply Exists.intro; refine ⟨fun w1 hS1 => ?_, ?_⟩; (focus ((have g0 := (hS1.cell (lt_of_cell e0)).trans e0); (have g1 := (hS1.cell (lt_of_cell e1)).trans e1); go_simp; with_reducible rfl)); simp only [Act.put, List.setIfInBounds_toArray, List.set_cons_zero, List.set_cons_succ])
        | (refine TxtBL.takeE (by rfl) (by rfl) ?_; apply Exists.intro; refine ⟨fun w1 hS1 => ?_, ?_⟩; (focus ((have g0 := (hS1.cell (lt_of_cell e0)).trans e0); (have g1 := (hS1.cell (lt_of_cell e1)).trans e1); go_simp; with_reducible rfl)); simp only [Act.put, List.setIfInBounds_toArray, List.set_cons_zero, List.set_cons_succ]))
      refine TxtBL.callB (by rfl) (by rfl) ?_
      apply Exists.intro; apply Exists.intro
      refine ⟨fun w1 hS1 => ?_, ?_⟩
      focus (go_simp; first | with_reducible rfl | exact ⟨rfl, rfl⟩)
      refine ⟨.bool (comB n l y), fun w1 hS1 hJ1 => ?_, ?_⟩
      · exact lIsComplete_any _ n l _ _ y _ _ (hr1.below hS1) HV.out (hx1.below hS1) hyl (hT1.below hS1)
      simp only [Act.put, List.setIfInBounds_toArray, List.set_cons_zero, List.set_cons_succ]
      repeat (first
        | (refine TxtBL.skip (by rfl) ?_; simp only [Act.put, List.setIfInBounds_toArray, List.set_cons_zero, List.set_cons_succ])
        | (refine TxtBL.take (by rfl) (by rfl) ?_; apply Exists.intro; refine ⟨fun w1 hS1 => ?_, ?_⟩; (focus ((have g0 := (hS1.cell (lt_of_cell e0)).trans e0); (have g1 := (hS1.cell (lt_of_cell e1)).trans e1); go_simp; with_reducible rfl)); simp only [Act.put, List.setIfInBounds_toArray, List.set_cons_zero, List.set_cons_succ])
        | (refine TxtBL.takeE (by rfl) (by rfl) ?_; apply Exists.intro; refine ⟨fun w1 hS1 => ?_, ?_⟩; (focus ((have g0 := (hS1.cell (lt_of_cell e0)).trans e0); (have g1 := (hS1.cell (lt_of_cell e1)).trans e1); go_simp; with_reducible rfl)); simp only [Act.put, List.setIfInBounds_toArray, List.set_cons_zero, List.set_cons_succ]))
      refine TxtBL.callB (by rfl) (by rfl) ?_
      apply Exists.intro; apply Exists.intro
      refine ⟨fun w1 hS1 => ?_, ?_⟩
      focus (go_simp; first | with_reducible rfl | exact ⟨rfl, rfl⟩)
      refine ⟨.bool (comB n l y), fun w1 hS1 hJ1 => ?_, ?_⟩
      · exact r11IsComplete_any _ n l _ _ y _ _ (hr1.below hS1) HV.out (hx1.below hS1) hyl (hT1.below hS1)
      simp only [Act.put, List.setIfInBounds_toArray, List.set_cons_zero, List.set_cons_succ]
      repeat (first
        | (refine TxtBL.skip (by rfl) ?_; simp only [Act.put, List.setIfInBounds_toArray, List.set_cons_zero, List.set_cons_succ])
        | (refine TxtBL.take (by rfl) (by rfl) ?_; apply Exists.intro; refine ⟨fun w1 hS1 => ?_, ?_⟩; (focus (skip; go_simp; with_reducible rfl)); simp only [Act.put, List.setIfInBounds_toArray, List.set_cons_zero, List.set_cons_succ])
        | (refine TxtBL.takeE (by rfl) (by rfl) ?_; apply Exists.intro; refine ⟨fun w1 hS1 => ?_, ?_⟩; (focus (skip; go_simp; with_reducible rfl)); simp only [Act.put, List.setIfInBounds_toArray, List.set_cons_zero, List.set_cons_succ]))
      refine TxtBL.nil (fun W2 hS2 _ => ?_)
      have hbl2 := endB hbl hS2
      clear e0 e1 e2 hr1 hx1 hT1
      go_wp2_with fail
      go_roundw
      case rel => exact ⟨k + 1, by omega, by go_num, hbl2⟩
      case measure => simp [intOf]; omega
end Go.Proofs.YtiljbfeipfdmdaaDoor
