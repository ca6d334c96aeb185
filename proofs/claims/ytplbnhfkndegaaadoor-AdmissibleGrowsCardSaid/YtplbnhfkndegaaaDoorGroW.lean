/- The walk of the statement AdmissibleGrows. -/
import Derived.Test.YtplbnhfkndegaaaDoorGstB
import Derived.Test.YtplbnhfkndegaaaDoorAwake
import Derived.Test.YtplbnhfkndegaaaDoorRShrink
import Derived.Test.YtplbnhfkndegaaaDoorRGreedy
namespace Go.Proofs.YtplbnhfkndegaaaDoor
open Go.ChangeShapes Go.WideShapes Go.ChangeAt Go.RowKit

set_option maxRecDepth 100000 in
set_option maxHeartbeats 8000000 in
theorem grows_any (R : Option Addr) (raw : List Int) (rc : Nat) (A : Option Addr) (arg : List Int) (c : Nat) (w : World) (hrl : raw.length ≤ 9223372036854775807) (hraw : RI w R raw) (hrn : R = none → raw = [] ∧ rc = 0)
    (hlc : arg.length ≤ c) (hc : c ≤ 9223372036854775807) (hr : RI w A arg) (hx : ∀ x ∈ arg, -9223372036854775808 ≤ x ∧ x ≤ 9223372036854775807) (hT : Tab w) :
    Calls Tryd.prog 5 #[.slice R raw.length rc, .slice A arg.length c] w (RetB (.bool true) w) := by
  by_cases h60 : 60 < raw.length
  · have hd : decide ((60 : Int) < (raw.length : Int)) = true := by rw [decide_eq_true_eq]; omega
    have H60 := Lib.hid h60; clear h60
    go_enter Tryd.func5, Tryd.ntmps5
    go_wp2_with fail
    go_ret
    exact ⟨rfl, Below.refl _ _⟩
  have hd : decide ((60 : Int) < (raw.length : Int)) = false := by rw [decide_eq_false_iff_not]; omega
  have hrl2 : raw.length ≤ 100000 := by omega
  clear h60 hrl
  go_enter Tryd.func5, Tryd.ntmps5
  go_wp2_with fail
  refine (new_any A arg c w hlc hc hr hx).mono ?_
  rintro e w1 ⟨p, rfl, hp, hs1, hb1⟩
  have hany : AnyO p w (.slice R raw.length rc) := ⟨R, raw, rc, rfl, hraw, hrl2, hrn, fun b o h hne e => by
    obtain ⟨b', o', hA, hcc⟩ := hraw 0 (List.length_pos_iff.2 hne)
    rw [h] at hA
    injection hA with hA
    injection hA with hA
    subst hA
    have := lt_of_cell hcc
    simp at this; omega⟩
  have hp1 := hs1.lt
  clear hr hx hd hraw hrn
  go_wp2_with fail
  refine (graph_any p 8 w1 hs1 (by omega)).mono ?_
  rintro e w2 ⟨n, l, AL, cl, rfl, hN, hv, hrp, hloc, hs2, hg2⟩
  have hb2 : Below w.heap.size w w2 := hb1.trans (below_of_grownBy hg2 hp hb1.size)
  clear hs1 hb1 hg2
  go_wp2_with fail
  obtain ⟨W0, hW, c0, c1, hb0, hlt0⟩ := boxed w2 27 (.int .i64 n) (.slice AL l.length cl)
  rw [hW]
  clear hW
  have hst := GSt.start hp hp1 hb2 hs2 hrp hloc hb0 c0 c1
  have hn40 := hv.1.1; have hlen := hv.1.2.1; have hvR := hv.1
  have hgl : nGl n l = l := by unfold nGl; rw [hv.valE]; rfl
  have HV := Lib.hid hv; have Hgl := Lib.hid hgl
  clear hs2 hrp hloc hb0 c0 c1 hb2 hp1 hv hgl
  generalize w2.heap.size = G at *
  refine (part_any p n W0 hst.src (by omega)).mono ?_
  rintro e w3 ⟨f7, v7, rfl, ho7, hs3, hg3⟩
  have hst3 := hst.grown hs3 hg3
  have hp3 := hst3.src.lt
  have hl7 : (nodesB n f7).length ≤ 40 := by have := nodesB_length n f7; omega
  have ha7 := AnyO.own ho7 (by omega) hst.src.lt
  obtain ⟨A7, c7, rfl, hr7, _⟩ := ho7.form
  obtain ⟨y7, hy7⟩ : ∃ y7, nodesB n f7 = y7 := ⟨_, rfl⟩
  rw [hy7] at ha7 hr7 hl7
  rw [hy7]
  clear hst hg3 hs3 ho7 hy7
  obtain ⟨d0, d1⟩ : _ ∧ _ := ⟨hst3.c0, hst3.c1⟩
  go_wp2_with fail
  refine (r13Greedy_any _ n l _ _ y7 _ w3 hst3.rp hvR Hgl.out hr7 (by omega)).mono ?_
  rintro e w4 ⟨v8, y8, rfl, ho8, hl8, hb8⟩
  have hst4 := hst3.below hb8
  have ha7' := ha7.below hb8
  have ha8 := AnyO.own ho8 (by omega) hp3
  have ha8' := ha8
  obtain ⟨A8, x8, c8, rfl, _⟩ := ha8
  clear d0 d1 hst3 ha7 hb8 ho8 hr7
  obtain ⟨d0, d1⟩ : _ ∧ _ := ⟨hst4.c0, hst4.c1⟩
  go_wp2_with fail
  have hsh : ∃ v : Value, ∃ A k c, v = Value.slice A k c := ⟨_, none, 0, 0, rfl⟩
  refine wp_region_textB [7, 11, 13, 14, 15, 16, 17] (fun w' => GSt w p G n l AL cl w' ∧ AnyO p w' (.slice A7 y7.length c7) ∧ AnyO p w' (.slice A8 x8.length c8)) (fun _ => True) (by kernel_rfl) (by kernel_rfl) (by kernel_rfl) ⟨hst4.below (Below.refl _ _).drew, ha7'.below (Below.refl _ _).drew, ha8'.below (Below.refl _ _).drew⟩ trivial ?_
  repeat (first
    | (refine TxtBL.skip (by rfl) ?_; simp only [Act.put, List.setIfInBounds_toArray, List.set_cons_zero, List.set_cons_succ])
    | (refine TxtBL.take (by rfl) (by rfl) ?_; apply Exists.intro; refine ⟨fun w1 hS1 => ?_, ?_⟩; (focus (have g0 := hS1.1.c0; have g1 := hS1.1.c1; go_simp; with_reducible rfl)); simp only [Act.put, List.setIfInBounds_toArray, List.set_cons_zero, List.set_cons_succ])
    | (refine TxtBL.takeE (by rfl) (by rfl) ?_; apply Exists.intro; refine ⟨fun w1 hS1 => ?_, ?_⟩; (focus (have g0 := hS1.1.c0; have g1 := hS1.1.c1; go_simp; with_reducible rfl)); simp only [Act.put, List.setIfInBounds_toArray, List.set_cons_zero, List.set_cons_succ]))
  have hmin : (if (2 : Int) < (n : Int) then (2 : Int) else (n : Int)) = ((min n 2 : Nat) : Int) := by split <;> omega
  rw [hmin]
  clear hmin
  refine TxtBL.call (f := 20) (args := #[.pointer (some ⟨p, 0, none⟩), .int .i64 (min n 2 : Nat)]) (fun v => ∃ A k c, v = Value.slice A k c) (fun v w' => AnyO p w' v) (by rfl) (by rfl) hsh (fun w1 hS1 hJ1 => by go_simp) (fun w1 hS1 hJ1 => ?_) ?_
  · refine (part_any p (min n 2) w1 hS1.1.src (by omega)).mono ?_
    intro e w' hh
    obtain ⟨v, rfl, ha, hs, hg⟩ := hh.any (by omega) hS1.1.src.lt
    exact ⟨v, rfl, ⟨hS1.1.grown hs hg, hS1.2.1.grown hg, hS1.2.2.grown hg⟩, ha.shape, ha⟩
  rintro v40 ⟨A40, k40, c40, rfl⟩
  simp only [Act.put, List.setIfInBounds_toArray, List.set_cons_zero, List.set_cons_succ]
  repeat (first
    | (refine TxtBL.skip (by rfl) ?_; simp only [Act.put, List.setIfInBounds_toArray, List.set_cons_zero, List.set_cons_succ])
    | (refine TxtBL.take (by rfl) (by rfl) ?_; apply Exists.intro; refine ⟨fun w1 hS1 => ?_, ?_⟩; (focus (have g0 := hS1.1.c0; have g1 := hS1.1.c1; go_simp; with_reducible rfl)); simp only [Act.put, List.setIfInBounds_toArray, List.set_cons_zero, List.set_cons_succ])
    | (refine TxtBL.takeE (by rfl) (by rfl) ?_; apply Exists.intro; refine ⟨fun w1 hS1 => ?_, ?_⟩; (focus (have g0 := hS1.1.c0; have g1 := hS1.1.c1; go_simp; with_reducible rfl)); simp only [Act.put, List.setIfInBounds_toArray, List.set_cons_zero, List.set_cons_succ]))
  refine TxtBL.call (f := 20) (args := #[.pointer (some ⟨p, 0, none⟩), .int .i64 n]) (fun v => ∃ A k c, v = Value.slice A k c) (fun v w' => ∃ b y, Mid G p (.slice A40 k40 c40) (.slice A7 y7.length c7) (.slice A8 x8.length c8) b y w' v) (by rfl) (by rfl) hsh (fun w1 hS1 hJ1 => by go_simp) (fun w1 hS1 hJ1 => ?_) ?_
  · refine (part_any p n w1 hS1.1.src (by omega)).mono ?_
    rintro e w' ⟨f, v, rfl, ho, hs, hg⟩
    have hG1 : G < w1.heap.size := lt_of_cell hS1.1.c0
    exact ⟨v, rfl, ⟨hS1.1.grown hs hg, hS1.2.1.grown hg, hS1.2.2.grown hg⟩, (AnyO.own ho (by have := nodesB_length n f; omega) hS1.1.src.lt).shape, w1.heap.size, _, ho, by have := nodesB_length n f; omega, hg.size, hS1.1.src.lt, hG1, (hJ1.lift (Nat.le_refl _)).grown hg, (hS1.2.1.lift (Nat.le_refl _)).grown hg, (hS1.2.2.lift (Nat.le_refl _)).grown hg⟩
  rintro v44 ⟨A44, k44, c44, rfl⟩
  simp only [Act.put, List.setIfInBounds_toArray, List.set_cons_zero, List.set_cons_succ]
  repeat (first
    | (refine TxtBL.skip (by rfl) ?_; simp only [Act.put, List.setIfInBounds_toArray, List.set_cons_zero, List.set_cons_succ])
    | (refine TxtBL.take (by rfl) (by rfl) ?_; apply Exists.intro; refine ⟨fun w1 hS1 => ?_, ?_⟩; (focus (have g0 := hS1.1.c0; have g1 := hS1.1.c1; go_simp; with_reducible rfl)); simp only [Act.put, List.setIfInBounds_toArray, List.set_cons_zero, List.set_cons_succ])
    | (refine TxtBL.takeE (by rfl) (by rfl) ?_; apply Exists.intro; refine ⟨fun w1 hS1 => ?_, ?_⟩; (focus (have g0 := hS1.1.c0; have g1 := hS1.1.c1; go_simp; with_reducible rfl)); simp only [Act.put, List.setIfInBounds_toArray, List.set_cons_zero, List.set_cons_succ]))
  refine TxtBL.call (f := 22) (args := #[.pointer (some ⟨p, 0, none⟩), .int .i64 12]) (fun v => ∃ d : Int, v = .int .i64 d ∧ 0 ≤ d ∧ d ≤ 11) (fun _ w' => ∃ b y, Mid G p (.slice A40 k40 c40) (.slice A7 y7.length c7) (.slice A8 x8.length c8) b y w' (.slice A44 k44 c44)) (by rfl) (by rfl) ⟨_, 0, rfl, by omega, by omega⟩ (fun w1 hS1 hJ1 => by go_simp) (fun w1 hS1 hJ1 => ?_) ?_
  · refine (n_any p 12 w1 hS1.1.src (by omega) (by omega)).mono ?_
    rintro e w' ⟨d, rfl, hd1, hd2, hs, hg⟩
    obtain ⟨b, y, hM⟩ := hJ1
    exact ⟨_, rfl, ⟨hS1.1.grown hs hg, hS1.2.1.grown hg, hS1.2.2.grown hg⟩, ⟨d, rfl, hd1, by omega⟩, b, y, hM.grown hg⟩
  rintro v46 ⟨d, rfl, hd1, hd2⟩
  simp only [Act.put, List.setIfInBounds_toArray, List.set_cons_zero, List.set_cons_succ]
  have hwr : IntKind.i64.wrap (d - 2) = d - 2 := by rw [IntKind.wrap_i64]; omega
  repeat (first
    | (refine TxtBL.skip (by rfl) ?_; simp only [Act.put, List.setIfInBounds_toArray, List.set_cons_zero, List.set_cons_succ])
    | (refine TxtBL.take (by rfl) (by rfl) ?_; apply Exists.intro; refine ⟨fun w1 hS1 => ?_, ?_⟩; (focus (have g0 := hS1.1.c0; have g1 := hS1.1.c1; go_simp; with_reducible rfl)); simp only [Act.put, List.setIfInBounds_toArray, List.set_cons_zero, List.set_cons_succ])
    | (refine TxtBL.takeE (by rfl) (by rfl) ?_; apply Exists.intro; refine ⟨fun w1 hS1 => ?_, ?_⟩; (focus (have g0 := hS1.1.c0; have g1 := hS1.1.c1; go_simp; with_reducible rfl)); simp only [Act.put, List.setIfInBounds_toArray, List.set_cons_zero, List.set_cons_succ]))
  refine TxtBL.value (fun v => ∃ g, v = Value.slice (some ⟨g, 0, none⟩) 1 1) (fun v w' => ∃ b y, Mid G p (.slice A40 k40 c40) (.slice A7 y7.length c7) (.slice A8 x8.length c8) b y w' (.slice A44 k44 c44) ∧ ∃ g, v = Value.slice (some ⟨g, 0, none⟩) 1 1 ∧ RI w' (some ⟨g, 0, none⟩) [d - 2]) (by rfl) (by rfl) ⟨_, 0, rfl⟩ (fun w1 hS1 hJ1 => ?_) ?_
  · obtain ⟨b, y, hM⟩ := hJ1
    refine ⟨.slice (some ⟨w1.heap.size, 0, none⟩) 1 1, w1.alloc (.cells #[.int .i64 (d - 2)] 3), by go_simp, ?_, ⟨_, rfl⟩, b, y, hM.below (newB _ _), _, rfl, new_ri1 _ _ _⟩
    exact ⟨hS1.1.below (newB _ _), hS1.2.1.below (newB _ _), hS1.2.2.below (newB _ _)⟩
  rintro v48 ⟨g48, rfl⟩
  simp only [Act.put, List.setIfInBounds_toArray, List.set_cons_zero, List.set_cons_succ]
  repeat (first
    | (refine TxtBL.skip (by rfl) ?_; simp only [Act.put, List.setIfInBounds_toArray, List.set_cons_zero, List.set_cons_succ])
    | (refine TxtBL.take (by rfl) (by rfl) ?_; apply Exists.intro; refine ⟨fun w1 hS1 => ?_, ?_⟩; (focus (have g0 := hS1.1.c0; have g1 := hS1.1.c1; go_simp; with_reducible rfl)); simp only [Act.put, List.setIfInBounds_toArray, List.set_cons_zero, List.set_cons_succ])
    | (refine TxtBL.takeE (by rfl) (by rfl) ?_; apply Exists.intro; refine ⟨fun w1 hS1 => ?_, ?_⟩; (focus (have g0 := hS1.1.c0; have g1 := hS1.1.c1; go_simp; with_reducible rfl)); simp only [Act.put, List.setIfInBounds_toArray, List.set_cons_zero, List.set_cons_succ]))
  refine TxtBL.eff (fun v => ∃ A k c, v = Value.slice A k c) (fun v w' => AnyO p w' (.slice A40 k40 c40) ∧ AnyO p w' v) (by rfl) (by rfl) hsh (fun w1 hS1 hJ1 => ?_) ?_
  · obtain ⟨b, y, ⟨h1, h2, h3, h4, h5, h6, h7, h8⟩, g', hg', hri⟩ := hJ1
    injection hg' with hg' _ _; injection hg' with hg'; injection hg' with hg' _ _; subst hg'
    refine eff_appIs (.tmp 44) (.tmp 48) (by rfl) w1 b _ y _ [d - 2] 1 h1 hri (fun e => by cases e) (by rfl) (by rfl) (by simp; omega) h3 fun v' w' hown' hb hg => ?_
    have ha := AnyO.own hown' (by simp; omega) h4
    exact ⟨⟨hS1.1.append h1 hg hb h5, (h7.append h1 hg).o, (h8.append h1 hg).o⟩, ha.shape, (h6.append h1 hg).o, ha⟩
  rintro v49 ⟨A49, k49, c49, rfl⟩
  simp only [Act.put, List.setIfInBounds_toArray, List.set_cons_zero, List.set_cons_succ]
  repeat (first
    | (refine TxtBL.skip (by rfl) ?_; simp only [Act.put, List.setIfInBounds_toArray, List.set_cons_zero, List.set_cons_succ])
    | (refine TxtBL.take (by rfl) (by rfl) ?_; apply Exists.intro; refine ⟨fun w1 hS1 => ?_, ?_⟩; (focus (have g0 := hS1.1.c0; have g1 := hS1.1.c1; go_simp; with_reducible rfl)); simp only [Act.put, List.setIfInBounds_toArray, List.set_cons_zero, List.set_cons_succ])
    | (refine TxtBL.takeE (by rfl) (by rfl) ?_; apply Exists.intro; refine ⟨fun w1 hS1 => ?_, ?_⟩; (focus (have g0 := hS1.1.c0; have g1 := hS1.1.c1; go_simp; with_reducible rfl)); simp only [Act.put, List.setIfInBounds_toArray, List.set_cons_zero, List.set_cons_succ]))
  refine TxtBL.value (fun v => ∃ g, v = Value.slice (some ⟨g, 0, none⟩) 6 6) (fun v w' => AnyO p w' (.slice A40 k40 c40) ∧ AnyO p w' (.slice A49 k49 c49) ∧ ∃ g, v = Value.slice (some ⟨g, 0, none⟩) 6 6 ∧ Blk w' g 22 #[.slice R raw.length rc, .slice A7 y7.length c7, .slice A8 x8.length c8, .slice A40 k40 c40, .slice A49 k49 c49, .slice none 0 0]) (by rfl) (by rfl) ⟨_, 0, rfl⟩ (fun w1 hS1 hJ1 => ?_) ?_
  · refine ⟨.slice (some ⟨w1.heap.size, 0, none⟩) 6 6, w1.alloc (.cells #[.slice R raw.length rc, .slice A7 y7.length c7, .slice A8 x8.length c8, .slice A40 k40 c40, .slice A49 k49 c49, .slice none 0 0] 22), by go_simp, ?_, ⟨_, rfl⟩, hJ1.1.below (newB _ _), hJ1.2.below (newB _ _), _, rfl, Blk.new _ _ _⟩
    exact ⟨hS1.1.below (newB _ _), hS1.2.1.below (newB _ _), hS1.2.2.below (newB _ _)⟩
  rintro v50 ⟨g, rfl⟩
  simp only [Act.put, List.setIfInBounds_toArray, List.set_cons_zero, List.set_cons_succ]
  repeat (first
    | (refine TxtBL.skip (by rfl) ?_; simp only [Act.put, List.setIfInBounds_toArray, List.set_cons_zero, List.set_cons_succ])
    | (refine TxtBL.take (by rfl) (by rfl) ?_; apply Exists.intro; refine ⟨fun w1 hS1 => ?_, ?_⟩; (focus (have g0 := hS1.1.c0; have g1 := hS1.1.c1; go_simp; with_reducible rfl)); simp only [Act.put, List.setIfInBounds_toArray, List.set_cons_zero, List.set_cons_succ])
    | (refine TxtBL.takeE (by rfl) (by rfl) ?_; apply Exists.intro; refine ⟨fun w1 hS1 => ?_, ?_⟩; (focus (have g0 := hS1.1.c0; have g1 := hS1.1.c1; go_simp; with_reducible rfl)); simp only [Act.put, List.setIfInBounds_toArray, List.set_cons_zero, List.set_cons_succ]))
  refine TxtBL.nil (fun B hS hJ => ?_)
  obtain ⟨hJ1, hJ2, g', hg', hblk⟩ := hJ
  injection hg' with hg' _ _; injection hg' with hg'; injection hg' with hg' _ _; subst hg'
  have hraw := hany.below hS.1.hb
  have hTB := hT.below hS.1.hb
  have hel : ∀ j, j < 6 → ∃ v, B.cell? ⟨g, j, none⟩ = some v ∧ AnyO p B v := fun j hj => by
    rw [hblk.cell]
    match j, hj with
    | 0, _ => exact ⟨_, rfl, hraw⟩
    | 1, _ => exact ⟨_, rfl, hS.2.1⟩
    | 2, _ => exact ⟨_, rfl, hS.2.2⟩
    | 3, _ => exact ⟨_, rfl, hJ1⟩
    | 4, _ => exact ⟨_, rfl, hJ2⟩
    | 5, _ => exact ⟨_, rfl, AnyO.nil _ _⟩
  obtain ⟨d0, d1⟩ : _ ∧ _ := ⟨hS.1.c0, hS.1.c1⟩
  have hrB := hS.1.rp
  have hBw := hS.1.hb
  clear hS hJ1 hJ2 hblk hst4 ha7' ha8' hsh hwr
  go_wp2_with fail
  go_loopw [52] (fun i wr => ∃ k : Nat, k ≤ 6 ∧ i = .int .i64 k ∧ Below B.heap.size B wr) (fun i _ => 6 - (intOf i).toNat)
  case atStart => exact ⟨0, Nat.zero_le _, rfl, Below.refl _ _⟩
  case round =>
    obtain ⟨k, hk, rfl, hbl⟩ := hrel
    by_cases hlt : k < 6
    case neg =>
      go_wp2_with fail
      refine (awake_any wr (hTB.below hbl)).mono ?_
      rintro e w9 ⟨rfl, hb9⟩
      go_wp2_with fail
      go_ret
      exact ⟨rfl, hBw.trans ((endB hbl hb9).mono hBw.size)⟩
    case pos =>
    obtain ⟨v, hcv, hav⟩ := hel k hlt
    obtain ⟨XA, x, xc, rfl, hxr, hxl, hxn, _⟩ := hav
    have hk0 : (0 : Int) ≤ (k : Int) := by omega
    have hk1 : (k : Int) < 6 := by omega
    obtain ⟨W1, hW1⟩ : ∃ W1, W1 = wr := ⟨_, rfl⟩
    subst hW1
    have e0 := (hbl.cell (lt_of_cell d0)).trans d0
    have e1 := (hbl.cell (lt_of_cell d1)).trans d1
    have e2 := (hbl.cell (lt_of_cell hcv)).trans hcv
    have hr1 := hrB.below hbl
    have hx1 := hxr.below hbl
    have hT1 := hTB.below hbl
    have Hxn := Lib.hid hxn; clear hxn
    go_wp2_with fail
    refine (aGrow_any _ n l _ _ x _ W1 hr1 hvR hx1 hxl hT1).mono ?_
    rintro e w5 ⟨ga, gac, rfl, _, hra, _, hb5⟩
    have f0 := (hb5.cell (lt_of_cell e0)).trans e0
    have f1 := (hb5.cell (lt_of_cell e1)).trans e1
    go_wp2_with fail
    refine (r13Grow_any _ n l _ _ x _ w5 (hr1.below hb5) hvR Hgl.out (hx1.below hb5) hxl Hxn.out).mono ?_
    rintro e w6 ⟨gb, gbc, rfl, _, hrb, _, hb6⟩
    have f2 := (hb6.cell (lt_of_cell f0)).trans f0
    have f3 := (hb6.cell (lt_of_cell f1)).trans f1
    have hb56 := thenB hb5 hb6
    go_wp2_with fail
    refine (aShrink_any _ n l _ _ x _ w6 (hr1.below hb56) hvR (hx1.below hb56) hxl (hT1.below hb56)).mono ?_
    rintro e w7 ⟨gc, gcc, rfl, _, hrc', _, hb7⟩
    have f4 := (hb7.cell (lt_of_cell f2)).trans f2
    have f5 := (hb7.cell (lt_of_cell f3)).trans f3
    have hb57 := thenB hb56 hb7
    go_wp2_with fail
    refine (r13Shrink_any _ n l _ _ x _ w7 (hr1.below hb57) hvR Hgl.out (hx1.below hb57) hxl Hxn.out).mono ?_
    rintro e w8 ⟨gd, gdc, rfl, _, hrd, _, hb8⟩
    have hb58 := thenB hb57 hb8
    have hla : (growL n l x).1.length ≤ 100000 := by unfold growL; split; (· split; (· have := nodesB_length n (growN n l (maskN x)).testBit; simp only; omega); (· simp)); (· simp)
    have hlc' : (shrinkL n l x).1.length ≤ 100000 := by unfold shrinkL; split; (· split; (· have := nodesB_length n (shrinkN n l (maskN x)).testBit; simp only; omega); (· simp)); (· simp)
    generalize (growL n l x).1 = ya at *
    generalize (growL n l x).2 = ea at *
    generalize (shrinkL n l x).1 = yc at *
    generalize (shrinkL n l x).2 = ec at *
    go_wp2_with fail
    have H9 := ints_any ga gb ya ya gac gbc w8 (by omega) (by omega) (hra.below (thenB hb6 (thenB hb7 hb8))) (hrb.below (thenB hb7 hb8))
    rw [(eqB_iff _ _).2 rfl] at H9
    refine H9.mono ?_
    clear H9
    rintro e w9 hq
    obtain ⟨rfl, hb9⟩ := hq.below
    go_wp2_with fail
    have H9 := ints_any gc gd yc yc gcc gdc w9 (by omega) (by omega) (hrc'.below (thenB hb8 hb9)) (hrd.below hb9)
    rw [(eqB_iff _ _).2 rfl] at H9
    refine H9.mono ?_
    clear H9
    rintro e w10 hq2
    obtain ⟨rfl, hb10⟩ := hq2.below
    go_wp2_with fail
    go_roundw
    case rel => exact ⟨k + 1, by omega, by go_num, endB hbl (thenB hb58 (thenB hb9 hb10))⟩
    case measure => simp [intOf]; omega
end Go.Proofs.YtplbnhfkndegaaaDoor
