/- The walk of the statement LabellingSets. -/
import Derived.Test.YtiljbfeipfdmdaaDoorLb
import Derived.Test.YtiljbfeipfdmdaaDoorTxtE
namespace Go.Proofs.YtiljbfeipfdmdaaDoor
open Go.ChangeShapes Go.WideShapes Go.ChangeAt Go.RowKit

theorem anyO_arg {p : Nat} {w : World} {R : Option Addr} {raw : List Int} {rc : Nat} (hraw : RI w R raw) (hl : raw.length ≤ 100000) (hrn : R = none → raw = [] ∧ rc = 0) (hp : w.heap.size ≤ p) : AnyO p w (.slice R raw.length rc) :=
  ⟨R, raw, rc, rfl, hraw, hl, hrn, fun b o h hne e => by
    obtain ⟨b', o', hA, hcc⟩ := hraw 0 (List.length_pos_iff.2 hne)
    rw [h] at hA
    injection hA with hA
    injection hA with hA
    subst hA
    have := lt_of_cell hcc
    simp at this; omega⟩

set_option maxRecDepth 100000 in
set_option maxHeartbeats 8000000 in
theorem lsets_law_any (R : Option Addr) (raw : List Int) (rc : Nat) (Z : Option Addr) (set : List Int) (zc : Nat) (lab : Int) (A : Option Addr) (arg : List Int) (c : Nat) (w : World)
    (hrl : raw.length ≤ 9223372036854775807) (hraw : RI w R raw) (hrn : R = none → raw = [] ∧ rc = 0) (hzl : set.length ≤ 9223372036854775807) (hset : RI w Z set) (hzn : Z = none → set = [] ∧ zc = 0)
    (hlc : arg.length ≤ c) (hc : c ≤ 9223372036854775807) (hr : RI w A arg) (hx : ∀ x ∈ arg, -9223372036854775808 ≤ x ∧ x ≤ 9223372036854775807) (hT : Tab w) :
    Calls Tryd.prog 5 #[.slice R raw.length rc, .slice Z set.length zc, .int .i64 lab, .slice A arg.length c] w (RetB (.bool true) w) := by
  by_cases h60 : 60 < raw.length
  · have hd : decide ((60 : Int) < (raw.length : Int)) = true := by rw [decide_eq_true_eq]; omega
    have H60 := Lib.hid h60; clear h60
    go_enter Tryd.func5, Tryd.ntmps5
    go_wp2_with fail
    go_ret
    exact ⟨rfl, Below.refl _ _⟩
  have hd : decide ((60 : Int) < (raw.length : Int)) = false := by rw [decide_eq_false_iff_not]; omega
  have hrl2 : raw.length ≤ 100000 := by omega
  clear h60 hrl
  by_cases h60 : 60 < set.length
  · have hd2 : decide ((60 : Int) < (set.length : Int)) = true := by rw [decide_eq_true_eq]; omega
    have H60 := Lib.hid h60; clear h60
    go_enter Tryd.func5, Tryd.ntmps5
    go_wp2_with fail
    go_ret
    exact ⟨rfl, Below.refl _ _⟩
  have hd2 : decide ((60 : Int) < (set.length : Int)) = false := by rw [decide_eq_false_iff_not]; omega
  have hzl2 : set.length ≤ 100000 := by omega
  clear h60 hzl
  go_enter Tryd.func5, Tryd.ntmps5
  go_wp2_with fail
  refine (new_any A arg c w hlc hc hr hx).mono ?_
  rintro e w1 ⟨p, rfl, hp, hs1, hb1⟩
  have hany : AnyO p w (.slice R raw.length rc) := anyO_arg hraw hrl2 hrn hp
  have hanz : AnyO p w (.slice Z set.length zc) := anyO_arg hset hzl2 hzn hp
  have hp1 := hs1.lt
  clear hr hx hd hd2 hraw hrn hset hzn
  go_wp2_with fail
  refine (graph_any p 8 w1 hs1 (by omega)).mono ?_
  rintro e w2 ⟨n, l, AL, cl, rfl, hN, hv, hrp, hloc, hs2, hg2⟩
  have hb2 : Below w.heap.size w w2 := hb1.trans (below_of_grownBy hg2 hp hb1.size)
  clear hs1 hb1 hg2
  go_wp2_with fail
  obtain ⟨W0, hW, c0, c1, hb0, hlt0⟩ := boxed w2 27 (.int .i64 n) (.slice AL l.length cl)
  rw [hW]
  clear hW
  have hst := GSt.start hp hp1 hb2 hs2 hrp hloc hb0 c0 c1
  have hn40 := hv.1.1; have hlen := hv.1.2.1
  have HV := Lib.hid hv
  clear hs2 hrp hloc hb0 c0 c1 hb2 hp1 hv
  generalize w2.heap.size = G at *
  have L8 := labels_any p 8 W0 hst.src (by omega)
  refine L8.mono ?_
  clear L8
  rintro e w3 ⟨x, v1, rfl, ho1, hlx, hs3, hg3⟩
  have hpW : p < W0.heap.size := hst.src.lt
  have hst3 := hst.grown hs3 hg3
  have hxl := (labB_iff.1 hlx).1
  have ha3 : AnyO p w3 v1 := AnyO.own ho1 (by omega) hpW
  have haR := hany.below hst3.hb
  obtain ⟨A3, k3, c3, rfl⟩ := ha3.shape
  clear hg3 hs3 hlx ho1 hst
  obtain ⟨B, hB, hblk, hbB⟩ : ∃ B, w3.alloc (.cells #[.slice R raw.length rc, .slice A3 k3 c3] 22) = B ∧ Blk B w3.heap.size 22 #[.slice R raw.length rc, .slice A3 k3 c3] ∧ Below w3.heap.size w3 B := ⟨_, rfl, Blk.new _ _ _, newB _ _⟩
  have hstB := hst3.below hbB
  have hel : ∀ j, j < 2 → ∃ v, B.cell? ⟨w3.heap.size, j, none⟩ = some v ∧ AnyO p B v := fun j hj => by
    rw [hblk.cell]
    match j, hj with
    | 0, _ => exact ⟨_, rfl, haR.below hbB⟩
    | 1, _ => exact ⟨_, rfl, ha3.below hbB⟩
  have hWB : W0.heap.size ≤ B.heap.size ∨ True := .inr trivial
  have hGB : G < B.heap.size := lt_of_cell hstB.c0
  clear hblk hbB ha3 haR hst3 hWB
  go_wp2_with fail
  clear hB
  go_loopw [34] (fun i wr => ∃ k : Nat, k ≤ 2 ∧ i = .int .i64 k ∧ Below B.heap.size B wr) (fun i _ => 2 - (intOf i).toNat)
  case atStart => exact ⟨0, Nat.zero_le _, rfl, Below.refl _ _⟩
  case round =>
    obtain ⟨k, hk, rfl, hbl⟩ := hrel
    by_cases hlt : k < 2
    case pos =>
      obtain ⟨v, hcv, hav⟩ := hel k hlt
      obtain ⟨XA, y, yc, rfl, hyr, hyl, _, _⟩ := hav
      have hk0 : (0 : Int) ≤ (k : Int) := by omega
      have hk1 : (k : Int) < 2 := by omega
      have e2 := (hbl.cell (lt_of_cell hcv)).trans hcv
      have hy1 := hyr.below hbl
      obtain ⟨B2, hB2, hblk2, hbB2⟩ : ∃ B2, wr.alloc (.cells #[.int .i64 lab, .int .i64 1, .int .i64 2, .int .i64 3] 3) = B2 ∧ Blk B2 wr.heap.size 3 #[.int .i64 lab, .int .i64 1, .int .i64 2, .int .i64 3] ∧ Below wr.heap.size wr B2 := ⟨_, rfl, Blk.new _ _ _, newB _ _⟩
      have hel2 : ∀ j, j < 4 → ∃ z, B2.cell? ⟨wr.heap.size, j, none⟩ = some (.int .i64 z) := fun j hj => by
        rw [hblk2.cell]
        match j, hj with
        | 0, _ => exact ⟨_, rfl⟩
        | 1, _ => exact ⟨_, rfl⟩
        | 2, _ => exact ⟨_, rfl⟩
        | 3, _ => exact ⟨_, rfl⟩
      have hbl2 := endB hbl hbB2
      have hy2 := hy1.below hbB2
      clear hblk2 hbB2 hcv hyr hy1
      go_wp2_with fail
      clear hB2 e2
      go_loopw [41] (fun i wr => ∃ j : Nat, j ≤ 4 ∧ i = .int .i64 j ∧ Below B2.heap.size B2 wr) (fun i _ => 4 - (intOf i).toNat)
      case atStart => exact ⟨0, Nat.zero_le _, rfl, Below.refl _ _⟩
      case round =>
        obtain ⟨j, hj, rfl, hbj⟩ := hrel
        by_cases hj4 : j < 4
        case neg =>
          go_wp2_with fail
          go_roundw
          case rel => exact ⟨k + 1, by omega, by go_num, endB hbl2 hbj⟩
          case measure => simp [intOf]; omega
        case pos =>
        obtain ⟨z, hcz⟩ := hel2 j hj4
        have hj0 : (0 : Int) ≤ (j : Int) := by omega
        have hj1 : (j : Int) < 4 := by omega
        obtain ⟨W1, hW1⟩ : ∃ W1, W1 = wr := ⟨_, rfl⟩
        subst hW1
        have e3 := (hbj.cell (lt_of_cell hcz)).trans hcz
        have hy3 := hy2.below hbj
        have hwl : (withL y z).length ≤ 100000 := by have := nodesB_length y.length (fun i => y.getD i 0 == z); unfold withL; omega
        go_wp2_with fail
        refine (with_any XA y yc z W1 hy3 hyl).mono ?_
        rintro e W2 ⟨A2, c2, rfl, _, hri2, _, hb2⟩
        go_wp2_with fail
        refine (r11With_any XA y yc z W2 (hy3.below hb2) hyl).mono ?_
        rintro e W3 ⟨A3', c3', rfl, _, hri3, _, hb3⟩
        go_wp2_with fail
        have H9 := ints_any A2 A3' (withL y z) (withL y z) c2 c3' W3 (by omega) (by omega) (hri2.below hb3) hri3
        rw [(eqB_iff _ _).2 rfl] at H9
        refine H9.mono ?_
        clear H9
        rintro e W4 hh
        obtain ⟨rfl, hb4⟩ := hh.below
        clear hh e3
        have hbj2 := endB (endB (endB hbj hb2) hb3) hb4
        go_wp2_with fail
        go_roundw
        case rel => exact ⟨j + 1, by omega, by go_num, hbj2⟩
        case measure => simp [intOf]; omega
    case neg =>
    obtain ⟨W0', hW0'⟩ : ∃ W0', W0' = wr := ⟨_, rfl⟩
    subst hW0'
    have hstw := hstB.below hbl
    obtain rfl : k = 2 := by omega
    clear hel hstB hk hlt
    obtain ⟨c0, c1⟩ : _ ∧ _ := ⟨hstw.c0, hstw.c1⟩
    have hGw : G < W0'.heap.size := lt_of_cell c0
    have hpw : p < W0'.heap.size := hstw.src.lt
    go_wp2_with fail
    refine wp_region_textB [4, 8, 10, 11, 12, 13, 14] (fun w' => GSt w p G n l AL cl w' ∧ W0'.heap.size ≤ w'.heap.size) (fun _ => True) (by kernel_rfl) (by kernel_rfl) (by kernel_rfl) ⟨hstw.below (Below.refl _ _).drew, Nat.le_refl _⟩ trivial ?_
    repeat (first
      | (refine TxtBL.skip (by rfl) ?_; simp only [Act.put, List.setIfInBounds_toArray, List.set_cons_zero, List.set_cons_succ])
      | (refine TxtBL.take (by rfl) (by rfl) ?_; apply Exists.intro; refine ⟨fun w1 hS1 => ?_, ?_⟩; (focus ((have g0 := hS1.1.c0); (have g1 := hS1.1.c1); go_simp; with_reducible rfl)); simp only [Act.put, List.setIfInBounds_toArray, List.set_cons_zero, List.set_cons_succ])
      | (refine TxtBL.takeE (by rfl) (by rfl) ?_; apply Exists.intro; refine ⟨fun w1 hS1 => ?_, ?_⟩; (focus ((have g0 := hS1.1.c0); (have g1 := hS1.1.c1); go_simp; with_reducible rfl)); simp only [Act.put, List.setIfInBounds_toArray, List.set_cons_zero, List.set_cons_succ]))
    refine TxtBL.call (f := 31) (args := #[.pointer (some ⟨p, 0, none⟩), .int .i64 n]) (fun v => ∃ A k c, v = Value.slice A k c) (fun v w' => AnyO p w' v) (by rfl) (by rfl) ⟨_, none, 0, 0, rfl⟩ (fun w1 hS1 hJ1 => by go_simp) (fun w1 hS1 hJ1 => ?_) ?_
    · refine (part_any p n w1 hS1.1.src (by omega)).mono ?_
      intro e w' hh
      obtain ⟨v, rfl, ha, hs, hg⟩ := hh.any hn40 hS1.1.src.lt
      exact ⟨v, rfl, ⟨hS1.1.grown hs hg, Nat.le_trans hS1.2 hg.size⟩, ha.shape, ha⟩
    rintro v59 ⟨A59, k59, c59, rfl⟩
    simp only [Act.put, List.setIfInBounds_toArray, List.set_cons_zero, List.set_cons_succ]
    repeat (first
      | (refine TxtBL.skip (by rfl) ?_; simp only [Act.put, List.setIfInBounds_toArray, List.set_cons_zero, List.set_cons_succ])
      | (refine TxtBL.take (by rfl) (by rfl) ?_; apply Exists.intro; refine ⟨fun w1 hS1 => ?_, ?_⟩; (focus ((have g0 := hS1.1.c0); (have g1 := hS1.1.c1); go_simp; with_reducible rfl)); simp only [Act.put, List.setIfInBounds_toArray, List.set_cons_zero, List.set_cons_succ])
      | (refine TxtBL.takeE (by rfl) (by rfl) ?_; apply Exists.intro; refine ⟨fun w1 hS1 => ?_, ?_⟩; (focus ((have g0 := hS1.1.c0); (have g1 := hS1.1.c1); go_simp; with_reducible rfl)); simp only [Act.put, List.setIfInBounds_toArray, List.set_cons_zero, List.set_cons_succ]))
    refine TxtBL.call (f := 31) (args := #[.pointer (some ⟨p, 0, none⟩), .int .i64 n]) (fun v => ∃ A k c, v = Value.slice A k c) (fun v w' => ∃ (B63 : Nat) (s : List Int), OwnI w' B63 v s ∧ s.length ≤ 40 ∧ p < B63 ∧ G < B63 ∧ B63 ≤ w'.heap.size ∧ AnyB B63 p w' (.slice A59 k59 c59)) (by rfl) (by rfl) ⟨_, none, 0, 0, rfl⟩ (fun w1 hS1 hJ1 => by go_simp) (fun w1 hS1 hJ1 => ?_) ?_
    · refine (part_any p n w1 hS1.1.src (by omega)).mono ?_
      rintro e w' ⟨f, v, rfl, ho, hs, hg⟩
      obtain ⟨A', c', e', _, _⟩ := ho.form
      exact ⟨v, rfl, ⟨hS1.1.grown hs hg, Nat.le_trans hS1.2 hg.size⟩, ⟨A', _, c', e'⟩, w1.heap.size, _, ho, by have := nodesB_length n f; omega, hS1.1.src.lt, by have := hS1.2; omega, hg.size, hJ1.low.grown hg⟩
    rintro v63 ⟨A63, k63, c63, rfl⟩
    simp only [Act.put, List.setIfInBounds_toArray, List.set_cons_zero, List.set_cons_succ]
    repeat (first
      | (refine TxtBL.skip (by rfl) ?_; simp only [Act.put, List.setIfInBounds_toArray, List.set_cons_zero, List.set_cons_succ])
      | (refine TxtBL.take (by rfl) (by rfl) ?_; apply Exists.intro; refine ⟨fun w1 hS1 => ?_, ?_⟩; (focus (skip; go_simp; with_reducible rfl)); simp only [Act.put, List.setIfInBounds_toArray, List.set_cons_zero, List.set_cons_succ])
      | (refine TxtBL.takeE (by rfl) (by rfl) ?_; apply Exists.intro; refine ⟨fun w1 hS1 => ?_, ?_⟩; (focus (skip; go_simp; with_reducible rfl)); simp only [Act.put, List.setIfInBounds_toArray, List.set_cons_zero, List.set_cons_succ]))
    refine TxtBL.call (f := 18) (args := #[.pointer (some ⟨p, 0, none⟩), .int .i64 12]) (fun v => ∃ d : Int, v = Value.int .i64 d ∧ 0 ≤ d ∧ d ≤ 11) (fun _ w' => ∃ (B63 : Nat) (s : List Int), OwnI w' B63 (.slice A63 k63 c63) s ∧ s.length ≤ 40 ∧ p < B63 ∧ G < B63 ∧ B63 ≤ w'.heap.size ∧ AnyB B63 p w' (.slice A59 k59 c59)) (by rfl) (by rfl) ⟨_, 0, rfl, by omega, by omega⟩ (fun w1 hS1 hJ1 => by go_simp) (fun w1 hS1 hJ1 => ?_) ?_
    · refine (n_any p 12 w1 hS1.1.src (by omega) (by omega)).mono ?_
      rintro e w' ⟨d, rfl, hd1, hd2, hs, hg⟩
      obtain ⟨B63, s, h1, h2, h3, h4, h5, h6⟩ := hJ1
      exact ⟨_, rfl, ⟨hS1.1.grown hs hg, Nat.le_trans hS1.2 hg.size⟩, ⟨d, rfl, hd1, by omega⟩, B63, s, ownsRow_far h1 hg h3, h2, h3, h4, Nat.le_trans h5 hg.size, h6.grown hg⟩
    rintro v65 ⟨d, rfl, hd1, hd2⟩
    have hwr : IntKind.i64.wrap (d - 2) = d - 2 := by rw [IntKind.wrap_i64]; omega
    simp only [Act.put, List.setIfInBounds_toArray, List.set_cons_zero, List.set_cons_succ]
    repeat (first
      | (refine TxtBL.skip (by rfl) ?_; simp only [Act.put, List.setIfInBounds_toArray, List.set_cons_zero, List.set_cons_succ])
      | (refine TxtBL.take (by rfl) (by rfl) ?_; apply Exists.intro; refine ⟨fun w1 hS1 => ?_, ?_⟩; (focus (skip; go_simp; with_reducible rfl)); simp only [Act.put, List.setIfInBounds_toArray, List.set_cons_zero, List.set_cons_succ])
      | (refine TxtBL.takeE (by rfl) (by rfl) ?_; apply Exists.intro; refine ⟨fun w1 hS1 => ?_, ?_⟩; (focus (skip; go_simp; with_reducible rfl)); simp only [Act.put, List.setIfInBounds_toArray, List.set_cons_zero, List.set_cons_succ]))
    clear hwr
    refine TxtBL.value (fun v => ∃ g, v = Value.slice (some ⟨g, 0, none⟩) 1 1) (fun v w' => ∃ X, w' = X.alloc (.cells #[.int .i64 (d - 2)] 3) ∧ v = Value.slice (some ⟨X.heap.size, 0, none⟩) 1 1 ∧ (GSt w p G n l AL cl X ∧ W0'.heap.size ≤ X.heap.size) ∧ ∃ (B63 : Nat) (s : List Int), OwnI X B63 (.slice A63 k63 c63) s ∧ s.length ≤ 40 ∧ p < B63 ∧ G < B63 ∧ B63 ≤ X.heap.size ∧ AnyB B63 p X (.slice A59 k59 c59)) (by rfl) (by rfl) ⟨_, 0, rfl⟩ (fun w1 hS1 hJ1 => ?_) ?_
    · exact ⟨.slice (some ⟨w1.heap.size, 0, none⟩) 1 1, w1.alloc (.cells #[.int .i64 (d - 2)] 3), by go_simp, ⟨hS1.1.below (newB _ _), Nat.le_trans hS1.2 (newB w1 (.cells #[.int .i64 (d - 2)] 3)).size⟩, ⟨_, rfl⟩, w1, rfl, rfl, hS1, hJ1⟩
    rintro v67 ⟨g67, rfl⟩
    simp only [Act.put, List.setIfInBounds_toArray, List.set_cons_zero, List.set_cons_succ]
    refine TxtBL.eff (fun v => ∃ A k c, v = Value.slice A k c) (fun v w' => AnyO p w' (.slice A59 k59 c59) ∧ AnyO p w' v) (by rfl) (by rfl) ⟨_, none, 0, 0, rfl⟩ (fun w1 hS1 hJ1 => Eff.of_list (ops := #[]) (by rfl) ?_) ?_
    · obtain ⟨X, rfl, hA, hSX, B63, s, h1, h2, h3, h4, h5, h6⟩ := hJ1
      refine wpList_appI (by rfl) _ _ (by rfl) X B63 (.slice A63 k63 c63) s (d - 2) h1 (by rfl) (by exact hA) (by omega) h5 ?_
      intro v' w' ho' hb' hg'
      have hX : GSt w p G n l AL cl w' := hSX.1.append h1 hg' hb' h4
      have hv' : AnyO p w' v' := AnyO.own ho' (by rw [List.length_append]; simp; omega) h3
      exact ⟨rfl, v', rfl, ⟨hX, Nat.le_trans hSX.2 (Nat.le_trans (by simp) hg'.size)⟩, hv'.shape, (h6.below hb').any, hv'⟩
    rintro v68 ⟨A68, k68, c68, rfl⟩
    simp only [Act.put, List.setIfInBounds_toArray, List.set_cons_zero, List.set_cons_succ]
    refine TxtBL.value (fun v => ∃ g, v = Value.slice (some ⟨g, 0, none⟩) 3 3) (fun v w' => AnyO p w' (.slice A59 k59 c59) ∧ AnyO p w' (.slice A68 k68 c68) ∧ ∃ g, v = Value.slice (some ⟨g, 0, none⟩) 3 3 ∧ Blk w' g 22 #[.slice Z set.length zc, .slice A59 k59 c59, .slice A68 k68 c68]) (by rfl) (by rfl) ⟨_, 0, rfl⟩ (fun w1 hS1 hJ1 => ?_) ?_
    · exact ⟨.slice (some ⟨w1.heap.size, 0, none⟩) 3 3, w1.alloc (.cells #[.slice Z set.length zc, .slice A59 k59 c59, .slice A68 k68 c68] 22), by go_simp, ⟨hS1.1.below (newB _ _), Nat.le_trans hS1.2 (newB w1 (.cells #[.slice Z set.length zc, .slice A59 k59 c59, .slice A68 k68 c68] 22)).size⟩, ⟨_, rfl⟩, hJ1.1.below (newB _ _), hJ1.2.below (newB _ _), _, rfl, Blk.new _ _ _⟩
    rintro v69 ⟨g, rfl⟩
    simp only [Act.put, List.setIfInBounds_toArray, List.set_cons_zero, List.set_cons_succ]
    repeat (first
      | (refine TxtBL.skip (by rfl) ?_; simp only [Act.put, List.setIfInBounds_toArray, List.set_cons_zero, List.set_cons_succ])
      | (refine TxtBL.take (by rfl) (by rfl) ?_; apply Exists.intro; refine ⟨fun w1 hS1 => ?_, ?_⟩; (focus (skip; go_simp; with_reducible rfl)); simp only [Act.put, List.setIfInBounds_toArray, List.set_cons_zero, List.set_cons_succ])
      | (refine TxtBL.takeE (by rfl) (by rfl) ?_; apply Exists.intro; refine ⟨fun w1 hS1 => ?_, ?_⟩; (focus (skip; go_simp; with_reducible rfl)); simp only [Act.put, List.setIfInBounds_toArray, List.set_cons_zero, List.set_cons_succ]))
    refine TxtBL.nil (fun B3 hS hJ => ?_)
    obtain ⟨hJ1, hJ2, g', hg', hblk⟩ := hJ
    injection hg' with hg' _ _; injection hg' with hg'; injection hg' with hg' _ _; subst hg'
    have hZ := hanz.below hS.1.hb
    have hTB := hT.below hS.1.hb
    have hel : ∀ j, j < 3 → ∃ v, B3.cell? ⟨g, j, none⟩ = some v ∧ AnyO p B3 v := fun j hj => by
      rw [hblk.cell]
      match j, hj with
      | 0, _ => exact ⟨_, rfl, hZ⟩
      | 1, _ => exact ⟨_, rfl, hJ1⟩
      | 2, _ => exact ⟨_, rfl, hJ2⟩
    obtain ⟨d0, d1⟩ : _ ∧ _ := ⟨hS.1.c0, hS.1.c1⟩
    have hrB := hS.1.rp
    have hBw := hS.1.hb
    clear hS hJ1 hJ2 hblk c0 c1 hstw hbl hZ hany hanz hT
    go_wp2_with fail
    go_loopw [71] (fun i wr => ∃ k : Nat, k ≤ 3 ∧ i = .int .i64 k ∧ Below B3.heap.size B3 wr) (fun i _ => 3 - (intOf i).toNat)
    case atStart => exact ⟨0, Nat.zero_le _, rfl, Below.refl _ _⟩
    case round =>
      obtain ⟨k, hk, rfl, hbl⟩ := hrel
      by_cases hlt : k < 3
      case neg =>
        go_wp2_with fail
        refine (awake11_any wr (hTB.below hbl)).mono ?_
        rintro e w9 ⟨rfl, hb9⟩
        go_wp2_with fail
        go_ret
        exact ⟨rfl, hBw.trans ((endB hbl hb9).mono hBw.size)⟩
      case pos =>
      obtain ⟨v, hcv, hav⟩ := hel k hlt
      obtain ⟨XA, y, yc, rfl, hyr, hyl, _, _⟩ := hav
      have hk0 : (0 : Int) ≤ (k : Int) := by omega
      have hk1 : (k : Int) < 3 := by omega
      obtain ⟨W1, hW1⟩ : ∃ W1, W1 = wr := ⟨_, rfl⟩
      subst hW1
      have e0 := (hbl.cell (lt_of_cell d0)).trans d0
      have e1 := (hbl.cell (lt_of_cell d1)).trans d1
      have e2 := (hbl.cell (lt_of_cell hcv)).trans hcv
      have hr1 := hrB.below hbl
      have hx1 := hyr.below hbl
      have hfl : (fromL n l y).length ≤ 100000 := by have := (labB_iff.1 (fromL_lab n l y)).1; omega
      go_wp2_with fail
      refine wp_region_textB [2, 5, 6] (SB W1) (RIs []) (by kernel_rfl) (by kernel_rfl) (by kernel_rfl) (Below.refl _ _).drew (RIs.nil _) ?_
      repeat (first
        | (refine TxtBL.skip (by rfl) ?_; simp only [Act.put, List.setIfInBounds_toArray, List.set_cons_zero, List.set_cons_succ])
        | (refine TxtBL.take (by rfl) (by rfl) ?_; apply Exists.intro; refine ⟨fun w1 hS1 => ?_, ?_⟩; (focus ((have g0 := (hS1.cell (lt_of_cell e0)).trans e0); (have g1 := (hS1.cell (lt_of_cell e1)).trans e1); go_simp; with_reducible rfl)); simp only [Act.put, List.setIfInBounds_toArray, List.set_cons_zero, List.set_cons_succ])
        | (refine TxtBL.takeE (by rfl) (by rfl) ?_; apply Exists.intro; refine ⟨fun w1 hS1 => ?_, ?_⟩; (focus ((have g0 := (hS1.cell (lt_of_cell e0)).trans e0); (have g1 := (hS1.cell (lt_of_cell e1)).trans e1); go_simp; with_reducible rfl)); simp only [Act.put, List.setIfInBounds_toArray, List.set_cons_zero, List.set_cons_succ]))
      refine TxtBL.callI (by rfl) (by rfl) ?_
      apply Exists.intro; apply Exists.intro
      refine ⟨fun w1 hS1 => ?_, ?_⟩
      focus (go_simp; first | with_reducible rfl | exact ⟨rfl, rfl⟩)
      refine ⟨fromL n l y, fun w1 hS1 hJ1 => ?_, fun A91 c91 => ?_⟩
      · exact lFromSet_any _ n l _ _ y _ _ (hr1.below hS1) HV.out (hx1.below hS1) hyl
      simp only [Act.put, List.setIfInBounds_toArray, List.set_cons_zero, List.set_cons_succ]
      repeat (first
        | (refine TxtBL.skip (by rfl) ?_; simp only [Act.put, List.setIfInBounds_toArray, List.set_cons_zero, List.set_cons_succ])
        | (refine TxtBL.take (by rfl) (by rfl) ?_; apply Exists.intro; refine ⟨fun w1 hS1 => ?_, ?_⟩; (focus ((have g0 := (hS1.cell (lt_of_cell e0)).trans e0); (have g1 := (hS1.cell (lt_of_cell e1)).trans e1); go_simp; with_reducible rfl)); simp only [Act.put, List.setIfInBounds_toArray, List.set_cons_zero, List.set_cons_succ])
        | (refine TxtBL.takeE (by rfl) (by rfl) ?_; apply Exists.intro; refine ⟨fun w1 hS1 => ?_, ?_⟩; (focus ((have g0 := (hS1.cell (lt_of_cell e0)).trans e0); (have g1 := (hS1.cell (lt_of_cell e1)).trans e1); go_simp; with_reducible rfl)); simp only [Act.put, List.setIfInBounds_toArray, List.set_cons_zero, List.set_cons_succ]))
      refine TxtBL.callI (by rfl) (by rfl) ?_
      apply Exists.intro; apply Exists.intro
      refine ⟨fun w1 hS1 => ?_, ?_⟩
      focus (go_simp; first | with_reducible rfl | exact ⟨rfl, rfl⟩)
      refine ⟨fromL n l y, fun w1 hS1 hJ1 => ?_, fun A92 c92 => ?_⟩
      · exact r11FromSet_any _ n l _ _ y _ _ (hr1.below hS1) HV.out (hx1.below hS1) hyl
      simp only [Act.put, List.setIfInBounds_toArray, List.set_cons_zero, List.set_cons_succ]
      repeat (first
        | (refine TxtBL.skip (by rfl) ?_; simp only [Act.put, List.setIfInBounds_toArray, List.set_cons_zero, List.set_cons_succ])
        | (refine TxtBL.take (by rfl) (by rfl) ?_; apply Exists.intro; refine ⟨fun w1 hS1 => ?_, ?_⟩; (focus (skip; go_simp; with_reducible rfl)); simp only [Act.put, List.setIfInBounds_toArray, List.set_cons_zero, List.set_cons_succ])
        | (refine TxtBL.takeE (by rfl) (by rfl) ?_; apply Exists.intro; refine ⟨fun w1 hS1 => ?_, ?_⟩; (focus (skip; go_simp; with_reducible rfl)); simp only [Act.put, List.setIfInBounds_toArray, List.set_cons_zero, List.set_cons_succ]))
      refine TxtBL.callB (by rfl) (by rfl) ?_
      apply Exists.intro; apply Exists.intro
      refine ⟨fun w1 hS1 => ?_, ?_⟩
      focus (go_simp; first | with_reducible rfl | exact ⟨rfl, rfl⟩)
      refine ⟨.bool true, fun w1 hS1 hJ1 => ?_, ?_⟩
      · have H9 := ints_any A91 A92 (fromL n l y) (fromL n l y) c91 c92 w1 (by omega) (by omega) hJ1.tail.head hJ1.head
        rw [(eqB_iff _ _).2 rfl] at H9
        exact H9.mono fun e w' h => h.below
      simp only [Act.put, List.setIfInBounds_toArray, List.set_cons_zero, List.set_cons_succ]
      repeat (first
        | (refine TxtBL.skip (by rfl) ?_; simp only [Act.put, List.setIfInBounds_toArray, List.set_cons_zero, List.set_cons_succ])
        | (refine TxtBL.take (by rfl) (by rfl) ?_; apply Exists.intro; refine ⟨fun w1 hS1 => ?_, ?_⟩; (focus (skip; go_simp; with_reducible rfl)); simp only [Act.put, List.setIfInBounds_toArray, List.set_cons_zero, List.set_cons_succ])
        | (refine TxtBL.takeE (by rfl) (by rfl) ?_; apply Exists.intro; refine ⟨fun w1 hS1 => ?_, ?_⟩; (focus (skip; go_simp; with_reducible rfl)); simp only [Act.put, List.setIfInBounds_toArray, List.set_cons_zero, List.set_cons_succ]))
      refine TxtBL.nil (fun W2 hS2 _ => ?_)
      have hbl2 := endB hbl hS2
      clear e0 e1 e2 hr1 hx1
      go_wp2_with fail
      go_roundw
      case rel => exact ⟨k + 1, by omega, by go_num, hbl2⟩
      case measure => simp [intOf]; omega
end Go.Proofs.YtiljbfeipfdmdaaDoor
