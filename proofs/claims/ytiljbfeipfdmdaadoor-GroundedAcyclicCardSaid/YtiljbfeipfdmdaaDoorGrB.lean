/- graph: Validate, proper. -/
import Derived.Test.YtiljbfeipfdmdaaDoorGrA
import Derived.Test.YtiljbfeipfdmdaaDoorAdm
namespace Go.Proofs.YtiljbfeipfdmdaaDoor
open Go.ChangeShapes Go.WideShapes Go.ChangeAt Go.RowKit

theorem cmpP_neg {p q : Int × Int} : cmpP p q < 0 ↔ ltP p q := by
  unfold cmpP orI ltP
  by_cases h1 : p.1 < q.1
  · rw [cmpI_lt h1]; simp; omega
  · by_cases h2 : q.1 < p.1
    · rw [cmpI_gt h2]; simp; omega
    · rw [cmpI_eq (show p.1 = q.1 by omega), if_pos rfl]
      by_cases h3 : p.2 < q.2
      · rw [cmpI_lt h3]; simp; omega
      · by_cases h4 : q.2 < p.2
        · rw [cmpI_gt h4]; simp; omega
        · rw [cmpI_eq (show p.2 = q.2 by omega)]; simp; omega

set_option maxRecDepth 100000 in
set_option maxHeartbeats 4000000 in
theorem gValidate_any (A : Option Addr) (N : Int) (l : List (Int × Int)) (c : Nat) (w : World) (hr : RP w A l) (hlen : l.length ≤ 100000) :
    Calls Tryd.prog 77 #[.agg #[.int .i64 N, .slice A l.length c]] w (RetB (.int .i64 (valE N l)) w) := by
  by_cases hN1 : N < 0
  · go_enter Tryd.func77, Tryd.ntmps77
    go_wp2
    go_ret
    exact ⟨ri (by simp [valE, hN1]), (Below.refl _ _).alloc (Nat.le_refl _) _⟩
  have hN1' : 0 ≤ N := by omega
  clear hN1
  by_cases hN2 : 40 < N
  · go_enter Tryd.func77, Tryd.ntmps77
    go_wp2
    go_ret
    exact ⟨ri (by simp [valE, hN2]), (Below.refl _ _).alloc (Nat.le_refl _) _⟩
  have hN2' : N ≤ 40 := by omega
  clear hN2
  have hval : valE N l = scanV N none l := by unfold valE; rw [if_neg (by omega)]
  have Hval := Lib.hid hval; clear hval
  go_enter Tryd.func77, Tryd.ntmps77
  go_wp2_with fail
  obtain ⟨WG, hW, c0, c1, hb0, hlt0⟩ := boxed w 27 (.int .i64 N) (.slice A l.length c)
  rw [hW]
  have hr0 := hr.below hb0
  clear hW hr
  go_loopw [16] (fun i wr => ∃ k : Nat, k ≤ l.length ∧ i = .int .i64 k ∧ scanV N (prevO l k) (l.drop k) = scanV N none l ∧ Below WG.heap.size WG wr) (fun i _ => l.length - (intOf i).toNat)
  case atStart => exact ⟨0, by omega, rfl, rfl, Below.refl _ _⟩
  case round =>
    obtain ⟨k, hk, rfl, hsc, hbl⟩ := hrel
    have Hsc := Lib.hid hsc; clear hsc
    have d0 := (hbl.cell (lt_of_cell c0)).trans c0
    have d1 := (hbl.cell (lt_of_cell c1)).trans c1
    by_cases hlt : k < l.length
    case neg =>
      go_wp2
      go_ret
      refine ⟨ri ?_, endB hb0 hbl⟩
      rw [Hval.out, ← Hsc.out, List.drop_of_length_le (by omega)]
      cases prevO l k <;> rfl
    case pos =>
    obtain ⟨b, o, rfl, hc, hd⟩ := (hr0.below hbl).at_ hlt
    have hle := leB hb0 hbl
    have hltw : w.heap.size < wr.heap.size := Nat.lt_of_lt_of_le hlt0 hbl.size
    have hend : ∀ o : Obj, Below w.heap.size w (wr.alloc o) := fun o => (endB hb0 hbl).alloc hle o
    by_cases hok : okP N l[k]
    case neg =>
      have hb := scanV_bad hlt hok
      have Hb := Lib.hid hb; clear hb
      by_cases hm : l[k].2 < l[k].1
      · by_cases t1 : l[k].2 < 0
        · have t1x : ¬ 0 ≤ l[k].2 := by omega
          go_wp2
          go_ret
          exact ⟨ri (by rw [Hval.out, ← Hsc.out, Hb.out]), hend _⟩
        · have t2 : N ≤ l[k].1 := by unfold okP at hok; omega
          have t1' : 0 ≤ l[k].2 := by omega
          have t3 : ¬ l[k].1 < l[k].2 := by omega
          clear t1 hok
          go_wp2
          go_ret
          exact ⟨ri (by rw [Hval.out, ← Hsc.out, Hb.out]), hend _⟩
      · have hm' : l[k].1 ≤ l[k].2 := by omega
        by_cases t1 : l[k].1 < 0
        · clear hm
          go_wp2
          go_ret
          exact ⟨ri (by rw [Hval.out, ← Hsc.out, Hb.out]), hend _⟩
        · have t2 : N ≤ l[k].2 := by unfold okP at hok; omega
          have t1' : 0 ≤ l[k].1 := by omega
          clear t1 hok hm
          by_cases t3 : l[k].1 < l[k].2
          · go_wp2
            go_ret
            exact ⟨ri (by rw [Hval.out, ← Hsc.out, Hb.out]), hend _⟩
          · have t4 : N ≤ l[k].1 := by omega
            go_wp2
            go_ret
            exact ⟨ri (by rw [Hval.out, ← Hsc.out, Hb.out]), hend _⟩
    case pos =>
    have Hok := Lib.hid hok
    obtain ⟨t1', t2', t3', t4'⟩ : 0 ≤ l[k].1 ∧ l[k].1 < N ∧ 0 ≤ l[k].2 ∧ l[k].2 < N := hok
    obtain ⟨W0, hW, e0, e1, hbW, hltW⟩ := boxed wr 46 (.int .i64 l[k].1) (.int .i64 l[k].2)
    have f0 := (hbW.cell (lt_of_cell d0)).trans d0
    have f1 := (hbW.cell (lt_of_cell d1)).trans d1
    have hendW := (endB hb0 hbl).trans (hbW.mono hle)
    have hblW : Below WG.heap.size WG W0 := hbl.trans (hbW.mono hbl.size)
    have hmin : decide ((if l[k].2 < l[k].1 then l[k].2 else l[k].1) < 0) = false := by rw [decide_eq_false_iff_not]; split <;> omega
    have hmax : decide (N ≤ (if l[k].1 < l[k].2 then l[k].2 else l[k].1)) = false := by rw [decide_eq_false_iff_not]; split <;> omega
    by_cases hk0 : k = 0
    · have hg : decide ((0 : Int) < (k : Int)) = false := by simp; omega
      have hgn : decide (0 < k) = false := by simp; omega
      have Hk0 := Lib.hid hk0; clear hk0
      go_wp2_with fail
      all_goals
        clear hW
        refine wp_region_text (S := fun w' => Below W0.heap.size W0 w') (by kernel_rfl) (by kernel_rfl) (Below.refl _ _).drew ?_
        repeat (first
          | (refine TxtL.skip (by rfl) ?_; simp only [Act.put, List.setIfInBounds_toArray, List.set_cons_zero, List.set_cons_succ])
          | (refine TxtL.take' (by rfl) ?_; apply Exists.intro; refine ⟨fun w1 hS1 => ?_, ?_⟩; (focus ((have g0 := (hS1.cell (lt_of_cell e0)).trans e0); (have g1 := (hS1.cell (lt_of_cell e1)).trans e1); (have g2 := (hS1.cell (lt_of_cell f1)).trans f1); go_simp; with_reducible rfl)); simp only [Act.put, List.setIfInBounds_toArray, List.set_cons_zero, List.set_cons_succ]))
        refine TxtL.nil (fun w1 hS1 => ?_)
        go_wp2
        go_roundw
        case rel => exact ⟨k + 1, by omega, by go_num, by rw [← scanV_first Hk0.out hlt Hok.out]; exact Hsc.out, hblW.trans (hS1.mono hblW.size)⟩
        case measure => simp [intOf]; omega
    · obtain ⟨j, hj⟩ : ∃ j, k = j + 1 := ⟨k - 1, by omega⟩
      subst hj
      clear hk0
      have hjl : j < l.length := by omega
      obtain ⟨b', o', hA, hc', hd'⟩ := (hr0.below hblW).at_ hjl
      injection hA with hA
      injection hA with hb ho
      subst hb ho
      have hpos : decide ((0 : Int) < (j : Int) + 1) = true := decide_eq_true (by omega)
      have hi0 : (0 : Int) ≤ (j : Int) := by omega
      have hi1 : (j : Int) < (l.length : Int) := by omega
      have hself := int_self (j := j) (by omega)
      have hsub : IntKind.i64.wrap ((j : Int) + 1 - 1) = j := by rw [Int.add_sub_cancel]; exact hself
      have hcmp : decide ((0 : Int) ≤ cmpP l[j] l[j + 1]) = !decide (ltP l[j] l[j + 1]) := by
        rw [Bool.eq_iff_iff]; simp [← cmpP_neg]
      cases hdl : decide (ltP l[j] l[j + 1])
      all_goals
        rw [hdl] at hcmp
        have Hd := Lib.hid hdl; clear hdl
        have Hcmp := Lib.hid hcmp; clear hcmp
        go_wp2_with fail
        all_goals
          clear hW
          refine wp_region_textB [10] (fun w' => Below W0.heap.size W0 w') (fun _ => True) (by kernel_rfl) (by kernel_rfl) (by kernel_rfl) (Below.refl _ _).drew trivial ?_
          repeat (first
            | (refine TxtBL.skip (by rfl) ?_; simp only [Act.put, List.setIfInBounds_toArray, List.set_cons_zero, List.set_cons_succ])
            | (refine TxtBL.take (by rfl) (by rfl) ?_; apply Exists.intro; refine ⟨fun w1 hS1 => ?_, ?_⟩; (focus ((have g0 := (hS1.cell (lt_of_cell e0)).trans e0); (have g1 := (hS1.cell (lt_of_cell e1)).trans e1); (have g2 := (hS1.cell (lt_of_cell f1)).trans f1); (have g3 := (hS1.cell (lt_of_cell hc')).trans hc'); (have g4 := (hS1.cell (lt_of_cell hd')).trans hd'); go_simp; with_reducible rfl)); simp only [Act.put, List.setIfInBounds_toArray, List.set_cons_zero, List.set_cons_succ])
            | (refine TxtBL.takeE (by rfl) (by rfl) ?_; apply Exists.intro; refine ⟨fun w1 hS1 => ?_, ?_⟩; (focus ((have g0 := (hS1.cell (lt_of_cell e0)).trans e0); (have g1 := (hS1.cell (lt_of_cell e1)).trans e1); (have g2 := (hS1.cell (lt_of_cell f1)).trans f1); (have g3 := (hS1.cell (lt_of_cell hc')).trans hc'); (have g4 := (hS1.cell (lt_of_cell hd')).trans hd'); go_simp; with_reducible rfl)); simp only [Act.put, List.setIfInBounds_toArray, List.set_cons_zero, List.set_cons_succ]))
          refine TxtBL.call (f := 72) (args := #[.agg #[.int .i64 l[j].1, .int .i64 l[j].2], .agg #[.int .i64 l[j + 1].1, .int .i64 l[j + 1].2]]) (fun v => v = .int .i64 (cmpP l[j] l[j + 1])) (fun _ _ => True) (by rfl) (by rfl) ⟨_, rfl⟩ (fun w1 hS1 hJ1 => by go_simp) (fun w1 hS1 hJ1 => ?_) ?_
          · refine (compare_any _ _ w1).mono ?_
            intro e w' hh
            obtain ⟨rfl, hb⟩ := hh.below
            exact ⟨_, rfl, hS1.trans (hb.mono hS1.size), rfl, trivial⟩
          rintro v rfl
          simp only [Act.put, List.setIfInBounds_toArray, List.set_cons_zero, List.set_cons_succ]
          have hcmp := Hcmp.out
          repeat (first
            | (refine TxtBL.skip (by rfl) ?_; simp only [Act.put, List.setIfInBounds_toArray, List.set_cons_zero, List.set_cons_succ])
            | (refine TxtBL.take (by rfl) (by rfl) ?_; apply Exists.intro; refine ⟨fun w1 hS1 => ?_, ?_⟩; (focus (skip; go_simp; with_reducible rfl)); simp only [Act.put, List.setIfInBounds_toArray, List.set_cons_zero, List.set_cons_succ])
            | (refine TxtBL.takeE (by rfl) (by rfl) ?_; apply Exists.intro; refine ⟨fun w1 hS1 => ?_, ?_⟩; (focus (skip; go_simp; with_reducible rfl)); simp only [Act.put, List.setIfInBounds_toArray, List.set_cons_zero, List.set_cons_succ]))
          refine TxtBL.nil (fun B hS hJ => ?_)
          clear hcmp
          go_wp2
          first
            | (go_ret
               exact ⟨ri (by rw [Hval.out, ← Hsc.out, scanV_order hlt Hok.out (of_decide_eq_false Hd.out)]), hendW.trans (hS.mono (Nat.le_trans hle hbW.size))⟩)
            | (go_roundw
               case rel => exact ⟨j + 1 + 1, by omega, by go_num, by rw [← scanV_next hlt Hok.out (of_decide_eq_true Hd.out)]; exact Hsc.out, hblW.trans (hS.mono hblW.size)⟩
               case measure => simp [intOf]; omega)

set_option maxHeartbeats 1000000 in
theorem proper_any (A : Option Addr) (N : Int) (l : List (Int × Int)) (c : Nat) (w : World) (hr : RP w A l) (hlen : l.length ≤ 100000) :
    Calls Tryd.prog 70 #[.agg #[.int .i64 N, .slice A l.length c]] w (RetGA A (nGn N l) (nGl N l) w) := by
  go_enter Tryd.func70, Tryd.ntmps70
  go_wp2_with fail
  obtain ⟨W0, hW, k0, k1, hb0, hlt0⟩ := boxed2 w 27 27 (.int .i64 N) (.slice A l.length c) (.int .i64 0) (.slice none 0 0)
  rw [hW]
  have hr0 := hr.below hb0
  have hltA : ∀ b o, A = some ⟨b, o, none⟩ → 0 < l.length → b ≠ w.heap.size + 1 := fun b o hA hl => by have := hr.lt hA hl; omega
  clear hW hr
  refine (gValidate_any _ _ _ _ _ hr0 hlen).mono ?_
  rintro e w1 ⟨rfl, hb⟩
  have j0 := k0.below hb k0.lt
  have j1 := k1.below hb k1.lt
  have hr1 := hr0.below hb
  obtain ⟨a0, a1, a2, a3⟩ := j0.two
  obtain ⟨b0, b1, b2, b3⟩ := j1.two
  have hB1 := Nat.le_of_lt hlt0
  have hend : ∀ x y : Value, Below w.heap.size w ((w1.setCell ⟨w.heap.size + 1, 0, none⟩ x).setCell ⟨w.heap.size + 1, 1, none⟩ y) := fun x y =>
    ((endB hb0 hb).setCell (p := ⟨w.heap.size + 1, 0, none⟩) (by simp) x).setCell (p := ⟨w.heap.size + 1, 1, none⟩) (by simp) y
  clear k0 k1
  by_cases hv : valE N l = 0
  · have hd : (valE N l != 0) = false := by simp [hv]
    have Hv := Lib.hid hv; clear hv
    go_wp2_with fail
    have j2 : Blk _ (w.heap.size + 1) 27 #[.int .i64 N, .slice A l.length c] := (j1.set_ 0 (.int .i64 N)).set_ 1 (.slice A l.length c)
    have hr2 : RP _ A l := hr1.far2 hltA (.int .i64 N) (.slice A l.length c)
    have hE := hend (.int .i64 N) (.slice A l.length c)
    generalize (w1.setCell ⟨w.heap.size + 1, 0, none⟩ (.int .i64 N)).setCell ⟨w.heap.size + 1, 1, none⟩ (.slice A l.length c) = W2 at j2 hr2 hE ⊢
    obtain ⟨e0, e1, _, _⟩ := j2.two
    refine bodyPost_ret (v := .agg #[.int .i64 N, .slice A l.length c]) (by simp [results, Tryd.results70, go_sem, e0, e1]) rfl ?_
    simp only [nGn, nGl, if_pos Hv.out]
    exact ⟨A, c, rfl, hr2, .inl rfl, hE⟩
  · have hd : (valE N l != 0) = true := by simp [hv]
    have Hv := Lib.hid hv; clear hv
    go_wp2_with fail
    have j2 : Blk _ (w.heap.size + 1) 27 #[.int .i64 0, .slice none 0 0] := (j1.set_ 0 (.int .i64 0)).set_ 1 (.slice none 0 0)
    have hE := hend (.int .i64 0) (.slice none 0 0)
    generalize (w1.setCell ⟨w.heap.size + 1, 0, none⟩ (.int .i64 0)).setCell ⟨w.heap.size + 1, 1, none⟩ (.slice none 0 0) = W2 at j2 hE ⊢
    obtain ⟨e0, e1, _, _⟩ := j2.two
    refine bodyPost_ret (v := .agg #[.int .i64 0, .slice none 0 0]) (by simp [results, Tryd.results70, go_sem, e0, e1]) rfl ?_
    simp only [nGn, nGl, if_neg Hv.out]
    exact ⟨none, 0, rfl, RP.nil _ _, .inr rfl, hE⟩
end Go.Proofs.YtiljbfeipfdmdaaDoor
