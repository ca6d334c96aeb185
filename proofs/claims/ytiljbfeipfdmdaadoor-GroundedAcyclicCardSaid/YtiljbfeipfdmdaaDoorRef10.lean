/- The reference of layer 10: Validate, at any graph. -/
import Derived.Test.YtiljbfeipfdmdaaDoorAdm
import Derived.Test.YtiljbfeipfdmdaaDoorOwn
import Derived.Test.YtiljbfeipfdmdaaDoorTxt
namespace Go.Proofs.YtiljbfeipfdmdaaDoor
open Go.ChangeShapes Go.WideShapes Go.ChangeAt Go.RowKit

def okP (N : Int) (p : Int × Int) : Prop := 0 ≤ p.1 ∧ p.1 < N ∧ 0 ≤ p.2 ∧ p.2 < N
instance (N : Int) (p : Int × Int) : Decidable (okP N p) := by unfold okP; infer_instance
def ltP (p q : Int × Int) : Prop := p.1 < q.1 ∨ (p.1 = q.1 ∧ p.2 < q.2)
instance (p q : Int × Int) : Decidable (ltP p q) := by unfold ltP; infer_instance
def scanV (N : Int) : Option (Int × Int) → List (Int × Int) → Int
  | _, [] => 0
  | none, p :: r => if okP N p then scanV N (some p) r else 1
  | some q, p :: r => if okP N p then if ltP q p then scanV N (some p) r else 8 else 1
/-- what Validate returns -/
def valE (N : Int) (l : List (Int × Int)) : Int := if N < 0 ∨ 40 < N then 1 else scanV N none l
def prevO (l : List (Int × Int)) : Nat → Option (Int × Int)
  | 0 => none
  | j + 1 => l[j]?
theorem scanV_bad {N : Int} {l : List (Int × Int)} {k : Nat} (h : k < l.length) (ho : ¬ okP N l[k]) : scanV N (prevO l k) (l.drop k) = 1 := by
  rw [List.drop_eq_getElem_cons h]
  cases prevO l k <;> simp [scanV, ho]
theorem scanV_first {N : Int} {l : List (Int × Int)} {k : Nat} (hk : k = 0) (h : k < l.length) (ho : okP N l[k]) : scanV N (prevO l k) (l.drop k) = scanV N (prevO l (k + 1)) (l.drop (k + 1)) := by
  subst hk
  rw [List.drop_eq_getElem_cons h]
  simp only [prevO, scanV, if_pos ho, List.getElem?_eq_getElem h]
theorem scanV_next {N : Int} {l : List (Int × Int)} {j : Nat} (h : j + 1 < l.length) (ho : okP N l[j + 1]) (hlt : ltP (l[j]'(by omega)) l[j + 1]) : scanV N (prevO l (j + 1)) (l.drop (j + 1)) = scanV N (prevO l (j + 1 + 1)) (l.drop (j + 1 + 1)) := by
  rw [List.drop_eq_getElem_cons h]
  simp only [prevO, List.getElem?_eq_getElem h, List.getElem?_eq_getElem (show j < l.length by omega), scanV, if_pos ho, if_pos hlt]
theorem scanV_order {N : Int} {l : List (Int × Int)} {j : Nat} (h : j + 1 < l.length) (ho : okP N l[j + 1]) (hlt : ¬ ltP (l[j]'(by omega)) l[j + 1]) : scanV N (prevO l (j + 1)) (l.drop (j + 1)) = 8 := by
  rw [List.drop_eq_getElem_cons h]
  simp only [prevO, List.getElem?_eq_getElem (show j < l.length by omega), scanV, if_pos ho, if_neg hlt]

theorem int_self {j : Nat} (h : j ≤ 1000000) : IntKind.i64.wrap (j : Int) = j := IntWalk.i64_in _ (by omega)

set_option maxRecDepth 100000 in
set_option maxHeartbeats 4000000 in
theorem r10Validate_any (A : Option Addr) (N : Int) (l : List (Int × Int)) (c : Nat) (w : World) (hr : RP w A l) (hlen : l.length ≤ 100000) :
    Calls Tryd.prog 79 #[.agg #[.int .i64 N, .slice A l.length c]] w (RetB (.int .i64 (valE N l)) w) := by
  by_cases hN1 : N < 0
  · go_enter Tryd.func79, Tryd.ntmps79
    go_wp2
    go_ret
    exact ⟨ri (by simp [valE, hN1]), (Below.refl _ _).alloc (Nat.le_refl _) _⟩
  have hN1' : 0 ≤ N := by omega
  clear hN1
  by_cases hN2 : 40 < N
  · go_enter Tryd.func79, Tryd.ntmps79
    go_wp2
    go_ret
    exact ⟨ri (by simp [valE, hN2]), (Below.refl _ _).alloc (Nat.le_refl _) _⟩
  have hN2' : N ≤ 40 := by omega
  clear hN2
  have hval : valE N l = scanV N none l := by unfold valE; rw [if_neg (by omega)]
  have Hval := Lib.hid hval; clear hval
  go_enter Tryd.func79, Tryd.ntmps79
  go_wp2_with fail
  obtain ⟨WG, hW, c0, c1, hb0, hlt0⟩ := boxed w 27 (.int .i64 N) (.slice A l.length c)
  rw [hW]
  have hr0 := hr.below hb0
  clear hW hr
  go_loopw [3] (fun i wr => ∃ k : Nat, k ≤ l.length ∧ i = .int .i64 k ∧ scanV N (prevO l k) (l.drop k) = scanV N none l ∧ Below WG.heap.size WG wr) (fun i _ => l.length - (intOf i).toNat)
  case atStart => exact ⟨0, by omega, rfl, rfl, Below.refl _ _⟩
  case round =>
    obtain ⟨k, hk, rfl, hsc, hbl⟩ := hrel
    have Hsc := Lib.hid hsc; clear hsc
    have d0 := (hbl.cell (lt_of_cell c0)).trans c0
    have d1 := (hbl.cell (lt_of_cell c1)).trans c1
    by_cases hlt : k < l.length
    case neg =>
      go_wp2
      go_ret
      refine ⟨ri ?_, endB hb0 hbl⟩
      rw [Hval.out, ← Hsc.out, List.drop_of_length_le (by omega)]
      cases prevO l k <;> rfl
    case pos =>
    obtain ⟨b, o, rfl, hc, hd⟩ := (hr0.below hbl).at_ hlt
    have hle := leB hb0 hbl
    have hltw : w.heap.size < wr.heap.size := Nat.lt_of_lt_of_le hlt0 hbl.size
    have hend : ∀ o : Obj, Below w.heap.size w (wr.alloc o) := fun o => (endB hb0 hbl).alloc hle o
    by_cases t1 : l[k].1 < 0
    · go_wp2
      go_ret
      exact ⟨ri (by rw [Hval.out, ← Hsc.out, scanV_bad hlt (by unfold okP; omega)]), hend _⟩
    have t1' : 0 ≤ l[k].1 := by omega
    clear t1
    by_cases t2 : N ≤ l[k].1
    · go_wp2
      go_ret
      exact ⟨ri (by rw [Hval.out, ← Hsc.out, scanV_bad hlt (by unfold okP; omega)]), hend _⟩
    have t2' : l[k].1 < N := by omega
    clear t2
    by_cases t3 : l[k].2 < 0
    · go_wp2
      go_ret
      exact ⟨ri (by rw [Hval.out, ← Hsc.out, scanV_bad hlt (by unfold okP; omega)]), hend _⟩
    have t3' : 0 ≤ l[k].2 := by omega
    clear t3
    by_cases t4 : N ≤ l[k].2
    · go_wp2
      go_ret
      exact ⟨ri (by rw [Hval.out, ← Hsc.out, scanV_bad hlt (by unfold okP; omega)]), hend _⟩
    have t4' : l[k].2 < N := by omega
    clear t4
    have hok : okP N l[k] := ⟨t1', t2', t3', t4'⟩
    have Hok := Lib.hid hok; clear hok
    obtain ⟨W0, hW, e0, e1, hbW, hltW⟩ := boxed wr 46 (.int .i64 l[k].1) (.int .i64 l[k].2)
    have f0 := (hbW.cell (lt_of_cell d0)).trans d0
    have f1 := (hbW.cell (lt_of_cell d1)).trans d1
    have hendW := (endB hb0 hbl).trans (hbW.mono hle)
    have hblW : Below WG.heap.size WG W0 := hbl.trans (hbW.mono hbl.size)
    by_cases hk0 : k = 0
    · have hg : decide ((0 : Int) < (k : Int)) = false := by simp; omega
      have hgn : decide (0 < k) = false := by simp; omega
      have Hk0 := Lib.hid hk0; clear hk0
      go_wp2_with fail
      clear hW
      refine wp_region_text (S := fun w' => Below W0.heap.size W0 w') (by kernel_rfl) (by kernel_rfl) (Below.refl _ _).drew ?_
      repeat (first
        | (refine TxtL.skip (by rfl) ?_; simp only [Act.put, List.setIfInBounds_toArray, List.set_cons_zero, List.set_cons_succ])
        | (refine TxtL.take' (by rfl) ?_; apply Exists.intro; refine ⟨fun w1 hS1 => ?_, ?_⟩; (focus ((have g0 := (hS1.cell (lt_of_cell e0)).trans e0); (have g1 := (hS1.cell (lt_of_cell e1)).trans e1); (have g2 := (hS1.cell (lt_of_cell f1)).trans f1); go_simp; with_reducible rfl)); simp only [Act.put, List.setIfInBounds_toArray, List.set_cons_zero, List.set_cons_succ]))
      refine TxtL.nil (fun w1 hS1 => ?_)
      go_wp2
      go_roundw
      case rel => exact ⟨k + 1, by omega, by go_num, by rw [← scanV_first Hk0.out hlt Hok.out]; exact Hsc.out, hblW.trans (hS1.mono hblW.size)⟩
      case measure => simp [intOf]; omega
    · obtain ⟨j, hj⟩ : ∃ j, k = j + 1 := ⟨k - 1, by omega⟩
      subst hj
      clear hk0
      have hjl : j < l.length := by omega
      obtain ⟨b', o', hA, hc', hd'⟩ := (hr0.below hblW).at_ hjl
      injection hA with hA
      injection hA with hb ho
      subst hb ho
      have hpos : decide ((0 : Int) < (j : Int) + 1) = true := decide_eq_true (by omega)
      have hi0 : (0 : Int) ≤ (j : Int) := by omega
      have hi1 : (j : Int) < (l.length : Int) := by omega
      have hself := int_self (j := j) (by omega)
      have hsub : IntKind.i64.wrap ((j : Int) + 1 - 1) = j := by rw [Int.add_sub_cancel]; exact hself
      by_cases u1 : l[j + 1].1 < l[j].1
      · have hg1 : decide (l[j + 1].1 < l[j].1) = true := by simpa using u1
        have hnlt : ¬ ltP l[j] l[j + 1] := by unfold ltP; omega
        have Hn := Lib.hid hnlt; clear hnlt
        go_wp2_with fail
        clear hW
        refine wp_region_text (S := fun w' => Below W0.heap.size W0 w') (by kernel_rfl) (by kernel_rfl) (Below.refl _ _).drew ?_
        repeat (first
          | (refine TxtL.skip (by rfl) ?_; simp only [Act.put, List.setIfInBounds_toArray, List.set_cons_zero, List.set_cons_succ])
          | (refine TxtL.take' (by rfl) ?_; apply Exists.intro; refine ⟨fun w1 hS1 => ?_, ?_⟩; (focus ((have g0 := (hS1.cell (lt_of_cell e0)).trans e0); (have g1 := (hS1.cell (lt_of_cell e1)).trans e1); (have g2 := (hS1.cell (lt_of_cell f1)).trans f1); (have g3 := (hS1.cell (lt_of_cell hc')).trans hc'); (have g4 := (hS1.cell (lt_of_cell hd')).trans hd'); go_simp; with_reducible rfl)); simp only [Act.put, List.setIfInBounds_toArray, List.set_cons_zero, List.set_cons_succ]))
        refine TxtL.nil (fun w1 hS1 => ?_)
        go_wp2
        go_ret
        exact ⟨ri (by rw [Hval.out, ← Hsc.out, scanV_order hlt Hok.out Hn.out]), hendW.trans (hS1.mono (Nat.le_trans hle hbW.size))⟩
      have hg1 : decide (l[j + 1].1 < l[j].1) = false := by simpa using u1
      by_cases u2 : l[j].1 = l[j + 1].1
      case neg =>
        have hg2 : (l[j].1 == l[j + 1].1) = false := by simpa using u2
        have hlt' : ltP l[j] l[j + 1] := by unfold ltP; omega
        have Hn := Lib.hid hlt'; clear hlt' u1 u2
        go_wp2_with fail
        clear hW
        refine wp_region_text (S := fun w' => Below W0.heap.size W0 w') (by kernel_rfl) (by kernel_rfl) (Below.refl _ _).drew ?_
        repeat (first
          | (refine TxtL.skip (by rfl) ?_; simp only [Act.put, List.setIfInBounds_toArray, List.set_cons_zero, List.set_cons_succ])
          | (refine TxtL.take' (by rfl) ?_; apply Exists.intro; refine ⟨fun w1 hS1 => ?_, ?_⟩; (focus ((have g0 := (hS1.cell (lt_of_cell e0)).trans e0); (have g1 := (hS1.cell (lt_of_cell e1)).trans e1); (have g2 := (hS1.cell (lt_of_cell f1)).trans f1); (have g3 := (hS1.cell (lt_of_cell hc')).trans hc'); (have g4 := (hS1.cell (lt_of_cell hd')).trans hd'); go_simp; with_reducible rfl)); simp only [Act.put, List.setIfInBounds_toArray, List.set_cons_zero, List.set_cons_succ]))
        refine TxtL.nil (fun w1 hS1 => ?_)
        go_wp2
        go_roundw
        case rel => exact ⟨j + 1 + 1, by omega, by go_num, by rw [← scanV_next hlt Hok.out Hn.out]; exact Hsc.out, hblW.trans (hS1.mono hblW.size)⟩
        case measure => simp [intOf]; omega
      case pos =>
      have hg2 : (l[j].1 == l[j + 1].1) = true := by simpa using u2
      by_cases u3 : l[j + 1].2 ≤ l[j].2
      · have hg3 : decide (l[j + 1].2 ≤ l[j].2) = true := by simpa using u3
        have hnlt : ¬ ltP l[j] l[j + 1] := by unfold ltP; omega
        have Hn := Lib.hid hnlt; clear hnlt u1 u2
        go_wp2_with fail
        clear hW
        refine wp_region_text (S := fun w' => Below W0.heap.size W0 w') (by kernel_rfl) (by kernel_rfl) (Below.refl _ _).drew ?_
        repeat (first
          | (refine TxtL.skip (by rfl) ?_; simp only [Act.put, List.setIfInBounds_toArray, List.set_cons_zero, List.set_cons_succ])
          | (refine TxtL.take' (by rfl) ?_; apply Exists.intro; refine ⟨fun w1 hS1 => ?_, ?_⟩; (focus ((have g0 := (hS1.cell (lt_of_cell e0)).trans e0); (have g1 := (hS1.cell (lt_of_cell e1)).trans e1); (have g2 := (hS1.cell (lt_of_cell f1)).trans f1); (have g3 := (hS1.cell (lt_of_cell hc')).trans hc'); (have g4 := (hS1.cell (lt_of_cell hd')).trans hd'); go_simp; with_reducible rfl)); simp only [Act.put, List.setIfInBounds_toArray, List.set_cons_zero, List.set_cons_succ]))
        refine TxtL.nil (fun w1 hS1 => ?_)
        go_wp2
        go_ret
        exact ⟨ri (by rw [Hval.out, ← Hsc.out, scanV_order hlt Hok.out Hn.out]), hendW.trans (hS1.mono (Nat.le_trans hle hbW.size))⟩
      · have hg3 : decide (l[j + 1].2 ≤ l[j].2) = false := by simpa using u3
        have hlt' : ltP l[j] l[j + 1] := by unfold ltP; omega
        have Hn := Lib.hid hlt'; clear hlt' u1 u2
        go_wp2_with fail
        clear hW
        refine wp_region_text (S := fun w' => Below W0.heap.size W0 w') (by kernel_rfl) (by kernel_rfl) (Below.refl _ _).drew ?_
        repeat (first
          | (refine TxtL.skip (by rfl) ?_; simp only [Act.put, List.setIfInBounds_toArray, List.set_cons_zero, List.set_cons_succ])
          | (refine TxtL.take' (by rfl) ?_; apply Exists.intro; refine ⟨fun w1 hS1 => ?_, ?_⟩; (focus ((have g0 := (hS1.cell (lt_of_cell e0)).trans e0); (have g1 := (hS1.cell (lt_of_cell e1)).trans e1); (have g2 := (hS1.cell (lt_of_cell f1)).trans f1); (have g3 := (hS1.cell (lt_of_cell hc')).trans hc'); (have g4 := (hS1.cell (lt_of_cell hd')).trans hd'); go_simp; with_reducible rfl)); simp only [Act.put, List.setIfInBounds_toArray, List.set_cons_zero, List.set_cons_succ]))
        refine TxtL.nil (fun w1 hS1 => ?_)
        go_wp2
        go_roundw
        case rel => exact ⟨j + 1 + 1, by omega, by go_num, by rw [← scanV_next hlt Hok.out Hn.out]; exact Hsc.out, hblW.trans (hS1.mono hblW.size)⟩
        case measure => simp [intOf]; omega
end Go.Proofs.YtiljbfeipfdmdaaDoor
