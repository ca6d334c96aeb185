import Derived.Test.YtncimnfhfomddaaDoorAdm
import Derived.Test.YtncimnfhfomddaaDoorBas
import Derived.Test.YtncimnfhfomddaaDoorTxtX
/- The reference of layer 10: Validate, at any graph. -/
namespace Go.Proofs.YtncimnfhfomddaaDoor
open Go.ChangeShapes Go.WideShapes Go.ChangeAt Go.RowKit

def okP (N : Int) (p : Int × Int) : Prop := 0 ≤ p.1 ∧ p.1 < N ∧ 0 ≤ p.2 ∧ p.2 < N
instance (N : Int) (p : Int × Int) : Decidable (okP N p) := by unfold okP; infer_instance
def ltP (p q : Int × Int) : Prop := p.1 < q.1 ∨ (p.1 = q.1 ∧ p.2 < q.2)
instance (p q : Int × Int) : Decidable (ltP p q) := by unfold ltP; infer_instance
def scanV (N : Int) : Option (Int × Int) → List (Int × Int) → Int
  | _, [] => 0
  | none, p :: r => if okP N p then scanV N (some p) r else 1
  | some q, p :: r => if okP N p then if ltP q p then scanV N (some p) r else 8 else 1
/-- what Validate returns -/
def valE (N : Int) (l : List (Int × Int)) : Int := if N < 0 ∨ 40 < N then 1 else scanV N none l
def prevO (l : List (Int × Int)) : Nat → Option (Int × Int)
  | 0 => none
  | j + 1 => l[j]?
theorem scanV_bad {N : Int} {l : List (Int × Int)} {k : Nat} (h : k < l.length) (ho : ¬ okP N l[k]) : scanV N (prevO l k) (l.drop k) = 1 := by
  rw [List.drop_eq_getElem_cons h]
  cases prevO l k <;> simp [scanV, ho]
theorem scanV_first {N : Int} {l : List (Int × Int)} {k : Nat} (hk : k = 0) (h : k < l.length) (ho : okP N l[k]) : scanV N (prevO l k) (l.drop k) = scanV N (prevO l (k + 1)) (l.drop (k + 1)) := by
  subst hk
  rw [List.drop_eq_getElem_cons h]
  simp only [prevO, scanV, if_pos ho, List.getElem?_eq_getElem h]
theorem scanV_next {N : Int} {l : List (Int × Int)} {j : Nat} (h : j + 1 < l.length) (ho : okP N l[j + 1]) (hlt : ltP (l[j]'(by omega)) l[j + 1]) : scanV N (prevO l (j + 1)) (l.drop (j + 1)) = scanV N (prevO l (j + 1 + 1)) (l.drop (j + 1 + 1)) := by
  rw [List.drop_eq_getElem_cons h]
  simp only [prevO, List.getElem?_eq_getElem h, List.getElem?_eq_getElem (show j < l.length by omega), scanV, if_pos ho, if_pos hlt]
theorem scanV_order {N : Int} {l : List (Int × Int)} {j : Nat} (h : j + 1 < l.length) (ho : okP N l[j + 1]) (hlt : ¬ ltP (l[j]'(by omega)) l[j + 1]) : scanV N (prevO l (j + 1)) (l.drop (j + 1)) = 8 := by
  rw [List.drop_eq_getElem_cons h]
  simp only [prevO, List.getElem?_eq_getElem (show j < l.length by omega), scanV, if_pos ho, if_neg hlt]

theorem int_self {j : Nat} (h : j ≤ 1000000) : IntKind.i64.wrap (j : Int) = j := IntWalk.i64_in _ (by omega)

set_option maxRecDepth 100000 in
set_option maxHeartbeats 4000000 in
theorem r10Validate_any (A : Option Addr) (N : Int) (l : List (Int × Int)) (c : Nat) (w : World) (hr : RP w A l) (hlen : l.length ≤ 100000) :
    Calls Tryd.prog 58 #[.agg #[.int .i64 N, .slice A l.length c]] w (RetB (.int .i64 (valE N l)) w) := by
  by_cases hN1 : N < 0
  · go_enter Tryd.func58, Tryd.ntmps58
    go_wp2
    go_ret
    exact ⟨ri (by simp [valE, hN1]), (Below.refl _ _).alloc (Nat.le_refl _) _⟩
  have hN1' : 0 ≤ N := by omega
  clear hN1
  by_cases hN2 : 40 < N
  · go_enter Tryd.func58, Tryd.ntmps58
    go_wp2
    go_ret
    exact ⟨ri (by simp [valE, hN2]), (Below.refl _ _).alloc (Nat.le_refl _) _⟩
  have hN2' : N ≤ 40 := by omega
  clear hN2
  have hval : valE N l = scanV N none l := by unfold valE; rw [if_neg (by omega)]
  have Hval := Lib.hid hval; clear hval
  go_enter Tryd.func58, Tryd.ntmps58
  go_wp2_with fail
  obtain ⟨WG, hW, c0, c1, hb0, hlt0⟩ := boxed w 24 (.int .i64 N) (.slice A l.length c)
  rw [hW]
  have hr0 := hr.below hb0
  clear hW hr
  go_loopw [3] (fun i wr => ∃ k : Nat, k ≤ l.length ∧ i = .int .i64 k ∧ scanV N (prevO l k) (l.drop k) = scanV N none l ∧ Below WG.heap.size WG wr) (fun i _ => l.length - (intOf i).toNat)
  case atStart => exact ⟨0, by omega, rfl, rfl, Below.refl _ _⟩
  case round =>
    obtain ⟨k, hk, rfl, hsc, hbl⟩ := hrel
    have Hsc := Lib.hid hsc; clear hsc
    have d0 := (hbl.cell (lt_of_cell c0)).trans c0
    have d1 := (hbl.cell (lt_of_cell c1)).trans c1
    by_cases hlt : k < l.length
    case neg =>
      go_wp2
      go_ret
      refine ⟨ri ?_, endB hb0 hbl⟩
      rw [Hval.out, ← Hsc.out, List.drop_of_length_le (by omega)]
      cases prevO l k <;> rfl
    case pos =>
    obtain ⟨b, o, rfl, hc, hd⟩ := (hr0.below hbl).at_ hlt
    have hle := leB hb0 hbl
    have hltw : w.heap.size < wr.heap.size := Nat.lt_of_lt_of_le hlt0 hbl.size
    have hend : ∀ o : Obj, Below w.heap.size w (wr.alloc o) := fun o => (endB hb0 hbl).alloc hle o
    by_cases t1 : l[k].1 < 0
    · go_wp2
      go_ret
      exact ⟨ri (by rw [Hval.out, ← Hsc.out, scanV_bad hlt (by unfold okP; omega)]), hend _⟩
    have t1' : 0 ≤ l[k].1 := by omega
    clear t1
    by_cases t2 : N ≤ l[k].1
    · go_wp2
      go_ret
      exact ⟨ri (by rw [Hval.out, ← Hsc.out, scanV_bad hlt (by unfold okP; omega)]), hend _⟩
    have t2' : l[k].1 < N := by omega
    clear t2
    by_cases t3 : l[k].2 < 0
    · go_wp2
      go_ret
      exact ⟨ri (by rw [Hval.out, ← Hsc.out, scanV_bad hlt (by unfold okP; omega)]), hend _⟩
    have t3' : 0 ≤ l[k].2 := by omega
    clear t3
    by_cases t4 : N ≤ l[k].2
    · go_wp2
      go_ret
      exact ⟨ri (by rw [Hval.out, ← Hsc.out, scanV_bad hlt (by unfold okP; omega)]), hend _⟩
    have t4' : l[k].2 < N := by omega
    clear t4
    have hok : okP N l[k] := ⟨t1', t2', t3', t4'⟩
    have Hok := Lib.hid hok; clear hok
    obtain ⟨W0, hW, e0, e1, hbW, hltW⟩ := boxed wr 42 (.int .i64 l[k].1) (.int .i64 l[k].2)
    have f0 := (hbW.cell (lt_of_cell d0)).trans d0
    have f1 := (hbW.cell (lt_of_cell d1)).trans d1
    have hendW := (endB hb0 hbl).trans (hbW.mono hle)
    have hblW : Below WG.heap.size WG W0 := hbl.trans (hbW.mono hbl.size)
    by_cases hk0 : k = 0
    · have hg : decide ((0 : Int) < (k : Int)) = false := by simp; omega
      have hgn : decide (0 < k) = false := by simp; omega
      have Hk0 := Lib.hid hk0; clear hk0
      go_wp2_with fail
      clear hW
      refine wp_region_text (S := fun w' => Below W0.heap.size W0 w') (by kernel_rfl) (by kernel_rfl) (Below.refl _ _).drew ?_
      repeat (first
        | (refine TxtL.skip (by rfl) ?_; simp only [Act.put, List.setIfInBounds_toArray, List.set_cons_zero, List.set_cons_succ])
        | (refine TxtL.take' (by rfl) ?_; apply Exists.intro; refine ⟨fun w1 hS1 => ?_, ?_⟩; (focus ((have g0 := (hS1.cell (lt_of_cell e0)).trans e0); (have g1 := (hS1.cell (lt_of_cell e1)).trans e1); (have g2 := (hS1.cell (lt_of_cell f1)).trans f1); go_simp; with_reducible rfl)); simp only [Act.put, List.setIfInBounds_toArray, List.set_cons_zero, List.set_cons_succ]))
      refine TxtL.nil (fun w1 hS1 => ?_)
      go_wp2
      go_roundw
      case rel => exact ⟨k + 1, by omega, by go_num, by rw [← scanV_first Hk0.out hlt Hok.out]; exact Hsc.out, hblW.trans (hS1.mono hblW.size)⟩
      case measure => simp [intOf]; omega
    · obtain ⟨j, hj⟩ : ∃ j, k = j + 1 := ⟨k - 1, by omega⟩
      subst hj
      clear hk0
      have hjl : j < l.length := by omega
      obtain ⟨b', o', hA, hc', hd'⟩ := (hr0.below hblW).at_ hjl
      injection hA with hA
      injection hA with hb ho
      subst hb ho
      have hpos : decide ((0 : Int) < (j : Int) + 1) = true := decide_eq_true (by omega)
      have hi0 : (0 : Int) ≤ (j : Int) := by omega
      have hi1 : (j : Int) < (l.length : Int) := by omega
      have hself := int_self (j := j) (by omega)
      have hsub : IntKind.i64.wrap ((j : Int) + 1 - 1) = j := by rw [Int.add_sub_cancel]; exact hself
      by_cases u1 : l[j + 1].1 < l[j].1
      · have hg1 : decide (l[j + 1].1 < l[j].1) = true := by simpa using u1
        have hnlt : ¬ ltP l[j] l[j + 1] := by unfold ltP; omega
        have Hn := Lib.hid hnlt; clear hnlt
        go_wp2_with fail
        clear hW
        refine wp_region_text (S := fun w' => Below W0.heap.size W0 w') (by kernel_rfl) (by kernel_rfl) (Below.refl _ _).drew ?_
        repeat (first
          | (refine TxtL.skip (by rfl) ?_; simp only [Act.put, List.setIfInBounds_toArray, List.set_cons_zero, List.set_cons_succ])
          | (refine TxtL.take' (by rfl) ?_; apply Exists.intro; refine ⟨fun w1 hS1 => ?_, ?_⟩; (focus ((have g0 := (hS1.cell (lt_of_cell e0)).trans e0); (have g1 := (hS1.cell (lt_of_cell e1)).trans e1); (have g2 := (hS1.cell (lt_of_cell f1)).trans f1); (have g3 := (hS1.cell (lt_of_cell hc')).trans hc'); (have g4 := (hS1.cell (lt_of_cell hd')).trans hd'); go_simp; with_reducible rfl)); simp only [Act.put, List.setIfInBounds_toArray, List.set_cons_zero, List.set_cons_succ]))
        refine TxtL.nil (fun w1 hS1 => ?_)
        go_wp2
        go_ret
        exact ⟨ri (by rw [Hval.out, ← Hsc.out, scanV_order hlt Hok.out Hn.out]), hendW.trans (hS1.mono (Nat.le_trans hle hbW.size))⟩
      have hg1 : decide (l[j + 1].1 < l[j].1) = false := by simpa using u1
      by_cases u2 : l[j].1 = l[j + 1].1
      case neg =>
        have hg2 : (l[j].1 == l[j + 1].1) = false := by simpa using u2
        have hlt' : ltP l[j] l[j + 1] := by unfold ltP; omega
        have Hn := Lib.hid hlt'; clear hlt' u1 u2
        go_wp2_with fail
        clear hW
        refine wp_region_text (S := fun w' => Below W0.heap.size W0 w') (by kernel_rfl) (by kernel_rfl) (Below.refl _ _).drew ?_
        repeat (first
          | (refine TxtL.skip (by rfl) ?_; simp only [Act.put, List.setIfInBounds_toArray, List.set_cons_zero, List.set_cons_succ])
          | (refine TxtL.take' (by rfl) ?_; apply Exists.intro; refine ⟨fun w1 hS1 => ?_, ?_⟩; (focus ((have g0 := (hS1.cell (lt_of_cell e0)).trans e0); (have g1 := (hS1.cell (lt_of_cell e1)).trans e1); (have g2 := (hS1.cell (lt_of_cell f1)).trans f1); (have g3 := (hS1.cell (lt_of_cell hc')).trans hc'); (have g4 := (hS1.cell (lt_of_cell hd')).trans hd'); go_simp; with_reducible rfl)); simp only [Act.put, List.setIfInBounds_toArray, List.set_cons_zero, List.set_cons_succ]))
        refine TxtL.nil (fun w1 hS1 => ?_)
        go_wp2
        go_roundw
        case rel => exact ⟨j + 1 + 1, by omega, by go_num, by rw [← scanV_next hlt Hok.out Hn.out]; exact Hsc.out, hblW.trans (hS1.mono hblW.size)⟩
        case measure => simp [intOf]; omega
      case pos =>
      have hg2 : (l[j].1 == l[j + 1].1) = true := by simpa using u2
      by_cases u3 : l[j + 1].2 ≤ l[j].2
      · have hg3 : decide (l[j + 1].2 ≤ l[j].2) = true := by simpa using u3
        have hnlt : ¬ ltP l[j] l[j + 1] := by unfold ltP; omega
        have Hn := Lib.hid hnlt; clear hnlt u1 u2
        go_wp2_with fail
        clear hW
        refine wp_region_text (S := fun w' => Below W0.heap.size W0 w') (by kernel_rfl) (by kernel_rfl) (Below.refl _ _).drew ?_
        repeat (first
          | (refine TxtL.skip (by rfl) ?_; simp only [Act.put, List.setIfInBounds_toArray, List.set_cons_zero, List.set_cons_succ])
          | (refine TxtL.take' (by rfl) ?_; apply Exists.intro; refine ⟨fun w1 hS1 => ?_, ?_⟩; (focus ((have g0 := (hS1.cell (lt_of_cell e0)).trans e0); (have g1 := (hS1.cell (lt_of_cell e1)).trans e1); (have g2 := (hS1.cell (lt_of_cell f1)).trans f1); (have g3 := (hS1.cell (lt_of_cell hc')).trans hc'); (have g4 := (hS1.cell (lt_of_cell hd')).trans hd'); go_simp; with_reducible rfl)); simp only [Act.put, List.setIfInBounds_toArray, List.set_cons_zero, List.set_cons_succ]))
        refine TxtL.nil (fun w1 hS1 => ?_)
        go_wp2
        go_ret
        exact ⟨ri (by rw [Hval.out, ← Hsc.out, scanV_order hlt Hok.out Hn.out]), hendW.trans (hS1.mono (Nat.le_trans hle hbW.size))⟩
      · have hg3 : decide (l[j + 1].2 ≤ l[j].2) = false := by simpa using u3
        have hlt' : ltP l[j] l[j + 1] := by unfold ltP; omega
        have Hn := Lib.hid hlt'; clear hlt' u1 u2
        go_wp2_with fail
        clear hW
        refine wp_region_text (S := fun w' => Below W0.heap.size W0 w') (by kernel_rfl) (by kernel_rfl) (Below.refl _ _).drew ?_
        repeat (first
          | (refine TxtL.skip (by rfl) ?_; simp only [Act.put, List.setIfInBounds_toArray, List.set_cons_zero, List.set_cons_succ])
          | (refine TxtL.take' (by rfl) ?_; apply Exists.intro; refine ⟨fun w1 hS1 => ?_, ?_⟩; (focus ((have g0 := (hS1.cell (lt_of_cell e0)).trans e0); (have g1 := (hS1.cell (lt_of_cell e1)).trans e1); (have g2 := (hS1.cell (lt_of_cell f1)).trans f1); (have g3 := (hS1.cell (lt_of_cell hc')).trans hc'); (have g4 := (hS1.cell (lt_of_cell hd')).trans hd'); go_simp; with_reducible rfl)); simp only [Act.put, List.setIfInBounds_toArray, List.set_cons_zero, List.set_cons_succ]))
        refine TxtL.nil (fun w1 hS1 => ?_)
        go_wp2
        go_roundw
        case rel => exact ⟨j + 1 + 1, by omega, by go_num, by rw [← scanV_next hlt Hok.out Hn.out]; exact Hsc.out, hblW.trans (hS1.mono hblW.size)⟩
        case measure => simp [intOf]; omega
end Go.Proofs.YtncimnfhfomddaaDoor

/- The reference of layer 10: Valid, Has, Attackers. -/
namespace Go.Proofs.YtncimnfhfomddaaDoor
open Go.ChangeShapes Go.WideShapes Go.ChangeAt Go.RowKit

/-- the graph as it is treated: the one without nodes if it is not valid -/
def nGn (N : Int) (l : List (Int × Int)) : Int := if valE N l = 0 then N else 0
def nGl (N : Int) (l : List (Int × Int)) : List (Int × Int) := if valE N l = 0 then l else []
theorem nGl_len {N : Int} {l : List (Int × Int)} {B : Nat} (h : l.length ≤ B) : (nGl N l).length ≤ B := by unfold nGl; split <;> simp [h]

/-- the call returns a graph by value -/
def RetG (N : Int) (l : List (Int × Int)) (w : World) : Ending → World → Prop := fun e w' => ∃ A c, e = .returned (.agg #[.int .i64 N, .slice A l.length c]) ∧ RP w' A l ∧ Below w.heap.size w w'
/-- the same; the pairs lie where they lay -/
def RetGA (A0 : Option Addr) (N : Int) (l : List (Int × Int)) (w : World) : Ending → World → Prop := fun e w' => ∃ A c, e = .returned (.agg #[.int .i64 N, .slice A l.length c]) ∧ RP w' A l ∧ (A = A0 ∨ l = []) ∧ Below w.heap.size w w'

/-- the pairs lie in blocks that were there at w -/
theorem RP.far2 {w : World} {A : Option Addr} {l : List (Int × Int)} {g : Nat} (h : RP w A l) (hlt : ∀ b o, A = some ⟨b, o, none⟩ → 0 < l.length → b ≠ g) (x y : Value) : RP ((w.setCell ⟨g, 0, none⟩ x).setCell ⟨g, 1, none⟩ y) A l := by
  intro k hk
  obtain ⟨b, o, hA, hc, hd⟩ := h k hk
  have hne := hlt b o hA (by omega)
  exact ⟨b, o, hA, by rw [World.cell?_setCell_other _ _ _ _ (fun e => hne (congrArg Addr.block e).symm), World.cell?_setCell_other _ _ _ _ (fun e => hne (congrArg Addr.block e).symm)]; exact hc,
    by rw [World.cell?_setCell_other _ _ _ _ (fun e => hne (congrArg Addr.block e).symm), World.cell?_setCell_other _ _ _ _ (fun e => hne (congrArg Addr.block e).symm)]; exact hd⟩
theorem RP.lt {w : World} {A : Option Addr} {l : List (Int × Int)} (h : RP w A l) {b o : Nat} (hA : A = some ⟨b, o, none⟩) (hl : 0 < l.length) : b < w.heap.size := by
  obtain ⟨b', o', hA', hc, _⟩ := h 0 hl
  rw [hA] at hA'
  injection hA' with hA'
  injection hA' with hb _ _
  have h3 : b' < w.heap.size := lt_of_cell hc
  omega

/-- an attack in a list, as a Bool that simp does not open -/
def hasB (l : List (Int × Int)) (f t : Int) : Bool := l.contains (f, t)
theorem hasB_iff {l : List (Int × Int)} {f t : Int} : hasB l f t = true ↔ (f, t) ∈ l := by simp [hasB]
theorem hasB_false {l : List (Int × Int)} {f t : Int} : hasB l f t = false ↔ (f, t) ∉ l := by rw [← hasB_iff]; simp
theorem hasB_hit {l : List (Int × Int)} {f t : Int} {k : Nat} (h : k < l.length) (h1 : l[k].1 = f) (h2 : l[k].2 = t) : hasB l f t = true := by
  rw [hasB_iff, ← h1, ← h2]; exact List.getElem_mem h
theorem hasB_next {l : List (Int × Int)} {f t : Int} {k : Nat} (h : k < l.length) (h0 : hasB (l.take k) f t = false) (hne : l[k] ≠ (f, t)) : hasB (l.take (k + 1)) f t = false := by
  rw [hasB_false] at h0 ⊢
  rw [List.take_succ_eq_append_getElem h, List.mem_append]
  rintro (h1 | h1)
  · exact h0 h1
  · rw [List.mem_singleton] at h1; exact hne h1.symm

end Go.Proofs.YtncimnfhfomddaaDoor

/- The reference of layer 10: Attackers and its mirror. -/
namespace Go.Proofs.YtncimnfhfomddaaDoor
open Go.ChangeShapes Go.WideShapes Go.ChangeAt Go.RowKit

def attackersL (l : List (Int × Int)) (i : Int) : List Int := (l.filter (fun p => p.2 == i)).map (·.1)
def attackedL (l : List (Int × Int)) (i : Int) : List Int := (l.filter (fun p => p.1 == i)).map (·.2)
theorem attackersL_hit {l : List (Int × Int)} {i : Int} {k : Nat} (h : k < l.length) (hx : l[k].2 = i) : attackersL (l.take (k + 1)) i = attackersL (l.take k) i ++ [l[k].1] := by
  unfold attackersL; rw [List.take_succ_eq_append_getElem h, List.filter_append, List.map_append]; simp [hx]
theorem attackersL_miss {l : List (Int × Int)} {i : Int} {k : Nat} (h : k < l.length) (hx : l[k].2 ≠ i) : attackersL (l.take (k + 1)) i = attackersL (l.take k) i := by
  unfold attackersL; rw [List.take_succ_eq_append_getElem h, List.filter_append]; simp [hx]
theorem attackersL_len (l : List (Int × Int)) (i : Int) : (attackersL l i).length ≤ l.length := by unfold attackersL; rw [List.length_map]; exact List.length_filter_le _ _
theorem attackedL_hit {l : List (Int × Int)} {i : Int} {k : Nat} (h : k < l.length) (hx : l[k].1 = i) : attackedL (l.take (k + 1)) i = attackedL (l.take k) i ++ [l[k].2] := by
  unfold attackedL; rw [List.take_succ_eq_append_getElem h, List.filter_append, List.map_append]; simp [hx]
theorem attackedL_miss {l : List (Int × Int)} {i : Int} {k : Nat} (h : k < l.length) (hx : l[k].1 ≠ i) : attackedL (l.take (k + 1)) i = attackedL (l.take k) i := by
  unfold attackedL; rw [List.take_succ_eq_append_getElem h, List.filter_append]; simp [hx]
theorem attackedL_len (l : List (Int × Int)) (i : Int) : (attackedL l i).length ≤ l.length := by unfold attackedL; rw [List.length_map]; exact List.length_filter_le _ _

end Go.Proofs.YtncimnfhfomddaaDoor
