/- graph: the order of pairs, compare, Validate. -/
import Derived.Test.YtiljbfeipfdmdaaDoorRef10c
import Derived.Test.YtiljbfeipfdmdaaDoorTxtC
import Derived.Sort.Grow
namespace Go.Proofs.YtiljbfeipfdmdaaDoor
open Go.ChangeShapes Go.WideShapes Go.ChangeAt Go.RowKit

/-- what a call that draws, and lays new blocks alone, makes of a world -/
def Grew (w w' : World) : Prop := ∃ q os, w' = Sort.grow (w.drewN q) os
theorem Grew.refl (w : World) : Grew w w := ⟨0, #[], by rw [Sort.grow_empty]; rfl⟩
theorem Grew.drewN {a w : World} (h : Grew a w) (n : Nat) : Grew a (w.drewN n) := by
  obtain ⟨q, os, rfl⟩ := h
  exact ⟨q + n, os, by show (Sort.grow (a.drewN q) os).drewN n = _; rw [← World.drewN_drewN]; rfl⟩
theorem Grew.drew {a w : World} (h : Grew a w) : Grew a w.drew := h.drewN 1
theorem Grew.alloc {a w : World} (h : Grew a w) (o : Obj) : Grew a (w.alloc o) := by
  obtain ⟨q, os, rfl⟩ := h
  exact ⟨q, os ++ #[o], by rw [Sort.alloc_eq_grow, Sort.grow_grow]⟩
theorem Grew.trans {a b c : World} (h : Grew a b) (k : Grew b c) : Grew a c := by
  obtain ⟨q, os, rfl⟩ := h
  obtain ⟨q', os', rfl⟩ := k
  exact ⟨q + q', os ++ os', by show Sort.grow (Sort.grow ((a.drewN q).drewN q') os) os' = _; rw [Sort.grow_grow, World.drewN_drewN]⟩
theorem Grew.below {a w : World} (h : Grew a w) : Below a.heap.size a w := by
  obtain ⟨q, os, rfl⟩ := h
  exact ⟨rfl, rfl, rfl, by rw [Sort.size_grow]; exact Nat.le_add_right _ _, fun i hi => Sort.heap_grow_old (a.drewN q) os hi⟩
/-- the call returns v; it has drawn and laid new blocks alone -/
def RetX (v : Value) (w : World) : Ending → World → Prop := fun e w' => e = .returned v ∧ Grew w w'
theorem RetX.below {v : Value} {w w' : World} {e : Ending} (h : RetX v w e w') : RetB v w e w' := ⟨h.1, h.2.below⟩

def cmpI (a b : Int) : Int := if a < b then -1 else if b < a then 1 else 0
theorem cmpI_lt {a b : Int} (h : a < b) : cmpI a b = -1 := by unfold cmpI; rw [if_pos h]
theorem cmpI_gt {a b : Int} (h : b < a) : cmpI a b = 1 := by unfold cmpI; rw [if_neg (by omega), if_pos h]
theorem cmpI_eq {a b : Int} (h : a = b) : cmpI a b = 0 := by unfold cmpI; rw [if_neg (by omega), if_neg (by omega)]

set_option maxHeartbeats 400000 in
theorem cmpc_any (a b : Int) (w : World) : Calls Tryd.prog 94 #[.int .i64 a, .int .i64 b] w (Ret (.int .i64 (cmpI a b)) w) := by
  by_cases h1 : a < b
  · have H := Lib.hid (cmpI_lt h1)
    go_enter Tryd.func94, Tryd.ntmps94
    go_wp2
    go_ret
    exact ⟨ri H.out.symm, rfl⟩
  by_cases h2 : b < a
  · have H := Lib.hid (cmpI_gt h2)
    go_enter Tryd.func94, Tryd.ntmps94
    go_wp2
    go_ret
    exact ⟨ri H.out.symm, rfl⟩
  · have H := Lib.hid (cmpI_eq (show a = b by omega))
    go_enter Tryd.func94, Tryd.ntmps94
    go_wp2
    go_ret
    exact ⟨ri H.out.symm, rfl⟩

def orI (x y : Int) : Int := if x = 0 then y else x
set_option maxHeartbeats 400000 in
theorem or_any (A : Option Addr) (x y : Int) (c : Nat) (w : World) (hr : RI w A [x, y]) : Calls Tryd.prog 97 #[.slice A 2 c] w (Ret (.int .i64 (orI x y)) w) := by
  obtain ⟨b, o, rfl, hc0⟩ := hr.at_ (k := 0) (by simp)
  obtain ⟨b', o', hA, hc1⟩ := hr.at_ (k := 1) (by simp)
  injection hA with hA
  injection hA with hb ho
  subst hb ho
  have hd0 : w.cell? ⟨b, o, none⟩ = some (.int .i64 x) := hc0
  have hd1 : w.cell? ⟨b, o + 1, none⟩ = some (.int .i64 y) := hc1
  clear hc0 hc1 hr
  go_enter Tryd.func97, Tryd.ntmps97
  go_wp2
  go_loop [8] (fun i => ∃ k : Nat, i = .int .i64 k ∧ (k = 0 ∨ (k = 1 ∧ x = 0) ∨ (k = 2 ∧ x = 0 ∧ y = 0))) (fun i => 2 - (intOf i).toNat)
  case atStart => exact ⟨0, rfl, .inl rfl⟩
  case round =>
    obtain ⟨k, rfl, hk⟩ := hrel
    rcases hk with rfl | ⟨rfl, h0⟩ | ⟨rfl, h0, h1⟩
    · by_cases hx : x = 0
      · have hd : (x != 0) = false := by simpa using hx
        have Hx := Lib.hid hx; clear hx
        go_wp2
        go_round
        case rel => exact ⟨1, rfl, .inr (.inl ⟨rfl, Hx.out⟩)⟩
        case measure => simp [intOf]
      · have hd : (x != 0) = true := by simpa using hx
        have Hx := Lib.hid hx; clear hx
        go_wp2
        go_ret
        exact ⟨ri (by unfold orI; rw [if_neg Hx.out]), rfl⟩
    · have H0 := Lib.hid h0; clear h0
      by_cases hx : y = 0
      · have hd : (y != 0) = false := by simpa using hx
        have Hx := Lib.hid hx; clear hx
        go_wp2
        go_round
        case rel => exact ⟨2, rfl, .inr (.inr ⟨rfl, H0.out, Hx.out⟩)⟩
        case measure => simp [intOf]
      · have hd : (y != 0) = true := by simpa using hx
        have Hx := Lib.hid hx; clear hx
        go_wp2
        go_ret
        exact ⟨ri (by unfold orI; rw [if_pos H0.out]), rfl⟩
    · have H0 := Lib.hid h0; have H1 := Lib.hid h1; clear h0 h1
      go_wp2
      go_ret
      exact ⟨ri (by unfold orI; rw [if_pos H0.out, H1.out]), rfl⟩

theorem new_ri2' (w : World) (t : TypeId) (a b : Int) : RI (w.alloc (.cells #[.int .i64 a, .int .i64 b] t)) (some ⟨w.heap.size, 0, none⟩) [a, b] := by
  intro k hk
  refine ⟨w.heap.size, 0, rfl, ?_⟩
  rw [(Blk.new w t #[.int .i64 a, .int .i64 b]).cell]
  match k, hk with
  | 0, _ => rfl
  | 1, _ => rfl

/-- what compare returns -/
def cmpP (p q : Int × Int) : Int := orI (cmpI p.1 q.1) (cmpI p.2 q.2)
set_option maxHeartbeats 1000000 in
theorem compare_any (p q : Int × Int) (w : World) : Calls Tryd.prog 72 #[.agg #[.int .i64 p.1, .int .i64 p.2], .agg #[.int .i64 q.1, .int .i64 q.2]] w (RetX (.int .i64 (cmpP p q)) w) := by
  go_enter Tryd.func72, Tryd.ntmps72
  go_wp2_with fail
  obtain ⟨W0, hW, k0, k1, _, _⟩ := boxed2 w 46 46 (.int .i64 p.1) (.int .i64 p.2) (.int .i64 q.1) (.int .i64 q.2)
  have hG : Grew w W0 := by rw [← hW]; exact ((Grew.refl w).alloc _).alloc _
  rw [hW]
  clear hW
  refine wp_region_textB [4, 9, 10, 11] (fun w' => Grew W0 w') (fun _ => True) (by kernel_rfl) (by kernel_rfl) (by kernel_rfl) (Grew.refl _).drew trivial ?_
  repeat (first
    | (refine TxtBL.skip (by rfl) ?_; simp only [Act.put, List.setIfInBounds_toArray, List.set_cons_zero, List.set_cons_succ])
    | (refine TxtBL.take (by rfl) (by rfl) ?_; apply Exists.intro; refine ⟨fun w1 hS1 => ?_, ?_⟩; (focus ((obtain ⟨g0, g1, _, _⟩ := (k0.below hS1.below k0.lt).two); (obtain ⟨g2, g3, _, _⟩ := (k1.below hS1.below k1.lt).two); go_simp; with_reducible rfl)); simp only [Act.put, List.setIfInBounds_toArray, List.set_cons_zero, List.set_cons_succ])
    | (refine TxtBL.takeE (by rfl) (by rfl) ?_; apply Exists.intro; refine ⟨fun w1 hS1 => ?_, ?_⟩; (focus ((obtain ⟨g0, g1, _, _⟩ := (k0.below hS1.below k0.lt).two); (obtain ⟨g2, g3, _, _⟩ := (k1.below hS1.below k1.lt).two); go_simp; with_reducible rfl)); simp only [Act.put, List.setIfInBounds_toArray, List.set_cons_zero, List.set_cons_succ]))
  refine TxtBL.call (f := 94) (args := #[.int .i64 p.1, .int .i64 q.1]) (fun v => v = .int .i64 (cmpI p.1 q.1)) (fun _ _ => True) (by rfl) (by rfl) ⟨_, rfl⟩ (fun w1 hS1 hJ1 => by go_simp) (fun w1 hS1 hJ1 => ?_) ?_
  · refine (cmpc_any _ _ w1).mono ?_
    rintro e w' ⟨rfl, rfl⟩
    exact ⟨_, rfl, hS1, rfl, trivial⟩
  rintro v rfl
  simp only [Act.put, List.setIfInBounds_toArray, List.set_cons_zero, List.set_cons_succ]
  repeat (first
    | (refine TxtBL.skip (by rfl) ?_; simp only [Act.put, List.setIfInBounds_toArray, List.set_cons_zero, List.set_cons_succ])
    | (refine TxtBL.take (by rfl) (by rfl) ?_; apply Exists.intro; refine ⟨fun w1 hS1 => ?_, ?_⟩; (focus ((obtain ⟨g0, g1, _, _⟩ := (k0.below hS1.below k0.lt).two); (obtain ⟨g2, g3, _, _⟩ := (k1.below hS1.below k1.lt).two); go_simp; with_reducible rfl)); simp only [Act.put, List.setIfInBounds_toArray, List.set_cons_zero, List.set_cons_succ])
    | (refine TxtBL.takeE (by rfl) (by rfl) ?_; apply Exists.intro; refine ⟨fun w1 hS1 => ?_, ?_⟩; (focus ((obtain ⟨g0, g1, _, _⟩ := (k0.below hS1.below k0.lt).two); (obtain ⟨g2, g3, _, _⟩ := (k1.below hS1.below k1.lt).two); go_simp; with_reducible rfl)); simp only [Act.put, List.setIfInBounds_toArray, List.set_cons_zero, List.set_cons_succ]))
  refine TxtBL.call (f := 94) (args := #[.int .i64 p.2, .int .i64 q.2]) (fun v => v = .int .i64 (cmpI p.2 q.2)) (fun _ _ => True) (by rfl) (by rfl) ⟨_, rfl⟩ (fun w1 hS1 hJ1 => by go_simp) (fun w1 hS1 hJ1 => ?_) ?_
  · refine (cmpc_any _ _ w1).mono ?_
    rintro e w' ⟨rfl, rfl⟩
    exact ⟨_, rfl, hS1, rfl, trivial⟩
  rintro v rfl
  simp only [Act.put, List.setIfInBounds_toArray, List.set_cons_zero, List.set_cons_succ]
  refine TxtBL.value (fun v => ∃ g, v = Value.slice (some ⟨g, 0, none⟩) 2 2) (fun v w' => ∃ g, v = Value.slice (some ⟨g, 0, none⟩) 2 2 ∧ RI w' (some ⟨g, 0, none⟩) [cmpI p.1 q.1, cmpI p.2 q.2]) (by rfl) (by rfl) ⟨_, 0, rfl⟩ (fun w1 hS1 hJ1 => ?_) ?_
  · exact ⟨.slice (some ⟨w1.heap.size, 0, none⟩) 2 2, w1.alloc (.cells #[.int .i64 (cmpI p.1 q.1), .int .i64 (cmpI p.2 q.2)] 3), by go_simp, hS1.alloc _, ⟨_, rfl⟩, _, rfl, new_ri2' _ _ _ _⟩
  rintro v ⟨g, rfl⟩
  simp only [Act.put, List.setIfInBounds_toArray, List.set_cons_zero, List.set_cons_succ]
  refine TxtBL.call (f := 97) (args := #[.slice (some ⟨g, 0, none⟩) 2 2]) (fun v => v = .int .i64 (cmpP p q)) (fun _ _ => True) (by rfl) (by rfl) ⟨_, rfl⟩ (fun w1 hS1 hJ1 => by go_simp) (fun w1 hS1 hJ1 => ?_) ?_
  · obtain ⟨g', hg', hri⟩ := hJ1
    injection hg' with hg' _ _; injection hg' with hg'; injection hg' with hg' _ _; subst hg'
    refine (or_any _ _ _ _ w1 hri).mono ?_
    rintro e w' ⟨rfl, rfl⟩
    exact ⟨_, rfl, hS1, rfl, trivial⟩
  rintro v rfl
  simp only [Act.put, List.setIfInBounds_toArray, List.set_cons_zero, List.set_cons_succ]
  repeat (first
    | (refine TxtBL.skip (by rfl) ?_; simp only [Act.put, List.setIfInBounds_toArray, List.set_cons_zero, List.set_cons_succ])
    | (refine TxtBL.take (by rfl) (by rfl) ?_; apply Exists.intro; refine ⟨fun w1 hS1 => ?_, ?_⟩; (focus (skip; go_simp; with_reducible rfl)); simp only [Act.put, List.setIfInBounds_toArray, List.set_cons_zero, List.set_cons_succ])
    | (refine TxtBL.takeE (by rfl) (by rfl) ?_; apply Exists.intro; refine ⟨fun w1 hS1 => ?_, ?_⟩; (focus (skip; go_simp; with_reducible rfl)); simp only [Act.put, List.setIfInBounds_toArray, List.set_cons_zero, List.set_cons_succ]))
  refine TxtBL.nil (fun B hS hJ => ?_)
  go_wp2
  go_ret
  exact ⟨rfl, hG.trans hS⟩
end Go.Proofs.YtiljbfeipfdmdaaDoor
