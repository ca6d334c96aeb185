import Derived.Test.YtncimnfhfomddaaDoorRef10
import Derived.Test.YtncimnfhfomddaaDoorTxtX
import Derived.Sort.Grow
import Derived.Test.YtncimnfhfomddaaDoorAdm
import Derived.Test.YtncimnfhfomddaaDoorP12
import Derived.BigRegion
import Derived.Test.YtncimnfhfomddaaDoorGenM
import Derived.Shelf.SlSortCmp.InsertionK
/- graph: the order of pairs, compare, Validate. -/
namespace Go.Proofs.YtncimnfhfomddaaDoor
open Go.ChangeShapes Go.WideShapes Go.ChangeAt Go.RowKit

/-- what a call that draws, and lays new blocks alone, makes of a world -/
def Grew (w w' : World) : Prop := ∃ q os, w' = Sort.grow (w.drewN q) os
theorem Grew.refl (w : World) : Grew w w := ⟨0, #[], by rw [Sort.grow_empty]; rfl⟩
theorem Grew.drewN {a w : World} (h : Grew a w) (n : Nat) : Grew a (w.drewN n) := by
  obtain ⟨q, os, rfl⟩ := h
  exact ⟨q + n, os, by show (Sort.grow (a.drewN q) os).drewN n = _; rw [← World.drewN_drewN]; rfl⟩
theorem Grew.drew {a w : World} (h : Grew a w) : Grew a w.drew := h.drewN 1
theorem Grew.alloc {a w : World} (h : Grew a w) (o : Obj) : Grew a (w.alloc o) := by
  obtain ⟨q, os, rfl⟩ := h
  exact ⟨q, os ++ #[o], by rw [Sort.alloc_eq_grow, Sort.grow_grow]⟩
theorem Grew.trans {a b c : World} (h : Grew a b) (k : Grew b c) : Grew a c := by
  obtain ⟨q, os, rfl⟩ := h
  obtain ⟨q', os', rfl⟩ := k
  exact ⟨q + q', os ++ os', by show Sort.grow (Sort.grow ((a.drewN q).drewN q') os) os' = _; rw [Sort.grow_grow, World.drewN_drewN]⟩
theorem Grew.below {a w : World} (h : Grew a w) : Below a.heap.size a w := by
  obtain ⟨q, os, rfl⟩ := h
  exact ⟨rfl, rfl, rfl, by rw [Sort.size_grow]; exact Nat.le_add_right _ _, fun i hi => Sort.heap_grow_old (a.drewN q) os hi⟩
/-- the call returns v; it has drawn and laid new blocks alone -/
def RetX (v : Value) (w : World) : Ending → World → Prop := fun e w' => e = .returned v ∧ Grew w w'
theorem RetX.below {v : Value} {w w' : World} {e : Ending} (h : RetX v w e w') : RetB v w e w' := ⟨h.1, h.2.below⟩

def cmpI (a b : Int) : Int := if a < b then -1 else if b < a then 1 else 0
theorem cmpI_lt {a b : Int} (h : a < b) : cmpI a b = -1 := by unfold cmpI; rw [if_pos h]
theorem cmpI_gt {a b : Int} (h : b < a) : cmpI a b = 1 := by unfold cmpI; rw [if_neg (by omega), if_pos h]
theorem cmpI_eq {a b : Int} (h : a = b) : cmpI a b = 0 := by unfold cmpI; rw [if_neg (by omega), if_neg (by omega)]

set_option maxHeartbeats 400000 in
theorem cmpc_any (a b : Int) (w : World) : Calls Tryd.prog 68 #[.int .i64 a, .int .i64 b] w (Ret (.int .i64 (cmpI a b)) w) := by
  by_cases h1 : a < b
  · have H := Lib.hid (cmpI_lt h1)
    go_enter Tryd.func68, Tryd.ntmps68
    go_wp2
    go_ret
    exact ⟨ri H.out.symm, rfl⟩
  by_cases h2 : b < a
  · have H := Lib.hid (cmpI_gt h2)
    go_enter Tryd.func68, Tryd.ntmps68
    go_wp2
    go_ret
    exact ⟨ri H.out.symm, rfl⟩
  · have H := Lib.hid (cmpI_eq (show a = b by omega))
    go_enter Tryd.func68, Tryd.ntmps68
    go_wp2
    go_ret
    exact ⟨ri H.out.symm, rfl⟩

def orI (x y : Int) : Int := if x = 0 then y else x
set_option maxHeartbeats 400000 in
theorem or_any (A : Option Addr) (x y : Int) (c : Nat) (w : World) (hr : RI w A [x, y]) : Calls Tryd.prog 67 #[.slice A 2 c] w (Ret (.int .i64 (orI x y)) w) := by
  obtain ⟨b, o, rfl, hc0⟩ := hr.at_ (k := 0) (by simp)
  obtain ⟨b', o', hA, hc1⟩ := hr.at_ (k := 1) (by simp)
  injection hA with hA
  injection hA with hb ho
  subst hb ho
  have hd0 : w.cell? ⟨b, o, none⟩ = some (.int .i64 x) := hc0
  have hd1 : w.cell? ⟨b, o + 1, none⟩ = some (.int .i64 y) := hc1
  clear hc0 hc1 hr
  go_enter Tryd.func67, Tryd.ntmps67
  go_wp2
  go_loop [8] (fun i => ∃ k : Nat, i = .int .i64 k ∧ (k = 0 ∨ (k = 1 ∧ x = 0) ∨ (k = 2 ∧ x = 0 ∧ y = 0))) (fun i => 2 - (intOf i).toNat)
  case atStart => exact ⟨0, rfl, .inl rfl⟩
  case round =>
    obtain ⟨k, rfl, hk⟩ := hrel
    rcases hk with rfl | ⟨rfl, h0⟩ | ⟨rfl, h0, h1⟩
    · by_cases hx : x = 0
      · have hd : (x != 0) = false := by simpa using hx
        have Hx := Lib.hid hx; clear hx
        go_wp2
        go_round
        case rel => exact ⟨1, rfl, .inr (.inl ⟨rfl, Hx.out⟩)⟩
        case measure => simp [intOf]
      · have hd : (x != 0) = true := by simpa using hx
        have Hx := Lib.hid hx; clear hx
        go_wp2
        go_ret
        exact ⟨ri (by unfold orI; rw [if_neg Hx.out]), rfl⟩
    · have H0 := Lib.hid h0; clear h0
      by_cases hx : y = 0
      · have hd : (y != 0) = false := by simpa using hx
        have Hx := Lib.hid hx; clear hx
        go_wp2
        go_round
        case rel => exact ⟨2, rfl, .inr (.inr ⟨rfl, H0.out, Hx.out⟩)⟩
        case measure => simp [intOf]
      · have hd : (y != 0) = true := by simpa using hx
        have Hx := Lib.hid hx; clear hx
        go_wp2
        go_ret
        exact ⟨ri (by unfold orI; rw [if_pos H0.out]), rfl⟩
    · have H0 := Lib.hid h0; have H1 := Lib.hid h1; clear h0 h1
      go_wp2
      go_ret
      exact ⟨ri (by unfold orI; rw [if_pos H0.out, H1.out]), rfl⟩

theorem new_ri2' (w : World) (t : TypeId) (a b : Int) : RI (w.alloc (.cells #[.int .i64 a, .int .i64 b] t)) (some ⟨w.heap.size, 0, none⟩) [a, b] := by
  intro k hk
  refine ⟨w.heap.size, 0, rfl, ?_⟩
  rw [(Blk.new w t #[.int .i64 a, .int .i64 b]).cell]
  match k, hk with
  | 0, _ => rfl
  | 1, _ => rfl

/-- what compare returns -/
def cmpP (p q : Int × Int) : Int := orI (cmpI p.1 q.1) (cmpI p.2 q.2)
set_option maxHeartbeats 1000000 in
theorem compare_any (p q : Int × Int) (w : World) : Calls Tryd.prog 105 #[.agg #[.int .i64 p.1, .int .i64 p.2], .agg #[.int .i64 q.1, .int .i64 q.2]] w (RetX (.int .i64 (cmpP p q)) w) := by
  go_enter Tryd.func105, Tryd.ntmps105
  go_wp2_with fail
  obtain ⟨W0, hW, k0, k1, _, _⟩ := boxed2 w 42 42 (.int .i64 p.1) (.int .i64 p.2) (.int .i64 q.1) (.int .i64 q.2)
  have hG : Grew w W0 := by rw [← hW]; exact ((Grew.refl w).alloc _).alloc _
  rw [hW]
  clear hW
  refine wp_region_textB [4, 9, 10, 11] (fun w' => Grew W0 w') (fun _ => True) (by kernel_rfl) (by kernel_rfl) (by kernel_rfl) (Grew.refl _).drew trivial ?_
  repeat (first
    | (refine TxtBL.skip (by rfl) ?_; simp only [Act.put, List.setIfInBounds_toArray, List.set_cons_zero, List.set_cons_succ])
    | (refine TxtBL.take (by rfl) (by rfl) ?_; apply Exists.intro; refine ⟨fun w1 hS1 => ?_, ?_⟩; (focus ((obtain ⟨g0, g1, _, _⟩ := (k0.below hS1.below k0.lt).two); (obtain ⟨g2, g3, _, _⟩ := (k1.below hS1.below k1.lt).two); go_simp; with_reducible rfl)); simp only [Act.put, List.setIfInBounds_toArray, List.set_cons_zero, List.set_cons_succ])
    | (refine TxtBL.takeE (by rfl) (by rfl) ?_; apply Exists.intro; refine ⟨fun w1 hS1 => ?_, ?_⟩; (focus ((obtain ⟨g0, g1, _, _⟩ := (k0.below hS1.below k0.lt).two); (obtain ⟨g2, g3, _, _⟩ := (k1.below hS1.below k1.lt).two); go_simp; with_reducible rfl)); simp only [Act.put, List.setIfInBounds_toArray, List.set_cons_zero, List.set_cons_succ]))
  refine TxtBL.call (f := 68) (args := #[.int .i64 p.1, .int .i64 q.1]) (fun v => v = .int .i64 (cmpI p.1 q.1)) (fun _ _ => True) (by rfl) (by rfl) ⟨_, rfl⟩ (fun w1 hS1 hJ1 => by go_simp) (fun w1 hS1 hJ1 => ?_) ?_
  · refine (cmpc_any _ _ w1).mono ?_
    rintro e w' ⟨rfl, rfl⟩
    exact ⟨_, rfl, hS1, rfl, trivial⟩
  rintro v rfl
  simp only [Act.put, List.setIfInBounds_toArray, List.set_cons_zero, List.set_cons_succ]
  repeat (first
    | (refine TxtBL.skip (by rfl) ?_; simp only [Act.put, List.setIfInBounds_toArray, List.set_cons_zero, List.set_cons_succ])
    | (refine TxtBL.take (by rfl) (by rfl) ?_; apply Exists.intro; refine ⟨fun w1 hS1 => ?_, ?_⟩; (focus ((obtain ⟨g0, g1, _, _⟩ := (k0.below hS1.below k0.lt).two); (obtain ⟨g2, g3, _, _⟩ := (k1.below hS1.below k1.lt).two); go_simp; with_reducible rfl)); simp only [Act.put, List.setIfInBounds_toArray, List.set_cons_zero, List.set_cons_succ])
    | (refine TxtBL.takeE (by rfl) (by rfl) ?_; apply Exists.intro; refine ⟨fun w1 hS1 => ?_, ?_⟩; (focus ((obtain ⟨g0, g1, _, _⟩ := (k0.below hS1.below k0.lt).two); (obtain ⟨g2, g3, _, _⟩ := (k1.below hS1.below k1.lt).two); go_simp; with_reducible rfl)); simp only [Act.put, List.setIfInBounds_toArray, List.set_cons_zero, List.set_cons_succ]))
  refine TxtBL.call (f := 68) (args := #[.int .i64 p.2, .int .i64 q.2]) (fun v => v = .int .i64 (cmpI p.2 q.2)) (fun _ _ => True) (by rfl) (by rfl) ⟨_, rfl⟩ (fun w1 hS1 hJ1 => by go_simp) (fun w1 hS1 hJ1 => ?_) ?_
  · refine (cmpc_any _ _ w1).mono ?_
    rintro e w' ⟨rfl, rfl⟩
    exact ⟨_, rfl, hS1, rfl, trivial⟩
  rintro v rfl
  simp only [Act.put, List.setIfInBounds_toArray, List.set_cons_zero, List.set_cons_succ]
  refine TxtBL.value (fun v => ∃ g, v = Value.slice (some ⟨g, 0, none⟩) 2 2) (fun v w' => ∃ g, v = Value.slice (some ⟨g, 0, none⟩) 2 2 ∧ RI w' (some ⟨g, 0, none⟩) [cmpI p.1 q.1, cmpI p.2 q.2]) (by rfl) (by rfl) ⟨_, 0, rfl⟩ (fun w1 hS1 hJ1 => ?_) ?_
  · exact ⟨.slice (some ⟨w1.heap.size, 0, none⟩) 2 2, w1.alloc (.cells #[.int .i64 (cmpI p.1 q.1), .int .i64 (cmpI p.2 q.2)] 3), by go_simp, hS1.alloc _, ⟨_, rfl⟩, _, rfl, new_ri2' _ _ _ _⟩
  rintro v ⟨g, rfl⟩
  simp only [Act.put, List.setIfInBounds_toArray, List.set_cons_zero, List.set_cons_succ]
  refine TxtBL.call (f := 67) (args := #[.slice (some ⟨g, 0, none⟩) 2 2]) (fun v => v = .int .i64 (cmpP p q)) (fun _ _ => True) (by rfl) (by rfl) ⟨_, rfl⟩ (fun w1 hS1 hJ1 => by go_simp) (fun w1 hS1 hJ1 => ?_) ?_
  · obtain ⟨g', hg', hri⟩ := hJ1
    injection hg' with hg' _ _; injection hg' with hg'; injection hg' with hg' _ _; subst hg'
    refine (or_any _ _ _ _ w1 hri).mono ?_
    rintro e w' ⟨rfl, rfl⟩
    exact ⟨_, rfl, hS1, rfl, trivial⟩
  rintro v rfl
  simp only [Act.put, List.setIfInBounds_toArray, List.set_cons_zero, List.set_cons_succ]
  repeat (first
    | (refine TxtBL.skip (by rfl) ?_; simp only [Act.put, List.setIfInBounds_toArray, List.set_cons_zero, List.set_cons_succ])
    | (refine TxtBL.take (by rfl) (by rfl) ?_; apply Exists.intro; refine ⟨fun w1 hS1 => ?_, ?_⟩; (focus (skip; go_simp; with_reducible rfl)); simp only [Act.put, List.setIfInBounds_toArray, List.set_cons_zero, List.set_cons_succ])
    | (refine TxtBL.takeE (by rfl) (by rfl) ?_; apply Exists.intro; refine ⟨fun w1 hS1 => ?_, ?_⟩; (focus (skip; go_simp; with_reducible rfl)); simp only [Act.put, List.setIfInBounds_toArray, List.set_cons_zero, List.set_cons_succ]))
  refine TxtBL.nil (fun B hS hJ => ?_)
  go_wp2
  go_ret
  exact ⟨rfl, hG.trans hS⟩
end Go.Proofs.YtncimnfhfomddaaDoor

/- graph: Validate, proper. -/
namespace Go.Proofs.YtncimnfhfomddaaDoor
open Go.ChangeShapes Go.WideShapes Go.ChangeAt Go.RowKit

theorem cmpP_neg {p q : Int × Int} : cmpP p q < 0 ↔ ltP p q := by
  unfold cmpP orI ltP
  by_cases h1 : p.1 < q.1
  · rw [cmpI_lt h1]; simp; omega
  · by_cases h2 : q.1 < p.1
    · rw [cmpI_gt h2]; simp; omega
    · rw [cmpI_eq (show p.1 = q.1 by omega), if_pos rfl]
      by_cases h3 : p.2 < q.2
      · rw [cmpI_lt h3]; simp; omega
      · by_cases h4 : q.2 < p.2
        · rw [cmpI_gt h4]; simp; omega
        · rw [cmpI_eq (show p.2 = q.2 by omega)]; simp; omega

set_option maxRecDepth 100000 in
set_option maxHeartbeats 4000000 in
theorem gValidate_any (A : Option Addr) (N : Int) (l : List (Int × Int)) (c : Nat) (w : World) (hr : RP w A l) (hlen : l.length ≤ 100000) :
    Calls Tryd.prog 55 #[.agg #[.int .i64 N, .slice A l.length c]] w (RetB (.int .i64 (valE N l)) w) := by
  by_cases hN1 : N < 0
  · go_enter Tryd.func55, Tryd.ntmps55
    go_wp2
    go_ret
    exact ⟨ri (by simp [valE, hN1]), (Below.refl _ _).alloc (Nat.le_refl _) _⟩
  have hN1' : 0 ≤ N := by omega
  clear hN1
  by_cases hN2 : 40 < N
  · go_enter Tryd.func55, Tryd.ntmps55
    go_wp2
    go_ret
    exact ⟨ri (by simp [valE, hN2]), (Below.refl _ _).alloc (Nat.le_refl _) _⟩
  have hN2' : N ≤ 40 := by omega
  clear hN2
  have hval : valE N l = scanV N none l := by unfold valE; rw [if_neg (by omega)]
  have Hval := Lib.hid hval; clear hval
  go_enter Tryd.func55, Tryd.ntmps55
  go_wp2_with fail
  obtain ⟨WG, hW, c0, c1, hb0, hlt0⟩ := boxed w 24 (.int .i64 N) (.slice A l.length c)
  rw [hW]
  have hr0 := hr.below hb0
  clear hW hr
  go_loopw [16] (fun i wr => ∃ k : Nat, k ≤ l.length ∧ i = .int .i64 k ∧ scanV N (prevO l k) (l.drop k) = scanV N none l ∧ Below WG.heap.size WG wr) (fun i _ => l.length - (intOf i).toNat)
  case atStart => exact ⟨0, by omega, rfl, rfl, Below.refl _ _⟩
  case round =>
    obtain ⟨k, hk, rfl, hsc, hbl⟩ := hrel
    have Hsc := Lib.hid hsc; clear hsc
    have d0 := (hbl.cell (lt_of_cell c0)).trans c0
    have d1 := (hbl.cell (lt_of_cell c1)).trans c1
    by_cases hlt : k < l.length
    case neg =>
      go_wp2
      go_ret
      refine ⟨ri ?_, endB hb0 hbl⟩
      rw [Hval.out, ← Hsc.out, List.drop_of_length_le (by omega)]
      cases prevO l k <;> rfl
    case pos =>
    obtain ⟨b, o, rfl, hc, hd⟩ := (hr0.below hbl).at_ hlt
    have hle := leB hb0 hbl
    have hltw : w.heap.size < wr.heap.size := Nat.lt_of_lt_of_le hlt0 hbl.size
    have hend : ∀ o : Obj, Below w.heap.size w (wr.alloc o) := fun o => (endB hb0 hbl).alloc hle o
    by_cases hok : okP N l[k]
    case neg =>
      have hb := scanV_bad hlt hok
      have Hb := Lib.hid hb; clear hb
      by_cases hm : l[k].2 < l[k].1
      · by_cases t1 : l[k].2 < 0
        · have t1x : ¬ 0 ≤ l[k].2 := by omega
          go_wp2
          go_ret
          exact ⟨ri (by rw [Hval.out, ← Hsc.out, Hb.out]), hend _⟩
        · have t2 : N ≤ l[k].1 := by unfold okP at hok; omega
          have t1' : 0 ≤ l[k].2 := by omega
          have t3 : ¬ l[k].1 < l[k].2 := by omega
          clear t1 hok
          go_wp2
          go_ret
          exact ⟨ri (by rw [Hval.out, ← Hsc.out, Hb.out]), hend _⟩
      · have hm' : l[k].1 ≤ l[k].2 := by omega
        by_cases t1 : l[k].1 < 0
        · clear hm
          go_wp2
          go_ret
          exact ⟨ri (by rw [Hval.out, ← Hsc.out, Hb.out]), hend _⟩
        · have t2 : N ≤ l[k].2 := by unfold okP at hok; omega
          have t1' : 0 ≤ l[k].1 := by omega
          clear t1 hok hm
          by_cases t3 : l[k].1 < l[k].2
          · go_wp2
            go_ret
            exact ⟨ri (by rw [Hval.out, ← Hsc.out, Hb.out]), hend _⟩
          · have t4 : N ≤ l[k].1 := by omega
            go_wp2
            go_ret
            exact ⟨ri (by rw [Hval.out, ← Hsc.out, Hb.out]), hend _⟩
    case pos =>
    have Hok := Lib.hid hok
    obtain ⟨t1', t2', t3', t4'⟩ : 0 ≤ l[k].1 ∧ l[k].1 < N ∧ 0 ≤ l[k].2 ∧ l[k].2 < N := hok
    obtain ⟨W0, hW, e0, e1, hbW, hltW⟩ := boxed wr 42 (.int .i64 l[k].1) (.int .i64 l[k].2)
    have f0 := (hbW.cell (lt_of_cell d0)).trans d0
    have f1 := (hbW.cell (lt_of_cell d1)).trans d1
    have hendW := (endB hb0 hbl).trans (hbW.mono hle)
    have hblW : Below WG.heap.size WG W0 := hbl.trans (hbW.mono hbl.size)
    have hmin : decide ((if l[k].2 < l[k].1 then l[k].2 else l[k].1) < 0) = false := by rw [decide_eq_false_iff_not]; split <;> omega
    have hmax : decide (N ≤ (if l[k].1 < l[k].2 then l[k].2 else l[k].1)) = false := by rw [decide_eq_false_iff_not]; split <;> omega
    by_cases hk0 : k = 0
    · have hg : decide ((0 : Int) < (k : Int)) = false := by simp; omega
      have hgn : decide (0 < k) = false := by simp; omega
      have Hk0 := Lib.hid hk0; clear hk0
      go_wp2_with fail
      all_goals
        clear hW
        refine wp_region_text (S := fun w' => Below W0.heap.size W0 w') (by kernel_rfl) (by kernel_rfl) (Below.refl _ _).drew ?_
        repeat (first
          | (refine TxtL.skip (by rfl) ?_; simp only [Act.put, List.setIfInBounds_toArray, List.set_cons_zero, List.set_cons_succ])
          | (refine TxtL.take' (by rfl) ?_; apply Exists.intro; refine ⟨fun w1 hS1 => ?_, ?_⟩; (focus ((have g0 := (hS1.cell (lt_of_cell e0)).trans e0); (have g1 := (hS1.cell (lt_of_cell e1)).trans e1); (have g2 := (hS1.cell (lt_of_cell f1)).trans f1); go_simp; with_reducible rfl)); simp only [Act.put, List.setIfInBounds_toArray, List.set_cons_zero, List.set_cons_succ]))
        refine TxtL.nil (fun w1 hS1 => ?_)
        go_wp2
        go_roundw
        case rel => exact ⟨k + 1, by omega, by go_num, by rw [← scanV_first Hk0.out hlt Hok.out]; exact Hsc.out, hblW.trans (hS1.mono hblW.size)⟩
        case measure => simp [intOf]; omega
    · obtain ⟨j, hj⟩ : ∃ j, k = j + 1 := ⟨k - 1, by omega⟩
      subst hj
      clear hk0
      have hjl : j < l.length := by omega
      obtain ⟨b', o', hA, hc', hd'⟩ := (hr0.below hblW).at_ hjl
      injection hA with hA
      injection hA with hb ho
      subst hb ho
      have hpos : decide ((0 : Int) < (j : Int) + 1) = true := decide_eq_true (by omega)
      have hi0 : (0 : Int) ≤ (j : Int) := by omega
      have hi1 : (j : Int) < (l.length : Int) := by omega
      have hself := int_self (j := j) (by omega)
      have hsub : IntKind.i64.wrap ((j : Int) + 1 - 1) = j := by rw [Int.add_sub_cancel]; exact hself
      have hcmp : decide ((0 : Int) ≤ cmpP l[j] l[j + 1]) = !decide (ltP l[j] l[j + 1]) := by
        rw [Bool.eq_iff_iff]; simp [← cmpP_neg]
      cases hdl : decide (ltP l[j] l[j + 1])
      all_goals
        rw [hdl] at hcmp
        have Hd := Lib.hid hdl; clear hdl
        have Hcmp := Lib.hid hcmp; clear hcmp
        go_wp2_with fail
        all_goals
          clear hW
          refine wp_region_textB [10] (fun w' => Below W0.heap.size W0 w') (fun _ => True) (by kernel_rfl) (by kernel_rfl) (by kernel_rfl) (Below.refl _ _).drew trivial ?_
          repeat (first
            | (refine TxtBL.skip (by rfl) ?_; simp only [Act.put, List.setIfInBounds_toArray, List.set_cons_zero, List.set_cons_succ])
            | (refine TxtBL.take (by rfl) (by rfl) ?_; apply Exists.intro; refine ⟨fun w1 hS1 => ?_, ?_⟩; (focus ((have g0 := (hS1.cell (lt_of_cell e0)).trans e0); (have g1 := (hS1.cell (lt_of_cell e1)).trans e1); (have g2 := (hS1.cell (lt_of_cell f1)).trans f1); (have g3 := (hS1.cell (lt_of_cell hc')).trans hc'); (have g4 := (hS1.cell (lt_of_cell hd')).trans hd'); go_simp; with_reducible rfl)); simp only [Act.put, List.setIfInBounds_toArray, List.set_cons_zero, List.set_cons_succ])
            | (refine TxtBL.takeE (by rfl) (by rfl) ?_; apply Exists.intro; refine ⟨fun w1 hS1 => ?_, ?_⟩; (focus ((have g0 := (hS1.cell (lt_of_cell e0)).trans e0); (have g1 := (hS1.cell (lt_of_cell e1)).trans e1); (have g2 := (hS1.cell (lt_of_cell f1)).trans f1); (have g3 := (hS1.cell (lt_of_cell hc')).trans hc'); (have g4 := (hS1.cell (lt_of_cell hd')).trans hd'); go_simp; with_reducible rfl)); simp only [Act.put, List.setIfInBounds_toArray, List.set_cons_zero, List.set_cons_succ]))
          refine TxtBL.call (f := 105) (args := #[.agg #[.int .i64 l[j].1, .int .i64 l[j].2], .agg #[.int .i64 l[j + 1].1, .int .i64 l[j + 1].2]]) (fun v => v = .int .i64 (cmpP l[j] l[j + 1])) (fun _ _ => True) (by rfl) (by rfl) ⟨_, rfl⟩ (fun w1 hS1 hJ1 => by go_simp) (fun w1 hS1 hJ1 => ?_) ?_
          · refine (compare_any _ _ w1).mono ?_
            intro e w' hh
            obtain ⟨rfl, hb⟩ := hh.below
            exact ⟨_, rfl, hS1.trans (hb.mono hS1.size), rfl, trivial⟩
          rintro v rfl
          simp only [Act.put, List.setIfInBounds_toArray, List.set_cons_zero, List.set_cons_succ]
          have hcmp := Hcmp.out
          repeat (first
            | (refine TxtBL.skip (by rfl) ?_; simp only [Act.put, List.setIfInBounds_toArray, List.set_cons_zero, List.set_cons_succ])
            | (refine TxtBL.take (by rfl) (by rfl) ?_; apply Exists.intro; refine ⟨fun w1 hS1 => ?_, ?_⟩; (focus (skip; go_simp; with_reducible rfl)); simp only [Act.put, List.setIfInBounds_toArray, List.set_cons_zero, List.set_cons_succ])
            | (refine TxtBL.takeE (by rfl) (by rfl) ?_; apply Exists.intro; refine ⟨fun w1 hS1 => ?_, ?_⟩; (focus (skip; go_simp; with_reducible rfl)); simp only [Act.put, List.setIfInBounds_toArray, List.set_cons_zero, List.set_cons_succ]))
          refine TxtBL.nil (fun B hS hJ => ?_)
          clear hcmp
          go_wp2
          first
            | (go_ret
               exact ⟨ri (by rw [Hval.out, ← Hsc.out, scanV_order hlt Hok.out (of_decide_eq_false Hd.out)]), hendW.trans (hS.mono (Nat.le_trans hle hbW.size))⟩)
            | (go_roundw
               case rel => exact ⟨j + 1 + 1, by omega, by go_num, by rw [← scanV_next hlt Hok.out (of_decide_eq_true Hd.out)]; exact Hsc.out, hblW.trans (hS.mono hblW.size)⟩
               case measure => simp [intOf]; omega)

end Go.Proofs.YtncimnfhfomddaaDoor

/- graph: masks, list, Attacked. -/
namespace Go.Proofs.YtncimnfhfomddaaDoor
open Go.ChangeShapes Go.WideShapes Go.ChangeAt Go.RowKit

/-- the nodes that node i attacks, as a set -/
def mkM (l : List (Int × Int)) (i : Nat) : Nat := l.foldl (fun z p => if p.1.toNat = i then z ||| 1 <<< p.2.toNat else z) 0
theorem mkM_snoc (l : List (Int × Int)) (p : Int × Int) (i : Nat) : mkM (l ++ [p]) i = if p.1.toNat = i then mkM l i ||| 1 <<< p.2.toNat else mkM l i := by simp [mkM, List.foldl_append]
theorem testBit_mkM (l : List (Int × Int)) (i j : Nat) : (mkM l i).testBit j = l.any (fun p => decide (p.1.toNat = i) && decide (p.2.toNat = j)) := by
  suffices h : ∀ z, (l.foldl (fun z (p : Int × Int) => if p.1.toNat = i then z ||| 1 <<< p.2.toNat else z) z).testBit j = (z.testBit j || l.any (fun p => decide (p.1.toNat = i) && decide (p.2.toNat = j))) by
    have := h 0; simpa [mkM] using this
  induction l with
  | nil => intro z; simp
  | cons p l ih =>
    intro z
    rw [List.foldl_cons, List.any_cons, ih]
    by_cases h : p.1.toNat = i
    · rw [if_pos h, Nat.testBit_or, Nat.one_shiftLeft, Nat.testBit_two_pow, Bool.or_assoc]; simp [h]
    · rw [if_neg h]; simp [h]
theorem mkM_lt {n : Nat} {l : List (Int × Int)} (h : ∀ p ∈ l, p.2.toNat < n) (i : Nat) : mkM l i < 2 ^ n := by
  apply Nat.lt_pow_two_of_testBit
  intro j hj
  rw [testBit_mkM, List.any_eq_false]
  intro p hp
  have := h p hp
  simp; intro _; omega
theorem has_mkM {n : Nat} {l : List (Int × Int)} (hv : InR n l) (i j : Nat) : has (mkM l i) j ↔ att l i j := by
  unfold has
  rw [testBit_mkM, List.any_eq_true]
  constructor
  · rintro ⟨p, hp, h⟩
    simp only [Bool.and_eq_true, decide_eq_true_eq] at h
    have h1 := hv.2.2 p hp
    have e1 : ((i : Nat) : Int) = p.1 := by omega
    have e2 : ((j : Nat) : Int) = p.2 := by omega
    unfold att; rw [e1, e2]; exact hp
  · intro h
    exact ⟨_, h, by simp⟩

/-- the call returns a new slice of n sets -/
def RetM (n : Nat) (f : Nat → Nat) (w : World) : Ending → World → Prop := fun e w' => ∃ g, e = .returned (.slice (some ⟨g, 0, none⟩) n n) ∧ w.heap.size ≤ g ∧ w'.rowIs g 56 n (fun i => .int .u64 (f i : Nat)) ∧ Below w.heap.size w w'

theorem boxedRow (w : World) (t u : TypeId) (x y z : Value) (n : Nat) : ∃ W0, (w.alloc (.cells #[x, y] t)).alloc (.cells (madeCells #[z] n) u) = W0 ∧ Blk W0 w.heap.size t #[x, y] ∧ W0.rowIs (w.heap.size + 1) u n (fun _ => z) ∧ Below w.heap.size w W0 ∧ w.heap.size + 1 < W0.heap.size := by
  refine ⟨_, rfl, (Blk.new w t _).alloc _, ?_, ((Below.refl _ _).alloc (Nat.le_refl _) _).alloc (by simp) _, by simp⟩
  have := World.rowIs_made (w.alloc (.cells #[x, y] t)) z n u
  simpa using this

/-- a graph that is accepted is valid -/
theorem scanV_ok {N : Int} : ∀ (l : List (Int × Int)) (o : Option (Int × Int)), scanV N o l = 0 → (∀ p ∈ l, okP N p) ∧ l.Pairwise ltP ∧ (∀ q, o = some q → ∀ p ∈ l, ltP q p)
  | [], o, _ => ⟨(fun _ h => by cases h), List.Pairwise.nil, (fun _ _ _ h => by cases h)⟩
  | p :: l, none, h => by
    rw [scanV] at h
    split at h
    · rename_i ho
      obtain ⟨h1, h2, h3⟩ := scanV_ok l _ h
      refine ⟨fun q hq => ?_, List.pairwise_cons.2 ⟨fun q hq => h3 p rfl q hq, h2⟩, fun q hq => by cases hq⟩
      rcases List.mem_cons.1 hq with rfl | hq
      · exact ho
      · exact h1 q hq
    · cases h
  | p :: l, some q, h => by
    rw [scanV] at h
    split at h
    · rename_i ho
      split at h
      · rename_i hlt
        obtain ⟨h1, h2, h3⟩ := scanV_ok l _ h
        refine ⟨fun r hr => ?_, List.pairwise_cons.2 ⟨fun r hr => h3 p rfl r hr, h2⟩, fun r hr s hs => ?_⟩
        · rcases List.mem_cons.1 hr with rfl | hr
          · exact ho
          · exact h1 r hr
        · injection hr with hr
          subst hr
          rcases List.mem_cons.1 hs with rfl | hs
          · exact hlt
          · have := h3 p rfl s hs
            unfold ltP at *; omega
      · cases h
    · cases h
theorem vld_of_valE {N : Int} {l : List (Int × Int)} (h : valE N l = 0) (hlen : l.length ≤ 100000) : ∃ n : Nat, N = n ∧ Vld n l := by
  unfold valE at h
  split at h
  · cases h
  · rename_i hN
    obtain ⟨h1, h2, _⟩ := scanV_ok l none h
    refine ⟨N.toNat, by omega, ⟨by omega, hlen, fun p hp => ?_⟩, h2⟩
    have := h1 p hp
    unfold okP at this
    omega
/-- the graph that proper leaves is valid -/
theorem vld_proper (N : Int) (l : List (Int × Int)) (hlen : l.length ≤ 100000) : ∃ n : Nat, nGn N l = n ∧ Vld n (nGl N l) := by
  unfold nGn nGl
  by_cases h : valE N l = 0
  · rw [if_pos h, if_pos h]; exact vld_of_valE h hlen
  · rw [if_neg h, if_neg h]; exact ⟨0, rfl, ⟨by omega, by simp, (fun _ h => by cases h)⟩, List.Pairwise.nil⟩
theorem ltP_trans {p q r : Int × Int} (h : ltP p q) (k : ltP q r) : ltP p r := by unfold ltP at *; omega
theorem ltP_irrefl (p : Int × Int) : ¬ ltP p p := by unfold ltP; omega
theorem attackedL_sorted {l : List (Int × Int)} (h : l.Pairwise ltP) (i : Int) : (attackedL l i).Pairwise (· < ·) := by
  unfold attackedL
  rw [List.pairwise_map]
  refine List.Pairwise.imp_of_mem ?_ (h.filter _)
  intro a b ha hb hab
  have h1 := (List.mem_filter.1 ha).2
  have h2 := (List.mem_filter.1 hb).2
  simp at h1 h2
  unfold ltP at hab; omega
theorem attackersL_sorted {l : List (Int × Int)} (h : l.Pairwise ltP) (i : Int) : (attackersL l i).Pairwise (· < ·) := by
  unfold attackersL
  rw [List.pairwise_map]
  refine List.Pairwise.imp_of_mem ?_ (h.filter _)
  intro a b ha hb hab
  have h1 := (List.mem_filter.1 ha).2
  have h2 := (List.mem_filter.1 hb).2
  simp at h1 h2
  unfold ltP at hab; omega
theorem nodes_mkM {n : Nat} {l : List (Int × Int)} (hv : Vld n l) (i : Nat) : nodesB 64 (mkM l i).testBit = attackedL l i := by
  refine sorted_ext _ _ (nodesB_sorted _ _) (attackedL_sorted hv.2 _) fun x => ?_
  rw [mem_nodesB]
  constructor
  · rintro ⟨j, _, hj, rfl⟩
    exact mem_attackedL.2 ((has_mkM hv.1 i j).1 hj)
  · intro h
    obtain ⟨a, rfl, ha, hat⟩ := attacked_nat hv.1 h
    exact ⟨a, by have := hv.1.1; omega, (has_mkM hv.1 i a).2 hat, rfl⟩
theorem attackedL_out {n : Nat} {l : List (Int × Int)} (hv : InR n l) {i : Int} (h : i < 0 ∨ n ≤ i) : attackedL l i = [] := by
  cases hb : attackedL l i with
  | nil => rfl
  | cons x r =>
    have : x ∈ attackedL l i := by rw [hb]; exact List.mem_cons_self ..
    have := hv.2.2 _ (mem_attackedL.1 this)
    simp at this; omega
theorem attackersL_out {n : Nat} {l : List (Int × Int)} (hv : InR n l) {i : Int} (h : i < 0 ∨ n ≤ i) : attackersL l i = [] := by
  cases hb : attackersL l i with
  | nil => rfl
  | cons x r =>
    have : x ∈ attackersL l i := by rw [hb]; exact List.mem_cons_self ..
    have := hv.2.2 _ (mem_attackersL.1 this)
    simp at this; omega

end Go.Proofs.YtncimnfhfomddaaDoor

/- The pairs of a graph turned round and sorted, in plain words; rows of pairs in the sort's words. -/
namespace Go.Proofs.YtncimnfhfomddaaDoor
open Go.ChangeShapes Go.WideShapes Go.ChangeAt Go.RowKit

def swapP (p : Int × Int) : Int × Int := (p.2, p.1)
/-- what Reverse lays down -/
def revL (l : List (Int × Int)) : List (Int × Int) := (l.map swapP).mergeSort fun x y => !(ltOf cmpP) y x
theorem ltOf_cmpP (x y : Int × Int) : ltOf cmpP x y = decide (ltP x y) := by
  unfold ltOf
  rw [Bool.eq_iff_iff, decide_eq_true_iff, decide_eq_true_iff, cmpP_neg]
theorem swoP : Go.Sort.SWO (ltOf cmpP) where
  irrefl x := by rw [ltOf_cmpP]; simp [ltP]
  trans x y z h1 h2 := by rw [ltOf_cmpP, decide_eq_true_iff] at *; exact ltP_trans h1 h2
  ntrans x y z h1 h2 := by rw [ltOf_cmpP, decide_eq_false_iff_not] at *; unfold ltP at *; omega
theorem totP (x y : Int × Int) (h1 : ltOf cmpP x y = false) (h2 : ltOf cmpP y x = false) : x = y := by
  rw [ltOf_cmpP, decide_eq_false_iff_not] at *
  unfold ltP at *
  exact Prod.ext (by omega) (by omega)
theorem revL_perm (l : List (Int × Int)) : (revL l).Perm (l.map swapP) := List.mergeSort_perm _ _
theorem mem_revL {l : List (Int × Int)} {a b : Int} : (a, b) ∈ revL l ↔ (b, a) ∈ l := by
  rw [(revL_perm l).mem_iff, List.mem_map]
  constructor
  · rintro ⟨p, hp, e⟩
    unfold swapP at e
    injection e with e1 e2
    subst e1 e2; exact hp
  · intro h; exact ⟨_, h, rfl⟩
theorem revL_length (l : List (Int × Int)) : (revL l).length = l.length := by rw [(revL_perm l).length_eq, List.length_map]
theorem revL_sorted {l : List (Int × Int)} (h : l.Nodup) : (revL l).Pairwise ltP := by
  have h1 : (revL l).Pairwise fun x y => (!(ltOf cmpP) y x) = true := List.pairwise_mergeSort
    (fun x y z h1 h2 => by simp only [Bool.not_eq_true', ltOf_cmpP, decide_eq_false_iff_not] at *; unfold ltP at *; omega)
    (fun x y => by simp only [Bool.or_eq_true, Bool.not_eq_true', ltOf_cmpP, decide_eq_false_iff_not]; unfold ltP; omega) _
  have h2 : (revL l).Nodup := by
    rw [(revL_perm l).nodup_iff]
    exact List.pairwise_map.2 (h.imp fun {a b} hab e => hab (by unfold swapP at e; injection e with e1 e2; exact Prod.ext e2 e1))
  refine (h1.and h2).imp fun {x y} hxy => ?_
  obtain ⟨h3, h4⟩ := hxy
  simp only [Bool.not_eq_true', ltOf_cmpP, decide_eq_false_iff_not] at h3
  rcases Classical.em (ltP x y) with h5 | h5
  · exact h5
  · exact absurd (Prod.ext (by unfold ltP at *; omega) (by unfold ltP at *; omega)) h4
theorem vld_nodup {n : Nat} {l : List (Int × Int)} (h : Vld n l) : l.Nodup := h.2.imp fun {a b} hab e => by subst e; exact ltP_irrefl _ hab
theorem revL_vld {n : Nat} {l : List (Int × Int)} (h : Vld n l) : Vld n (revL l) := by
  refine ⟨⟨h.1.1, by rw [revL_length]; exact h.1.2.1, fun p hp => ?_⟩, revL_sorted (vld_nodup h)⟩
  obtain ⟨a, b⟩ := p
  have := h.1.2.2 _ (mem_revL.1 hp)
  simp at this ⊢; omega
theorem att_revL {l : List (Int × Int)} {a b : Nat} : att (revL l) a b ↔ att l b a := mem_revL
theorem attacked_revL {n : Nat} {l : List (Int × Int)} (h : Vld n l) (i : Int) : attackedL (revL l) i = attackersL l i :=
  sorted_ext _ _ (attackedL_sorted (revL_vld h).2 i) (attackersL_sorted h.2 i) fun x => by rw [mem_attackedL, mem_attackersL, mem_revL]
theorem attackers_revL {n : Nat} {l : List (Int × Int)} (h : Vld n l) (i : Int) : attackersL (revL l) i = attackedL l i :=
  sorted_ext _ _ (attackersL_sorted (revL_vld h).2 i) (attackedL_sorted h.2 i) fun x => by rw [mem_attackersL, mem_attackedL, mem_revL]
theorem sortedP_ext : ∀ (a b : List (Int × Int)), a.Pairwise ltP → b.Pairwise ltP → (∀ x, x ∈ a ↔ x ∈ b) → a = b
  | [], [], _, _, _ => rfl
  | [], y :: b, _, _, h => by have := (h y).2 (List.mem_cons_self ..); cases this
  | x :: a, [], _, _, h => by have := (h x).1 (List.mem_cons_self ..); cases this
  | x :: a, y :: b, ha, hb, h => by
    obtain ⟨ha1, ha2⟩ := List.pairwise_cons.1 ha
    obtain ⟨hb1, hb2⟩ := List.pairwise_cons.1 hb
    have hxy : x = y := by
      rcases List.mem_cons.1 ((h x).1 (List.mem_cons_self ..)) with e | hx
      · exact e
      · rcases List.mem_cons.1 ((h y).2 (List.mem_cons_self ..)) with e | hy
        · exact e.symm
        · exact absurd (ltP_trans (ha1 y hy) (hb1 x hx)) (ltP_irrefl _)
    subst hxy
    congr 1
    refine sortedP_ext a b ha2 hb2 fun z => ⟨fun hz => ?_, fun hz => ?_⟩
    · rcases List.mem_cons.1 ((h z).1 (List.mem_cons_of_mem _ hz)) with e | hz'
      · subst e; exact absurd (ha1 z hz) (ltP_irrefl _)
      · exact hz'
    · rcases List.mem_cons.1 ((h z).2 (List.mem_cons_of_mem _ hz)) with e | hz'
      · subst e; exact absurd (hb1 z hz) (ltP_irrefl _)
      · exact hz'
theorem revL_revL {n : Nat} {l : List (Int × Int)} (h : Vld n l) : revL (revL l) = l :=
  sortedP_ext _ _ (revL_vld (revL_vld h)).2 h.2 fun p => by obtain ⟨a, b⟩ := p; rw [mem_revL, mem_revL]

/-- a pair's two cells -/
def encP (p : Int × Int) : List Value := [.int .i64 p.1, .int .i64 p.2]
theorem flatK_encP (d : Array (Int × Int)) {k : Nat} (h : k < d.size) : (Go.Sort.flatK encP 2 d)[k * 2]! = .int .i64 d[k]!.1 ∧ (Go.Sort.flatK encP 2 d)[k * 2 + 1]! = .int .i64 d[k]!.2 := by
  rw [Go.Sort.get_flatK _ _ _ _ (by omega), Go.Sort.get_flatK _ _ _ _ (by omega)]
  have e1 : k * 2 / 2 = k := by omega
  have e2 : (k * 2 + 1) / 2 = k := by omega
  have e3 : k * 2 % 2 = 0 := by omega
  have e4 : (k * 2 + 1) % 2 = 1 := by omega
  rw [e1, e2, e3, e4]
  exact ⟨rfl, rfl⟩
theorem rp_of_holds {w : World} {g : Nat} {l : List (Int × Int)} (h : Go.Sort.HoldsK encP 2 w g 0 l.toArray) : RP w (some ⟨g, 0, none⟩) l := by
  intro k hk
  have hd : k < l.toArray.size := by simpa using hk
  obtain ⟨f1, f2⟩ := flatK_encP l.toArray hd
  have hg : l.toArray[k]! = l.getD k (0, 0) := by simp [List.getD, hk]
  have h1 := (h (k * 2) (by simp; omega)).1
  have h2 := (h (k * 2 + 1) (by simp; omega)).1
  rw [f1, hg] at h1
  rw [f2, hg] at h2
  refine ⟨g, 0, rfl, h1, ?_⟩
  rw [Nat.zero_add] at h2 ⊢
  exact h2
theorem holds_of_own {w : World} {b g c : Nat} {l : List (Int × Int)} (h : OwnP w b (.slice (some ⟨g, 0, none⟩) l.length c) l) : Go.Sort.HoldsK encP 2 w g 0 l.toArray := by
  have h' := h
  obtain ⟨h1, h2⟩ := h
  rcases h2 with ⟨e, _⟩ | ⟨g', cap, cur, e, hg, hh, hn, hcap, hs, ht⟩
  · cases e
  · injection e with e1 e2 e3
    injection e1 with e1
    injection e1 with e1 _ _
    subst e1
    intro j hj
    have hj' : j < l.length * 2 := by simpa using hj
    refine ⟨?_, by simp [World.frozen?, hh]⟩
    have hk : j / 2 < l.length := by omega
    obtain ⟨p1, p2⟩ := flatP_at l (j / 2) hk
    obtain ⟨f1, f2⟩ := flatK_encP l.toArray (k := j / 2) (by simpa using hk)
    have hg2 : l.toArray[j / 2]! = l.getD (j / 2) (0, 0) := by simp [List.getD, hk]
    rw [hg2] at f1 f2
    rcases Nat.mod_two_eq_zero_or_one j with hm | hm
    · have e : j / 2 * 2 = j := by omega
      rw [e] at p1 f1
      have hc := h'.cells (g := g) rfl _ _ p1
      rw [show (⟨g, 0, none⟩ : Addr).add j = ⟨g, 0 + j, none⟩ by unfold Addr.add; split <;> simp_all] at hc
      rw [f1]; exact hc
    · have e : j / 2 * 2 + 1 = j := by omega
      rw [e] at p2 f2
      have hc := h'.cells (g := g) rfl _ _ p2
      rw [show (⟨g, 0, none⟩ : Addr).add j = ⟨g, 0 + j, none⟩ by unfold Addr.add; split <;> simp_all] at hc
      rw [f2]; exact hc
/-- what the sort leaves of the rest -/
theorem sorted_world {w : World} {g n : Nat} {d : Array (Int × Int)} {os : Array Obj} (hg : g < w.heap.size) : w.grownBy (sortWorldK encP 2 w g 0 n d os) (some g) ∧ ∀ B, B ≤ g → Below B w (sortWorldK encP 2 w g 0 n d os) := by
  have hsz : w.heap.size ≤ (sortWorldK encP 2 w g 0 n d os).heap.size := size_sortWorldK_c encP 2 w g 0 n d os
  have hblk : ∀ k, k < w.heap.size → k ≠ g → (sortWorldK encP 2 w g 0 n d os).heap[k]? = w.heap[k]? := fun k hk hne => by
    unfold sortWorldK
    rw [Go.Sort.heap_grow_old _ os (by rw [Go.Sort.size_putRowK]; exact hk)]
    unfold Go.Sort.putRowK Go.Sort.putRow Go.Sort.mapBlock
    simp only [Array.getElem?_modify, if_neg (fun e : g = k => hne e.symm)]
    rfl
  exact ⟨⟨rfl, rfl, rfl, hsz, fun k hk hne => hblk k hk (fun e => hne (congrArg some e))⟩, fun B hB => ⟨rfl, rfl, rfl, hsz, fun k hk => hblk k (by omega) (by omega)⟩⟩
end Go.Proofs.YtncimnfhfomddaaDoor
