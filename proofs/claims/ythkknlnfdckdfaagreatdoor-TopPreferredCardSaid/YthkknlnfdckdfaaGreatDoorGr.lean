import Derived.Test.YthkknlnfdckdfaaGreatDoorRef10
import Derived.Test.YthkknlnfdckdfaaGreatDoorTxtX
import Derived.Sort.Grow
import Derived.Test.YthkknlnfdckdfaaGreatDoorAdm
import Derived.Test.YthkknlnfdckdfaaGreatDoorP12
import Derived.BigRegion
import Derived.Test.YthkknlnfdckdfaaGreatDoorGenM
import Derived.Shelf.SlSortCmp.InsertionK
/- graph: the order of pairs, compare, Validate. -/
namespace Go.Proofs.YthkknlnfdckdfaaGreatDoor
open Go.ChangeShapes Go.WideShapes Go.ChangeAt Go.RowKit

/-- what a call that draws, and lays new blocks alone, makes of a world -/
def Grew (w w' : World) : Prop := ∃ q os, w' = Sort.grow (w.drewN q) os
theorem Grew.refl (w : World) : Grew w w := ⟨0, #[], by rw [Sort.grow_empty]; rfl⟩
theorem Grew.drewN {a w : World} (h : Grew a w) (n : Nat) : Grew a (w.drewN n) := by
  obtain ⟨q, os, rfl⟩ := h
  exact ⟨q + n, os, by show (Sort.grow (a.drewN q) os).drewN n = _; rw [← World.drewN_drewN]; rfl⟩
theorem Grew.drew {a w : World} (h : Grew a w) : Grew a w.drew := h.drewN 1
theorem Grew.alloc {a w : World} (h : Grew a w) (o : Obj) : Grew a (w.alloc o) := by
  obtain ⟨q, os, rfl⟩ := h
  exact ⟨q, os ++ #[o], by rw [Sort.alloc_eq_grow, Sort.grow_grow]⟩
theorem Grew.trans {a b c : World} (h : Grew a b) (k : Grew b c) : Grew a c := by
  obtain ⟨q, os, rfl⟩ := h
  obtain ⟨q', os', rfl⟩ := k
  exact ⟨q + q', os ++ os', by show Sort.grow (Sort.grow ((a.drewN q).drewN q') os) os' = _; rw [Sort.grow_grow, World.drewN_drewN]⟩
theorem Grew.below {a w : World} (h : Grew a w) : Below a.heap.size a w := by
  obtain ⟨q, os, rfl⟩ := h
  exact ⟨rfl, rfl, rfl, by rw [Sort.size_grow]; exact Nat.le_add_right _ _, fun i hi => Sort.heap_grow_old (a.drewN q) os hi⟩
/-- the call returns v; it has drawn and laid new blocks alone -/
def RetX (v : Value) (w : World) : Ending → World → Prop := fun e w' => e = .returned v ∧ Grew w w'
theorem RetX.below {v : Value} {w w' : World} {e : Ending} (h : RetX v w e w') : RetB v w e w' := ⟨h.1, h.2.below⟩

def cmpI (a b : Int) : Int := if a < b then -1 else if b < a then 1 else 0
theorem cmpI_lt {a b : Int} (h : a < b) : cmpI a b = -1 := by unfold cmpI; rw [if_pos h]
theorem cmpI_gt {a b : Int} (h : b < a) : cmpI a b = 1 := by unfold cmpI; rw [if_neg (by omega), if_pos h]
theorem cmpI_eq {a b : Int} (h : a = b) : cmpI a b = 0 := by unfold cmpI; rw [if_neg (by omega), if_neg (by omega)]

set_option maxHeartbeats 400000 in
theorem cmpc_any (a b : Int) (w : World) : Calls Tryz.prog 77 #[.int .i64 a, .int .i64 b] w (Ret (.int .i64 (cmpI a b)) w) := by
  by_cases h1 : a < b
  · have H := Lib.hid (cmpI_lt h1)
    go_enter Tryz.func77, Tryz.ntmps77
    go_wp2
    go_ret
    exact ⟨ri H.out.symm, rfl⟩
  by_cases h2 : b < a
  · have H := Lib.hid (cmpI_gt h2)
    go_enter Tryz.func77, Tryz.ntmps77
    go_wp2
    go_ret
    exact ⟨ri H.out.symm, rfl⟩
  · have H := Lib.hid (cmpI_eq (show a = b by omega))
    go_enter Tryz.func77, Tryz.ntmps77
    go_wp2
    go_ret
    exact ⟨ri H.out.symm, rfl⟩

def orI (x y : Int) : Int := if x = 0 then y else x
set_option maxHeartbeats 400000 in
theorem or_any (A : Option Addr) (x y : Int) (c : Nat) (w : World) (hr : RI w A [x, y]) : Calls Tryz.prog 76 #[.slice A 2 c] w (Ret (.int .i64 (orI x y)) w) := by
  obtain ⟨b, o, rfl, hc0⟩ := hr.at_ (k := 0) (by simp)
  obtain ⟨b', o', hA, hc1⟩ := hr.at_ (k := 1) (by simp)
  injection hA with hA
  injection hA with hb ho
  subst hb ho
  have hd0 : w.cell? ⟨b, o, none⟩ = some (.int .i64 x) := hc0
  have hd1 : w.cell? ⟨b, o + 1, none⟩ = some (.int .i64 y) := hc1
  clear hc0 hc1 hr
  go_enter Tryz.func76, Tryz.ntmps76
  go_wp2
  go_loop [8] (fun i => ∃ k : Nat, i = .int .i64 k ∧ (k = 0 ∨ (k = 1 ∧ x = 0) ∨ (k = 2 ∧ x = 0 ∧ y = 0))) (fun i => 2 - (intOf i).toNat)
  case atStart => exact ⟨0, rfl, .inl rfl⟩
  case round =>
    obtain ⟨k, rfl, hk⟩ := hrel
    rcases hk with rfl | ⟨rfl, h0⟩ | ⟨rfl, h0, h1⟩
    · by_cases hx : x = 0
      · have hd : (x != 0) = false := by simpa using hx
        have Hx := Lib.hid hx; clear hx
        go_wp2
        go_round
        case rel => exact ⟨1, rfl, .inr (.inl ⟨rfl, Hx.out⟩)⟩
        case measure => simp [intOf]
      · have hd : (x != 0) = true := by simpa using hx
        have Hx := Lib.hid hx; clear hx
        go_wp2
        go_ret
        exact ⟨ri (by unfold orI; rw [if_neg Hx.out]), rfl⟩
    · have H0 := Lib.hid h0; clear h0
      by_cases hx : y = 0
      · have hd : (y != 0) = false := by simpa using hx
        have Hx := Lib.hid hx; clear hx
        go_wp2
        go_round
        case rel => exact ⟨2, rfl, .inr (.inr ⟨rfl, H0.out, Hx.out⟩)⟩
        case measure => simp [intOf]
      · have hd : (y != 0) = true := by simpa using hx
        have Hx := Lib.hid hx; clear hx
        go_wp2
        go_ret
        exact ⟨ri (by unfold orI; rw [if_pos H0.out]), rfl⟩
    · have H0 := Lib.hid h0; have H1 := Lib.hid h1; clear h0 h1
      go_wp2
      go_ret
      exact ⟨ri (by unfold orI; rw [if_pos H0.out, H1.out]), rfl⟩

theorem new_ri2' (w : World) (t : TypeId) (a b : Int) : RI (w.alloc (.cells #[.int .i64 a, .int .i64 b] t)) (some ⟨w.heap.size, 0, none⟩) [a, b] := by
  intro k hk
  refine ⟨w.heap.size, 0, rfl, ?_⟩
  rw [(Blk.new w t #[.int .i64 a, .int .i64 b]).cell]
  match k, hk with
  | 0, _ => rfl
  | 1, _ => rfl

/-- what compare returns -/
def cmpP (p q : Int × Int) : Int := orI (cmpI p.1 q.1) (cmpI p.2 q.2)
set_option maxHeartbeats 1000000 in
theorem compare_any (p q : Int × Int) (w : World) : Calls Tryz.prog 49 #[.agg #[.int .i64 p.1, .int .i64 p.2], .agg #[.int .i64 q.1, .int .i64 q.2]] w (RetX (.int .i64 (cmpP p q)) w) := by
  go_enter Tryz.func49, Tryz.ntmps49
  go_wp2_with fail
  obtain ⟨W0, hW, k0, k1, _, _⟩ := boxed2 w 43 43 (.int .i64 p.1) (.int .i64 p.2) (.int .i64 q.1) (.int .i64 q.2)
  have hG : Grew w W0 := by rw [← hW]; exact ((Grew.refl w).alloc _).alloc _
  rw [hW]
  clear hW
  refine wp_region_textB [4, 9, 10, 11] (fun w' => Grew W0 w') (fun _ => True) (by kernel_rfl) (by kernel_rfl) (by kernel_rfl) (Grew.refl _).drew trivial ?_
  repeat (first
    | (refine TxtBL.skip (by rfl) ?_; simp only [Act.put, List.setIfInBounds_toArray, List.set_cons_zero, List.set_cons_succ])
    | (refine TxtBL.take (by rfl) (by rfl) ?_; apply Exists.intro; refine ⟨fun w1 hS1 => ?_, ?_⟩; (focus ((obtain ⟨g0, g1, _, _⟩ := (k0.below hS1.below k0.lt).two); (obtain ⟨g2, g3, _, _⟩ := (k1.below hS1.below k1.lt).two); go_simp; with_reducible rfl)); simp only [Act.put, List.setIfInBounds_toArray, List.set_cons_zero, List.set_cons_succ])
    | (refine TxtBL.takeE (by rfl) (by rfl) ?_; apply Exists.intro; refine ⟨fun w1 hS1 => ?_, ?_⟩; (focus ((obtain ⟨g0, g1, _, _⟩ := (k0.below hS1.below k0.lt).two); (obtain ⟨g2, g3, _, _⟩ := (k1.below hS1.below k1.lt).two); go_simp; with_reducible rfl)); simp only [Act.put, List.setIfInBounds_toArray, List.set_cons_zero, List.set_cons_succ]))
  refine TxtBL.call (f := 77) (args := #[.int .i64 p.1, .int .i64 q.1]) (fun v => v = .int .i64 (cmpI p.1 q.1)) (fun _ _ => True) (by rfl) (by rfl) ⟨_, rfl⟩ (fun w1 hS1 hJ1 => by go_simp) (fun w1 hS1 hJ1 => ?_) ?_
  · refine (cmpc_any _ _ w1).mono ?_
    rintro e w' ⟨rfl, rfl⟩
    exact ⟨_, rfl, hS1, rfl, trivial⟩
  rintro v rfl
  simp only [Act.put, List.setIfInBounds_toArray, List.set_cons_zero, List.set_cons_succ]
  repeat (first
    | (refine TxtBL.skip (by rfl) ?_; simp only [Act.put, List.setIfInBounds_toArray, List.set_cons_zero, List.set_cons_succ])
    | (refine TxtBL.take (by rfl) (by rfl) ?_; apply Exists.intro; refine ⟨fun w1 hS1 => ?_, ?_⟩; (focus ((obtain ⟨g0, g1, _, _⟩ := (k0.below hS1.below k0.lt).two); (obtain ⟨g2, g3, _, _⟩ := (k1.below hS1.below k1.lt).two); go_simp; with_reducible rfl)); simp only [Act.put, List.setIfInBounds_toArray, List.set_cons_zero, List.set_cons_succ])
    | (refine TxtBL.takeE (by rfl) (by rfl) ?_; apply Exists.intro; refine ⟨fun w1 hS1 => ?_, ?_⟩; (focus ((obtain ⟨g0, g1, _, _⟩ := (k0.below hS1.below k0.lt).two); (obtain ⟨g2, g3, _, _⟩ := (k1.below hS1.below k1.lt).two); go_simp; with_reducible rfl)); simp only [Act.put, List.setIfInBounds_toArray, List.set_cons_zero, List.set_cons_succ]))
  refine TxtBL.call (f := 77) (args := #[.int .i64 p.2, .int .i64 q.2]) (fun v => v = .int .i64 (cmpI p.2 q.2)) (fun _ _ => True) (by rfl) (by rfl) ⟨_, rfl⟩ (fun w1 hS1 hJ1 => by go_simp) (fun w1 hS1 hJ1 => ?_) ?_
  · refine (cmpc_any _ _ w1).mono ?_
    rintro e w' ⟨rfl, rfl⟩
    exact ⟨_, rfl, hS1, rfl, trivial⟩
  rintro v rfl
  simp only [Act.put, List.setIfInBounds_toArray, List.set_cons_zero, List.set_cons_succ]
  refine TxtBL.value (fun v => ∃ g, v = Value.slice (some ⟨g, 0, none⟩) 2 2) (fun v w' => ∃ g, v = Value.slice (some ⟨g, 0, none⟩) 2 2 ∧ RI w' (some ⟨g, 0, none⟩) [cmpI p.1 q.1, cmpI p.2 q.2]) (by rfl) (by rfl) ⟨_, 0, rfl⟩ (fun w1 hS1 hJ1 => ?_) ?_
  · exact ⟨.slice (some ⟨w1.heap.size, 0, none⟩) 2 2, w1.alloc (.cells #[.int .i64 (cmpI p.1 q.1), .int .i64 (cmpI p.2 q.2)] 3), by go_simp, hS1.alloc _, ⟨_, rfl⟩, _, rfl, new_ri2' _ _ _ _⟩
  rintro v ⟨g, rfl⟩
  simp only [Act.put, List.setIfInBounds_toArray, List.set_cons_zero, List.set_cons_succ]
  refine TxtBL.call (f := 76) (args := #[.slice (some ⟨g, 0, none⟩) 2 2]) (fun v => v = .int .i64 (cmpP p q)) (fun _ _ => True) (by rfl) (by rfl) ⟨_, rfl⟩ (fun w1 hS1 hJ1 => by go_simp) (fun w1 hS1 hJ1 => ?_) ?_
  · obtain ⟨g', hg', hri⟩ := hJ1
    injection hg' with hg' _ _; injection hg' with hg'; injection hg' with hg' _ _; subst hg'
    refine (or_any _ _ _ _ w1 hri).mono ?_
    rintro e w' ⟨rfl, rfl⟩
    exact ⟨_, rfl, hS1, rfl, trivial⟩
  rintro v rfl
  simp only [Act.put, List.setIfInBounds_toArray, List.set_cons_zero, List.set_cons_succ]
  repeat (first
    | (refine TxtBL.skip (by rfl) ?_; simp only [Act.put, List.setIfInBounds_toArray, List.set_cons_zero, List.set_cons_succ])
    | (refine TxtBL.take (by rfl) (by rfl) ?_; apply Exists.intro; refine ⟨fun w1 hS1 => ?_, ?_⟩; (focus (skip; go_simp; with_reducible rfl)); simp only [Act.put, List.setIfInBounds_toArray, List.set_cons_zero, List.set_cons_succ])
    | (refine TxtBL.takeE (by rfl) (by rfl) ?_; apply Exists.intro; refine ⟨fun w1 hS1 => ?_, ?_⟩; (focus (skip; go_simp; with_reducible rfl)); simp only [Act.put, List.setIfInBounds_toArray, List.set_cons_zero, List.set_cons_succ]))
  refine TxtBL.nil (fun B hS hJ => ?_)
  go_wp2
  go_ret
  exact ⟨rfl, hG.trans hS⟩
end Go.Proofs.YthkknlnfdckdfaaGreatDoor

/- graph: Validate, proper. -/
namespace Go.Proofs.YthkknlnfdckdfaaGreatDoor
open Go.ChangeShapes Go.WideShapes Go.ChangeAt Go.RowKit

theorem cmpP_neg {p q : Int × Int} : cmpP p q < 0 ↔ ltP p q := by
  unfold cmpP orI ltP
  by_cases h1 : p.1 < q.1
  · rw [cmpI_lt h1]; simp; omega
  · by_cases h2 : q.1 < p.1
    · rw [cmpI_gt h2]; simp; omega
    · rw [cmpI_eq (show p.1 = q.1 by omega), if_pos rfl]
      by_cases h3 : p.2 < q.2
      · rw [cmpI_lt h3]; simp; omega
      · by_cases h4 : q.2 < p.2
        · rw [cmpI_gt h4]; simp; omega
        · rw [cmpI_eq (show p.2 = q.2 by omega)]; simp; omega

set_option maxRecDepth 100000 in
set_option maxHeartbeats 4000000 in
theorem gValidate_any (A : Option Addr) (N : Int) (l : List (Int × Int)) (c : Nat) (w : World) (hr : RP w A l) (hlen : l.length ≤ 100000) :
    Calls Tryz.prog 21 #[.agg #[.int .i64 N, .slice A l.length c]] w (RetB (.int .i64 (valE N l)) w) := by
  by_cases hN1 : N < 0
  · go_enter Tryz.func21, Tryz.ntmps21
    go_wp2
    go_ret
    exact ⟨ri (by simp [valE, hN1]), (Below.refl _ _).alloc (Nat.le_refl _) _⟩
  have hN1' : 0 ≤ N := by omega
  clear hN1
  by_cases hN2 : 40 < N
  · go_enter Tryz.func21, Tryz.ntmps21
    go_wp2
    go_ret
    exact ⟨ri (by simp [valE, hN2]), (Below.refl _ _).alloc (Nat.le_refl _) _⟩
  have hN2' : N ≤ 40 := by omega
  clear hN2
  have hval : valE N l = scanV N none l := by unfold valE; rw [if_neg (by omega)]
  have Hval := Lib.hid hval; clear hval
  go_enter Tryz.func21, Tryz.ntmps21
  go_wp2_with fail
  obtain ⟨WG, hW, c0, c1, hb0, hlt0⟩ := boxed w 27 (.int .i64 N) (.slice A l.length c)
  rw [hW]
  have hr0 := hr.below hb0
  clear hW hr
  go_loopw [16] (fun i wr => ∃ k : Nat, k ≤ l.length ∧ i = .int .i64 k ∧ scanV N (prevO l k) (l.drop k) = scanV N none l ∧ Below WG.heap.size WG wr) (fun i _ => l.length - (intOf i).toNat)
  case atStart => exact ⟨0, by omega, rfl, rfl, Below.refl _ _⟩
  case round =>
    obtain ⟨k, hk, rfl, hsc, hbl⟩ := hrel
    have Hsc := Lib.hid hsc; clear hsc
    have d0 := (hbl.cell (lt_of_cell c0)).trans c0
    have d1 := (hbl.cell (lt_of_cell c1)).trans c1
    by_cases hlt : k < l.length
    case neg =>
      go_wp2
      go_ret
      refine ⟨ri ?_, endB hb0 hbl⟩
      rw [Hval.out, ← Hsc.out, List.drop_of_length_le (by omega)]
      cases prevO l k <;> rfl
    case pos =>
    obtain ⟨b, o, rfl, hc, hd⟩ := (hr0.below hbl).at_ hlt
    have hle := leB hb0 hbl
    have hltw : w.heap.size < wr.heap.size := Nat.lt_of_lt_of_le hlt0 hbl.size
    have hend : ∀ o : Obj, Below w.heap.size w (wr.alloc o) := fun o => (endB hb0 hbl).alloc hle o
    by_cases hok : okP N l[k]
    case neg =>
      have hb := scanV_bad hlt hok
      have Hb := Lib.hid hb; clear hb
      by_cases hm : l[k].2 < l[k].1
      · by_cases t1 : l[k].2 < 0
        · have t1x : ¬ 0 ≤ l[k].2 := by omega
          go_wp2
          go_ret
          exact ⟨ri (by rw [Hval.out, ← Hsc.out, Hb.out]), hend _⟩
        · have t2 : N ≤ l[k].1 := by unfold okP at hok; omega
          have t1' : 0 ≤ l[k].2 := by omega
          have t3 : ¬ l[k].1 < l[k].2 := by omega
          clear t1 hok
          go_wp2
          go_ret
          exact ⟨ri (by rw [Hval.out, ← Hsc.out, Hb.out]), hend _⟩
      · have hm' : l[k].1 ≤ l[k].2 := by omega
        by_cases t1 : l[k].1 < 0
        · clear hm
          go_wp2
          go_ret
          exact ⟨ri (by rw [Hval.out, ← Hsc.out, Hb.out]), hend _⟩
        · have t2 : N ≤ l[k].2 := by unfold okP at hok; omega
          have t1' : 0 ≤ l[k].1 := by omega
          clear t1 hok hm
          by_cases t3 : l[k].1 < l[k].2
          · go_wp2
            go_ret
            exact ⟨ri (by rw [Hval.out, ← Hsc.out, Hb.out]), hend _⟩
          · have t4 : N ≤ l[k].1 := by omega
            go_wp2
            go_ret
            exact ⟨ri (by rw [Hval.out, ← Hsc.out, Hb.out]), hend _⟩
    case pos =>
    have Hok := Lib.hid hok
    obtain ⟨t1', t2', t3', t4'⟩ : 0 ≤ l[k].1 ∧ l[k].1 < N ∧ 0 ≤ l[k].2 ∧ l[k].2 < N := hok
    obtain ⟨W0, hW, e0, e1, hbW, hltW⟩ := boxed wr 43 (.int .i64 l[k].1) (.int .i64 l[k].2)
    have f0 := (hbW.cell (lt_of_cell d0)).trans d0
    have f1 := (hbW.cell (lt_of_cell d1)).trans d1
    have hendW := (endB hb0 hbl).trans (hbW.mono hle)
    have hblW : Below WG.heap.size WG W0 := hbl.trans (hbW.mono hbl.size)
    have hmin : decide ((if l[k].2 < l[k].1 then l[k].2 else l[k].1) < 0) = false := by rw [decide_eq_false_iff_not]; split <;> omega
    have hmax : decide (N ≤ (if l[k].1 < l[k].2 then l[k].2 else l[k].1)) = false := by rw [decide_eq_false_iff_not]; split <;> omega
    by_cases hk0 : k = 0
    · have hg : decide ((0 : Int) < (k : Int)) = false := by simp; omega
      have hgn : decide (0 < k) = false := by simp; omega
      have Hk0 := Lib.hid hk0; clear hk0
      go_wp2_with fail
      all_goals
        clear hW
        refine wp_region_text (S := fun w' => Below W0.heap.size W0 w') (by kernel_rfl) (by kernel_rfl) (Below.refl _ _).drew ?_
        repeat (first
          | (refine TxtL.skip (by rfl) ?_; simp only [Act.put, List.setIfInBounds_toArray, List.set_cons_zero, List.set_cons_succ])
          | (refine TxtL.take' (by rfl) ?_; apply Exists.intro; refine ⟨fun w1 hS1 => ?_, ?_⟩; (focus ((have g0 := (hS1.cell (lt_of_cell e0)).trans e0); (have g1 := (hS1.cell (lt_of_cell e1)).trans e1); (have g2 := (hS1.cell (lt_of_cell f1)).trans f1); go_simp; with_reducible rfl)); simp only [Act.put, List.setIfInBounds_toArray, List.set_cons_zero, List.set_cons_succ]))
        refine TxtL.nil (fun w1 hS1 => ?_)
        go_wp2
        go_roundw
        case rel => exact ⟨k + 1, by omega, by go_num, by rw [← scanV_first Hk0.out hlt Hok.out]; exact Hsc.out, hblW.trans (hS1.mono hblW.size)⟩
        case measure => simp [intOf]; omega
    · obtain ⟨j, hj⟩ : ∃ j, k = j + 1 := ⟨k - 1, by omega⟩
      subst hj
      clear hk0
      have hjl : j < l.length := by omega
      obtain ⟨b', o', hA, hc', hd'⟩ := (hr0.below hblW).at_ hjl
      injection hA with hA
      injection hA with hb ho
      subst hb ho
      have hpos : decide ((0 : Int) < (j : Int) + 1) = true := decide_eq_true (by omega)
      have hi0 : (0 : Int) ≤ (j : Int) := by omega
      have hi1 : (j : Int) < (l.length : Int) := by omega
      have hself := int_self (j := j) (by omega)
      have hsub : IntKind.i64.wrap ((j : Int) + 1 - 1) = j := by rw [Int.add_sub_cancel]; exact hself
      have hcmp : decide ((0 : Int) ≤ cmpP l[j] l[j + 1]) = !decide (ltP l[j] l[j + 1]) := by
        rw [Bool.eq_iff_iff]; simp [← cmpP_neg]
      cases hdl : decide (ltP l[j] l[j + 1])
      all_goals
        rw [hdl] at hcmp
        have Hd := Lib.hid hdl; clear hdl
        have Hcmp := Lib.hid hcmp; clear hcmp
        go_wp2_with fail
        all_goals
          clear hW
          refine wp_region_textB [10] (fun w' => Below W0.heap.size W0 w') (fun _ => True) (by kernel_rfl) (by kernel_rfl) (by kernel_rfl) (Below.refl _ _).drew trivial ?_
          repeat (first
            | (refine TxtBL.skip (by rfl) ?_; simp only [Act.put, List.setIfInBounds_toArray, List.set_cons_zero, List.set_cons_succ])
            | (refine TxtBL.take (by rfl) (by rfl) ?_; apply Exists.intro; refine ⟨fun w1 hS1 => ?_, ?_⟩; (focus ((have g0 := (hS1.cell (lt_of_cell e0)).trans e0); (have g1 := (hS1.cell (lt_of_cell e1)).trans e1); (have g2 := (hS1.cell (lt_of_cell f1)).trans f1); (have g3 := (hS1.cell (lt_of_cell hc')).trans hc'); (have g4 := (hS1.cell (lt_of_cell hd')).trans hd'); go_simp; with_reducible rfl)); simp only [Act.put, List.setIfInBounds_toArray, List.set_cons_zero, List.set_cons_succ])
            | (refine TxtBL.takeE (by rfl) (by rfl) ?_; apply Exists.intro; refine ⟨fun w1 hS1 => ?_, ?_⟩; (focus ((have g0 := (hS1.cell (lt_of_cell e0)).trans e0); (have g1 := (hS1.cell (lt_of_cell e1)).trans e1); (have g2 := (hS1.cell (lt_of_cell f1)).trans f1); (have g3 := (hS1.cell (lt_of_cell hc')).trans hc'); (have g4 := (hS1.cell (lt_of_cell hd')).trans hd'); go_simp; with_reducible rfl)); simp only [Act.put, List.setIfInBounds_toArray, List.set_cons_zero, List.set_cons_succ]))
          refine TxtBL.call (f := 49) (args := #[.agg #[.int .i64 l[j].1, .int .i64 l[j].2], .agg #[.int .i64 l[j + 1].1, .int .i64 l[j + 1].2]]) (fun v => v = .int .i64 (cmpP l[j] l[j + 1])) (fun _ _ => True) (by rfl) (by rfl) ⟨_, rfl⟩ (fun w1 hS1 hJ1 => by go_simp) (fun w1 hS1 hJ1 => ?_) ?_
          · refine (compare_any _ _ w1).mono ?_
            intro e w' hh
            obtain ⟨rfl, hb⟩ := hh.below
            exact ⟨_, rfl, hS1.trans (hb.mono hS1.size), rfl, trivial⟩
          rintro v rfl
          simp only [Act.put, List.setIfInBounds_toArray, List.set_cons_zero, List.set_cons_succ]
          have hcmp := Hcmp.out
          repeat (first
            | (refine TxtBL.skip (by rfl) ?_; simp only [Act.put, List.setIfInBounds_toArray, List.set_cons_zero, List.set_cons_succ])
            | (refine TxtBL.take (by rfl) (by rfl) ?_; apply Exists.intro; refine ⟨fun w1 hS1 => ?_, ?_⟩; (focus (skip; go_simp; with_reducible rfl)); simp only [Act.put, List.setIfInBounds_toArray, List.set_cons_zero, List.set_cons_succ])
            | (refine TxtBL.takeE (by rfl) (by rfl) ?_; apply Exists.intro; refine ⟨fun w1 hS1 => ?_, ?_⟩; (focus (skip; go_simp; with_reducible rfl)); simp only [Act.put, List.setIfInBounds_toArray, List.set_cons_zero, List.set_cons_succ]))
          refine TxtBL.nil (fun B hS hJ => ?_)
          clear hcmp
          go_wp2
          first
            | (go_ret
               exact ⟨ri (by rw [Hval.out, ← Hsc.out, scanV_order hlt Hok.out (of_decide_eq_false Hd.out)]), hendW.trans (hS.mono (Nat.le_trans hle hbW.size))⟩)
            | (go_roundw
               case rel => exact ⟨j + 1 + 1, by omega, by go_num, by rw [← scanV_next hlt Hok.out (of_decide_eq_true Hd.out)]; exact Hsc.out, hblW.trans (hS.mono hblW.size)⟩
               case measure => simp [intOf]; omega)

set_option maxHeartbeats 1000000 in
theorem proper_any (A : Option Addr) (N : Int) (l : List (Int × Int)) (c : Nat) (w : World) (hr : RP w A l) (hlen : l.length ≤ 100000) :
    Calls Tryz.prog 104 #[.agg #[.int .i64 N, .slice A l.length c]] w (RetGA A (nGn N l) (nGl N l) w) := by
  go_enter Tryz.func104, Tryz.ntmps104
  go_wp2_with fail
  obtain ⟨W0, hW, k0, k1, hb0, hlt0⟩ := boxed2 w 27 27 (.int .i64 N) (.slice A l.length c) (.int .i64 0) (.slice none 0 0)
  rw [hW]
  have hr0 := hr.below hb0
  have hltA : ∀ b o, A = some ⟨b, o, none⟩ → 0 < l.length → b ≠ w.heap.size + 1 := fun b o hA hl => by have := hr.lt hA hl; omega
  clear hW hr
  refine (gValidate_any _ _ _ _ _ hr0 hlen).mono ?_
  rintro e w1 ⟨rfl, hb⟩
  have j0 := k0.below hb k0.lt
  have j1 := k1.below hb k1.lt
  have hr1 := hr0.below hb
  obtain ⟨a0, a1, a2, a3⟩ := j0.two
  obtain ⟨b0, b1, b2, b3⟩ := j1.two
  have hB1 := Nat.le_of_lt hlt0
  have hend : ∀ x y : Value, Below w.heap.size w ((w1.setCell ⟨w.heap.size + 1, 0, none⟩ x).setCell ⟨w.heap.size + 1, 1, none⟩ y) := fun x y =>
    ((endB hb0 hb).setCell (p := ⟨w.heap.size + 1, 0, none⟩) (by simp) x).setCell (p := ⟨w.heap.size + 1, 1, none⟩) (by simp) y
  clear k0 k1
  by_cases hv : valE N l = 0
  · have hd : (valE N l != 0) = false := by simp [hv]
    have Hv := Lib.hid hv; clear hv
    go_wp2_with fail
    have j2 : Blk _ (w.heap.size + 1) 27 #[.int .i64 N, .slice A l.length c] := (j1.set_ 0 (.int .i64 N)).set_ 1 (.slice A l.length c)
    have hr2 : RP _ A l := hr1.far2 hltA (.int .i64 N) (.slice A l.length c)
    have hE := hend (.int .i64 N) (.slice A l.length c)
    generalize (w1.setCell ⟨w.heap.size + 1, 0, none⟩ (.int .i64 N)).setCell ⟨w.heap.size + 1, 1, none⟩ (.slice A l.length c) = W2 at j2 hr2 hE ⊢
    obtain ⟨e0, e1, _, _⟩ := j2.two
    refine bodyPost_ret (v := .agg #[.int .i64 N, .slice A l.length c]) (by simp [results, Tryz.results104, go_sem, e0, e1]) rfl ?_
    simp only [nGn, nGl, if_pos Hv.out]
    exact ⟨A, c, rfl, hr2, .inl rfl, hE⟩
  · have hd : (valE N l != 0) = true := by simp [hv]
    have Hv := Lib.hid hv; clear hv
    go_wp2_with fail
    have j2 : Blk _ (w.heap.size + 1) 27 #[.int .i64 0, .slice none 0 0] := (j1.set_ 0 (.int .i64 0)).set_ 1 (.slice none 0 0)
    have hE := hend (.int .i64 0) (.slice none 0 0)
    generalize (w1.setCell ⟨w.heap.size + 1, 0, none⟩ (.int .i64 0)).setCell ⟨w.heap.size + 1, 1, none⟩ (.slice none 0 0) = W2 at j2 hE ⊢
    obtain ⟨e0, e1, _, _⟩ := j2.two
    refine bodyPost_ret (v := .agg #[.int .i64 0, .slice none 0 0]) (by simp [results, Tryz.results104, go_sem, e0, e1]) rfl ?_
    simp only [nGn, nGl, if_neg Hv.out]
    exact ⟨none, 0, rfl, RP.nil _ _, .inr rfl, hE⟩
end Go.Proofs.YthkknlnfdckdfaaGreatDoor

/- graph: masks, list, Attacked. -/
namespace Go.Proofs.YthkknlnfdckdfaaGreatDoor
open Go.ChangeShapes Go.WideShapes Go.ChangeAt Go.RowKit

/-- the nodes that node i attacks, as a set -/
def mkM (l : List (Int × Int)) (i : Nat) : Nat := l.foldl (fun z p => if p.1.toNat = i then z ||| 1 <<< p.2.toNat else z) 0
theorem mkM_snoc (l : List (Int × Int)) (p : Int × Int) (i : Nat) : mkM (l ++ [p]) i = if p.1.toNat = i then mkM l i ||| 1 <<< p.2.toNat else mkM l i := by simp [mkM, List.foldl_append]
theorem testBit_mkM (l : List (Int × Int)) (i j : Nat) : (mkM l i).testBit j = l.any (fun p => decide (p.1.toNat = i) && decide (p.2.toNat = j)) := by
  suffices h : ∀ z, (l.foldl (fun z (p : Int × Int) => if p.1.toNat = i then z ||| 1 <<< p.2.toNat else z) z).testBit j = (z.testBit j || l.any (fun p => decide (p.1.toNat = i) && decide (p.2.toNat = j))) by
    have := h 0; simpa [mkM] using this
  induction l with
  | nil => intro z; simp
  | cons p l ih =>
    intro z
    rw [List.foldl_cons, List.any_cons, ih]
    by_cases h : p.1.toNat = i
    · rw [if_pos h, Nat.testBit_or, Nat.one_shiftLeft, Nat.testBit_two_pow, Bool.or_assoc]; simp [h]
    · rw [if_neg h]; simp [h]
theorem mkM_lt {n : Nat} {l : List (Int × Int)} (h : ∀ p ∈ l, p.2.toNat < n) (i : Nat) : mkM l i < 2 ^ n := by
  apply Nat.lt_pow_two_of_testBit
  intro j hj
  rw [testBit_mkM, List.any_eq_false]
  intro p hp
  have := h p hp
  simp; intro _; omega
theorem has_mkM {n : Nat} {l : List (Int × Int)} (hv : InR n l) (i j : Nat) : has (mkM l i) j ↔ att l i j := by
  unfold has
  rw [testBit_mkM, List.any_eq_true]
  constructor
  · rintro ⟨p, hp, h⟩
    simp only [Bool.and_eq_true, decide_eq_true_eq] at h
    have h1 := hv.2.2 p hp
    have e1 : ((i : Nat) : Int) = p.1 := by omega
    have e2 : ((j : Nat) : Int) = p.2 := by omega
    unfold att; rw [e1, e2]; exact hp
  · intro h
    exact ⟨_, h, by simp⟩

/-- the call returns a new slice of n sets -/
def RetM (n : Nat) (f : Nat → Nat) (w : World) : Ending → World → Prop := fun e w' => ∃ g, e = .returned (.slice (some ⟨g, 0, none⟩) n n) ∧ w.heap.size ≤ g ∧ w'.rowIs g 70 n (fun i => .int .u64 (f i : Nat)) ∧ Below w.heap.size w w'

theorem boxedRow (w : World) (t u : TypeId) (x y z : Value) (n : Nat) : ∃ W0, (w.alloc (.cells #[x, y] t)).alloc (.cells (madeCells #[z] n) u) = W0 ∧ Blk W0 w.heap.size t #[x, y] ∧ W0.rowIs (w.heap.size + 1) u n (fun _ => z) ∧ Below w.heap.size w W0 ∧ w.heap.size + 1 < W0.heap.size := by
  refine ⟨_, rfl, (Blk.new w t _).alloc _, ?_, ((Below.refl _ _).alloc (Nat.le_refl _) _).alloc (by simp) _, by simp⟩
  have := World.rowIs_made (w.alloc (.cells #[x, y] t)) z n u
  simpa using this

set_option maxRecDepth 100000 in
set_option maxHeartbeats 2000000 in
theorem masks_any (A : Option Addr) (n : Nat) (l : List (Int × Int)) (c : Nat) (w : World) (hr : RP w A l) (hv : InR n l) :
    Calls Tryz.prog 106 #[.agg #[.int .i64 (n : Int), .slice A l.length c]] w (RetM n (mkM l) w) := by
  have hn := hv.1; have hlen := hv.2.1
  have hmk := run_make_row' (P := Tryz.prog) 155 70 (.int .u64 0) 8 Tryz.underlying155 info_u64 rfl .i64 .i64 n (by omega) (by omega)
  go_enter Tryz.func106, Tryz.ntmps106
  go_wp2_with fail
  obtain ⟨WM, hW, k0, hrow, hb0, hlt0⟩ := boxedRow w 27 70 (.int .i64 n) (.slice A l.length c) (.int .u64 0) n
  rw [hW]
  clear hW hmk
  obtain ⟨c0, c1, _, _⟩ := k0.two
  go_loopw [12] (fun i wr => ∃ k : Nat, k ≤ l.length ∧ i = .int .i64 k ∧ wr.rowIs (w.heap.size + 1) 70 n (fun i => .int .u64 (mkM (l.take k) i : Nat)) ∧ Below (w.heap.size + 1) WM wr) (fun i _ => l.length - (intOf i).toNat)
  case atStart => exact ⟨0, by omega, rfl, hrow.congr (fun i _ => by simp [mkM]), Below.refl _ _⟩
  case round =>
    obtain ⟨k, hk, rfl, hrw, hbl⟩ := hrel
    have hbw : Below w.heap.size w wr := hb0.trans (hbl.mono (Nat.le_succ _))
    have hltr := Nat.lt_of_lt_of_le hlt0 hbl.size
    by_cases hlt : k < l.length
    case neg =>
      go_wp2_with fail
      go_ret
      have e := hrw
      rw [List.take_of_length_le (by omega)] at e
      exact ⟨w.heap.size + 1, rfl, Nat.le_succ _, e, hbw⟩
    case pos =>
    obtain ⟨b, o, rfl, hc, hd⟩ := (hr.below hbw).at_ hlt
    obtain ⟨v1, v2, v3, v4⟩ := hv.2.2 l[k] (List.getElem_mem _)
    obtain ⟨W0, hW, e0, e1, hbW, hltW⟩ := boxed wr 43 (.int .i64 l[k].1) (.int .i64 l[k].2)
    obtain ⟨a, ha⟩ := Int.eq_ofNat_of_zero_le v1
    obtain ⟨z, hz⟩ := Int.eq_ofNat_of_zero_le v3
    rw [ha] at v1 v2 e0 hc hW; rw [hz] at v3 v4 e1 hd hW
    have hpk : l[k] = ((a : Int), (z : Int)) := Prod.ext ha hz
    have Hpk := Lib.hid hpk
    have hrW := rowIs_new hrw hbW
    have han : a < n := by omega
    have hca := World.rowIs.cell hrW han
    have hfa := World.rowIs.frozen hrW a
    have Hrw := Lib.hid hrW
    clear hrW hrw hrow hpk ha hz
    go_wp2_with fail
    clear hW
    go_region
    have hz : mkM (l.take k) a < 18446744073709551616 := u64_of hn (mkM_lt (n := n) (fun p hp => by have := hv.2.2 p (List.mem_of_mem_take hp); omega) a)
    have h1 := u64_one_shl z (by omega)
    rw [Int.one_mul] at h1
    have h3 : 1 <<< z < 18446744073709551616 := by rw [Nat.one_shiftLeft]; exact two_pow_u64 (by omega)
    have hval : bits .or .u64 ((mkM (l.take k) a : Nat) : Int) (IntKind.u64.wrap (2 ^ z)) = ((mkM (l.take k) a ||| 1 <<< z : Nat) : Int) := by rw [h1, u64_or_nat _ _ hz h3]
    rw [hval]
    have hset := World.rowIs.set Hrw.out a (.int .u64 ((mkM (l.take k) a ||| 1 <<< z : Nat) : Int))
    have hbl2 : Below (w.heap.size + 1) WM (W0.setCell ⟨w.heap.size + 1, a, none⟩ (.int .u64 ((mkM (l.take k) a ||| 1 <<< z : Nat) : Int))) := (hbl.trans (hbW.mono (Nat.le_of_lt hltr))).setCell (p := ⟨w.heap.size + 1, a, none⟩) (Nat.le_refl _) _
    have Hset := Lib.hid hset
    clear hz h1 h3 hval hset
    generalize W0.setCell ⟨w.heap.size + 1, a, none⟩ (.int .u64 ((mkM (l.take k) a ||| 1 <<< z : Nat) : Int)) = W2 at Hset hbl2 ⊢
    go_wp2_with fail
    go_roundw
    case rel =>
      refine ⟨k + 1, by omega, by go_num, ?_, hbl2.drew⟩
      refine World.rowIs.drew (Hset.out.congr fun i hi => ?_)
      rw [List.take_succ_eq_append_getElem hlt, mkM_snoc, Hpk.out]
      by_cases e : i = a
      · subst e; simp
      · rw [if_neg e, if_neg (fun h => e (by simpa using h.symm))]
    case measure => simp [intOf]; omega

/-- the loop that lists a set -/
theorem glist_any (m : Nat) (hm : m < 18446744073709551616) (w : World) (hT : Tab w) :
    Calls Tryz.prog 105 #[.int .u64 (m : Int)] w (RetI (nodesB 64 m.testBit) w) := by
  have Hm := Lib.hid hm; clear hm
  go_enter Tryz.func105, Tryz.ntmps105
  go_wp2
  go_loopw [0, 3] (fun s v wr => ∃ (z : Nat) (out : List Int), s = .int .u64 z ∧ z < 18446744073709551616 ∧ OwnI wr w.heap.size v out ∧ out ++ nodesB 64 z.testBit = nodesB 64 m.testBit ∧ Below w.heap.size w wr) (fun s _ _ => (intOf s).toNat)
  case atStart => exact ⟨m, [], rfl, Hm.out, OwnI.nil _ _, rfl, Below.refl _ _⟩
  case round =>
    obtain ⟨z, out, rfl, hz, hown, hsum, hbl⟩ := hrel
    have Hs := Lib.hid hsum; have Hz := Lib.hid hz; have Hown := Lib.hid hown; clear hsum hz hown
    by_cases h0 : z = 0
    · subst h0
      go_wp2
      go_ret
      refine RetI.mk ?_ hbl
      have e : nodesB 64 m.testBit = out := by rw [← Hs.out, nodesB_zero, List.append_nil]
      rw [e]; exact Hown.out
    · have hne : ((z : Int) != 0) = true := by simp; omega
      have H0 := Lib.hid h0; clear h0
      have hlen : out.length ≤ 64 := by
        have h1 : (out ++ nodesB 64 z.testBit).length ≤ 64 := by rw [Hs.out]; exact nodesB_length _ _
        rw [List.length_append] at h1; omega
      have hctz := (low_bit z H0.out Hz.out).1
      have e1 : IntKind.u64.wrap ((z : Int) - 1) = ((z - 1 : Nat) : Int) := by have := H0.out; have := Hz.out; rw [IntKind.wrap_u64]; omega
      have e2 : bits .and .u64 (z : Int) ((z - 1 : Nat) : Int) = ((dropLow z : Nat) : Int) := u64_and_nat z (z - 1) Hz.out (by have := Hz.out; omega)
      go_wp2_with (first
        | (go_at_call 78; refine (tz_any z Hz.out H0.out _ (hT.below hbl)).mono ?_; rintro e w' ⟨rfl, rfl⟩)
        | (at_builtin; refine wpList_appI (by rfl) _ _ (by rfl) wr w.heap.size _ out (Lib.ctz 64 z : Nat) Hown.out (by rfl) (by rfl) (by omega) hbl.size ?_; intro v' w1 hown' hb1 _))
      go_roundw
      case rel =>
        refine ⟨dropLow z, out ++ [(Lib.ctz 64 z : Int)], rfl, ?_, hown', ?_, hbl.trans hb1⟩
        · have := dropLow_lt z H0.out; have := Hz.out; omega
        · rw [List.append_assoc, ← Hs.out, nodesB_low z H0.out Hz.out]; rfl
      case measure => have := dropLow_lt z H0.out; simp [intOf]; omega

/-- a graph that is accepted is valid -/
theorem scanV_ok {N : Int} : ∀ (l : List (Int × Int)) (o : Option (Int × Int)), scanV N o l = 0 → (∀ p ∈ l, okP N p) ∧ l.Pairwise ltP ∧ (∀ q, o = some q → ∀ p ∈ l, ltP q p)
  | [], o, _ => ⟨(fun _ h => by cases h), List.Pairwise.nil, (fun _ _ _ h => by cases h)⟩
  | p :: l, none, h => by
    rw [scanV] at h
    split at h
    · rename_i ho
      obtain ⟨h1, h2, h3⟩ := scanV_ok l _ h
      refine ⟨fun q hq => ?_, List.pairwise_cons.2 ⟨fun q hq => h3 p rfl q hq, h2⟩, fun q hq => by cases hq⟩
      rcases List.mem_cons.1 hq with rfl | hq
      · exact ho
      · exact h1 q hq
    · cases h
  | p :: l, some q, h => by
    rw [scanV] at h
    split at h
    · rename_i ho
      split at h
      · rename_i hlt
        obtain ⟨h1, h2, h3⟩ := scanV_ok l _ h
        refine ⟨fun r hr => ?_, List.pairwise_cons.2 ⟨fun r hr => h3 p rfl r hr, h2⟩, fun r hr s hs => ?_⟩
        · rcases List.mem_cons.1 hr with rfl | hr
          · exact ho
          · exact h1 r hr
        · injection hr with hr
          subst hr
          rcases List.mem_cons.1 hs with rfl | hs
          · exact hlt
          · have := h3 p rfl s hs
            unfold ltP at *; omega
      · cases h
    · cases h
theorem vld_of_valE {N : Int} {l : List (Int × Int)} (h : valE N l = 0) (hlen : l.length ≤ 100000) : ∃ n : Nat, N = n ∧ Vld n l := by
  unfold valE at h
  split at h
  · cases h
  · rename_i hN
    obtain ⟨h1, h2, _⟩ := scanV_ok l none h
    refine ⟨N.toNat, by omega, ⟨by omega, hlen, fun p hp => ?_⟩, h2⟩
    have := h1 p hp
    unfold okP at this
    omega
/-- the graph that proper leaves is valid -/
theorem vld_proper (N : Int) (l : List (Int × Int)) (hlen : l.length ≤ 100000) : ∃ n : Nat, nGn N l = n ∧ Vld n (nGl N l) := by
  unfold nGn nGl
  by_cases h : valE N l = 0
  · rw [if_pos h, if_pos h]; exact vld_of_valE h hlen
  · rw [if_neg h, if_neg h]; exact ⟨0, rfl, ⟨by omega, by simp, (fun _ h => by cases h)⟩, List.Pairwise.nil⟩
theorem ltP_trans {p q r : Int × Int} (h : ltP p q) (k : ltP q r) : ltP p r := by unfold ltP at *; omega
theorem ltP_irrefl (p : Int × Int) : ¬ ltP p p := by unfold ltP; omega
theorem attackedL_sorted {l : List (Int × Int)} (h : l.Pairwise ltP) (i : Int) : (attackedL l i).Pairwise (· < ·) := by
  unfold attackedL
  rw [List.pairwise_map]
  refine List.Pairwise.imp_of_mem ?_ (h.filter _)
  intro a b ha hb hab
  have h1 := (List.mem_filter.1 ha).2
  have h2 := (List.mem_filter.1 hb).2
  simp at h1 h2
  unfold ltP at hab; omega
theorem attackersL_sorted {l : List (Int × Int)} (h : l.Pairwise ltP) (i : Int) : (attackersL l i).Pairwise (· < ·) := by
  unfold attackersL
  rw [List.pairwise_map]
  refine List.Pairwise.imp_of_mem ?_ (h.filter _)
  intro a b ha hb hab
  have h1 := (List.mem_filter.1 ha).2
  have h2 := (List.mem_filter.1 hb).2
  simp at h1 h2
  unfold ltP at hab; omega
theorem nodes_mkM {n : Nat} {l : List (Int × Int)} (hv : Vld n l) (i : Nat) : nodesB 64 (mkM l i).testBit = attackedL l i := by
  refine sorted_ext _ _ (nodesB_sorted _ _) (attackedL_sorted hv.2 _) fun x => ?_
  rw [mem_nodesB]
  constructor
  · rintro ⟨j, _, hj, rfl⟩
    exact mem_attackedL.2 ((has_mkM hv.1 i j).1 hj)
  · intro h
    obtain ⟨a, rfl, ha, hat⟩ := attacked_nat hv.1 h
    exact ⟨a, by have := hv.1.1; omega, (has_mkM hv.1 i a).2 hat, rfl⟩
theorem attackedL_out {n : Nat} {l : List (Int × Int)} (hv : InR n l) {i : Int} (h : i < 0 ∨ n ≤ i) : attackedL l i = [] := by
  cases hb : attackedL l i with
  | nil => rfl
  | cons x r =>
    have : x ∈ attackedL l i := by rw [hb]; exact List.mem_cons_self ..
    have := hv.2.2 _ (mem_attackedL.1 this)
    simp at this; omega
theorem attackersL_out {n : Nat} {l : List (Int × Int)} (hv : InR n l) {i : Int} (h : i < 0 ∨ n ≤ i) : attackersL l i = [] := by
  cases hb : attackersL l i with
  | nil => rfl
  | cons x r =>
    have : x ∈ attackersL l i := by rw [hb]; exact List.mem_cons_self ..
    have := hv.2.2 _ (mem_attackersL.1 this)
    simp at this; omega

set_option maxHeartbeats 2000000 in
theorem gAttacked_any (A : Option Addr) (N : Int) (l : List (Int × Int)) (c : Nat) (i : Int) (w : World) (hr : RP w A l) (hlen : l.length ≤ 100000) (hT : Tab w) :
    Calls Tryz.prog 81 #[.agg #[.int .i64 N, .slice A l.length c], .int .i64 i] w (RetI (attackedL (nGl N l) i) w) := by
  go_enter Tryz.func81, Tryz.ntmps81
  go_wp2_with fail
  obtain ⟨W0, hW, c0, c1, hb0, hlt0⟩ := boxed w 27 (.int .i64 N) (.slice A l.length c)
  have k0 : Blk W0 w.heap.size 27 #[.int .i64 N, .slice A l.length c] := by rw [← hW]; exact Blk.new w _ _
  rw [hW]
  have hr0 := hr.below hb0
  have hltA : ∀ b o, A = some ⟨b, o, none⟩ → 0 < (nGl N l).length → b ≠ w.heap.size := fun b o hA hl => by have := hr.lt hA (by unfold nGl at hl; split at hl <;> simp_all); omega
  clear hW hr c0 c1
  refine (proper_any _ _ _ _ _ hr0 hlen).mono ?_
  rintro e w1 ⟨A', c', rfl, hr1, hAA, hb⟩
  have hlen' := nGl_len (N := N) hlen
  have k1 := k0.below hb k0.lt
  obtain ⟨a0, a1, a2, a3⟩ := k1.two
  have hbb := endB hb0 hb
  obtain ⟨n, hn, hv⟩ := vld_proper N l hlen
  rw [hn]
  clear hn
  generalize nGl N l = l' at *
  have hltA' : ∀ b o, A' = some ⟨b, o, none⟩ → 0 < l'.length → b ≠ w.heap.size := fun b o hA hl => by
    rcases hAA with h | h
    · rw [h] at hA
      have := hltA b o hA
      omega
    · subst h; simp at hl
  have k2 : Blk _ w.heap.size 27 #[.int .i64 (n : Int), .slice A' l'.length c'] := (k1.set_ 0 (.int .i64 (n : Int))).set_ 1 (.slice A' l'.length c')
  have hr2 := hr1.far2 hltA' (.int .i64 (n : Int)) (.slice A' l'.length c')
  have hE : Below w.heap.size w ((w1.setCell ⟨w.heap.size, 0, none⟩ (.int .i64 (n : Int))).setCell ⟨w.heap.size, 1, none⟩ (.slice A' l'.length c')) := (hbb.setCell (p := ⟨w.heap.size, 0, none⟩) (Nat.le_refl _) _).setCell (p := ⟨w.heap.size, 1, none⟩) (Nat.le_refl _) _
  obtain ⟨W2, hW2⟩ : ∃ W2, (w1.setCell ⟨w.heap.size, 0, none⟩ (.int .i64 (n : Int))).setCell ⟨w.heap.size, 1, none⟩ (.slice A' l'.length c') = W2 := ⟨_, rfl⟩
  rw [hW2] at k2 hr2 hE
  have d0 : W2.cell? ⟨w.heap.size, 0, none⟩ = some (.int .i64 (n : Int)) := k2.two.1
  have d1 : W2.cell? ⟨w.heap.size, 1, none⟩ = some (.slice A' l'.length c') := k2.two.2.1
  have hTw := hT.below hE
  have hn40 := hv.1.1
  by_cases hi : i < 0
  · have Ho := Lib.hid (attackedL_out hv.1 (.inl hi))
    go_wp2_with fail
    go_ret
    rw [Ho.out]
    exact RetI.nil hE
  have hi' : 0 ≤ i := by omega
  clear hi
  by_cases hi2 : (n : Int) ≤ i
  · have Ho := Lib.hid (attackedL_out hv.1 (.inr hi2))
    go_wp2_with fail
    go_ret
    rw [Ho.out]
    exact RetI.nil hE
  have hi2' : i < n := by omega
  clear hi2
  obtain ⟨j, rfl⟩ := Int.eq_ofNat_of_zero_le hi'
  go_wp2_with fail
  refine (masks_any A' n l' c' W2 hr2 hv.1).mono ?_
  rintro e w3 ⟨g, rfl, hg, hrow, hb3⟩
  have hcj := hrow.cell (show j < n by omega)
  have hmj : mkM l' j < 18446744073709551616 := u64_of hn40 (mkM_lt (n := n) (fun p hp => by have := hv.1.2.2 p hp; omega) j)
  have Hmj := Lib.hid hmj
  clear hW2 hrow
  go_wp2_with fail
  refine (glist_any (mkM l' j) Hmj.out w3 (hTw.below hb3)).mono ?_
  rintro e w4 ⟨A5, c5, rfl, ho, hri, hnn, hb4⟩
  go_wp2_with fail
  go_ret
  have Hn := nodes_mkM hv j
  rw [← Hn]
  exact ⟨A5, c5, rfl, ho.mono (Nat.le_trans hE.size hb3.size), hri, hnn, hE.trans ((endB hb3 hb4).mono hE.size)⟩
end Go.Proofs.YthkknlnfdckdfaaGreatDoor

/- The pairs of a graph turned round and sorted, in plain words; rows of pairs in the sort's words. -/
namespace Go.Proofs.YthkknlnfdckdfaaGreatDoor
open Go.ChangeShapes Go.WideShapes Go.ChangeAt Go.RowKit

def swapP (p : Int × Int) : Int × Int := (p.2, p.1)
/-- what Reverse lays down -/
def revL (l : List (Int × Int)) : List (Int × Int) := (l.map swapP).mergeSort fun x y => !(ltOf cmpP) y x
theorem ltOf_cmpP (x y : Int × Int) : ltOf cmpP x y = decide (ltP x y) := by
  unfold ltOf
  rw [Bool.eq_iff_iff, decide_eq_true_iff, decide_eq_true_iff, cmpP_neg]
theorem swoP : Go.Sort.SWO (ltOf cmpP) where
  irrefl x := by rw [ltOf_cmpP]; simp [ltP]
  trans x y z h1 h2 := by rw [ltOf_cmpP, decide_eq_true_iff] at *; exact ltP_trans h1 h2
  ntrans x y z h1 h2 := by rw [ltOf_cmpP, decide_eq_false_iff_not] at *; unfold ltP at *; omega
theorem totP (x y : Int × Int) (h1 : ltOf cmpP x y = false) (h2 : ltOf cmpP y x = false) : x = y := by
  rw [ltOf_cmpP, decide_eq_false_iff_not] at *
  unfold ltP at *
  exact Prod.ext (by omega) (by omega)
theorem revL_perm (l : List (Int × Int)) : (revL l).Perm (l.map swapP) := List.mergeSort_perm _ _
theorem mem_revL {l : List (Int × Int)} {a b : Int} : (a, b) ∈ revL l ↔ (b, a) ∈ l := by
  rw [(revL_perm l).mem_iff, List.mem_map]
  constructor
  · rintro ⟨p, hp, e⟩
    unfold swapP at e
    injection e with e1 e2
    subst e1 e2; exact hp
  · intro h; exact ⟨_, h, rfl⟩
theorem revL_length (l : List (Int × Int)) : (revL l).length = l.length := by rw [(revL_perm l).length_eq, List.length_map]
theorem revL_sorted {l : List (Int × Int)} (h : l.Nodup) : (revL l).Pairwise ltP := by
  have h1 : (revL l).Pairwise fun x y => (!(ltOf cmpP) y x) = true := List.pairwise_mergeSort
    (fun x y z h1 h2 => by simp only [Bool.not_eq_true', ltOf_cmpP, decide_eq_false_iff_not] at *; unfold ltP at *; omega)
    (fun x y => by simp only [Bool.or_eq_true, Bool.not_eq_true', ltOf_cmpP, decide_eq_false_iff_not]; unfold ltP; omega) _
  have h2 : (revL l).Nodup := by
    rw [(revL_perm l).nodup_iff]
    exact List.pairwise_map.2 (h.imp fun {a b} hab e => hab (by unfold swapP at e; injection e with e1 e2; exact Prod.ext e2 e1))
  refine (h1.and h2).imp fun {x y} hxy => ?_
  obtain ⟨h3, h4⟩ := hxy
  simp only [Bool.not_eq_true', ltOf_cmpP, decide_eq_false_iff_not] at h3
  rcases Classical.em (ltP x y) with h5 | h5
  · exact h5
  · exact absurd (Prod.ext (by unfold ltP at *; omega) (by unfold ltP at *; omega)) h4
theorem vld_nodup {n : Nat} {l : List (Int × Int)} (h : Vld n l) : l.Nodup := h.2.imp fun {a b} hab e => by subst e; exact ltP_irrefl _ hab
theorem revL_vld {n : Nat} {l : List (Int × Int)} (h : Vld n l) : Vld n (revL l) := by
  refine ⟨⟨h.1.1, by rw [revL_length]; exact h.1.2.1, fun p hp => ?_⟩, revL_sorted (vld_nodup h)⟩
  obtain ⟨a, b⟩ := p
  have := h.1.2.2 _ (mem_revL.1 hp)
  simp at this ⊢; omega
theorem att_revL {l : List (Int × Int)} {a b : Nat} : att (revL l) a b ↔ att l b a := mem_revL
theorem attacked_revL {n : Nat} {l : List (Int × Int)} (h : Vld n l) (i : Int) : attackedL (revL l) i = attackersL l i :=
  sorted_ext _ _ (attackedL_sorted (revL_vld h).2 i) (attackersL_sorted h.2 i) fun x => by rw [mem_attackedL, mem_attackersL, mem_revL]
theorem attackers_revL {n : Nat} {l : List (Int × Int)} (h : Vld n l) (i : Int) : attackersL (revL l) i = attackedL l i :=
  sorted_ext _ _ (attackersL_sorted (revL_vld h).2 i) (attackedL_sorted h.2 i) fun x => by rw [mem_attackersL, mem_attackedL, mem_revL]
theorem sortedP_ext : ∀ (a b : List (Int × Int)), a.Pairwise ltP → b.Pairwise ltP → (∀ x, x ∈ a ↔ x ∈ b) → a = b
  | [], [], _, _, _ => rfl
  | [], y :: b, _, _, h => by have := (h y).2 (List.mem_cons_self ..); cases this
  | x :: a, [], _, _, h => by have := (h x).1 (List.mem_cons_self ..); cases this
  | x :: a, y :: b, ha, hb, h => by
    obtain ⟨ha1, ha2⟩ := List.pairwise_cons.1 ha
    obtain ⟨hb1, hb2⟩ := List.pairwise_cons.1 hb
    have hxy : x = y := by
      rcases List.mem_cons.1 ((h x).1 (List.mem_cons_self ..)) with e | hx
      · exact e
      · rcases List.mem_cons.1 ((h y).2 (List.mem_cons_self ..)) with e | hy
        · exact e.symm
        · exact absurd (ltP_trans (ha1 y hy) (hb1 x hx)) (ltP_irrefl _)
    subst hxy
    congr 1
    refine sortedP_ext a b ha2 hb2 fun z => ⟨fun hz => ?_, fun hz => ?_⟩
    · rcases List.mem_cons.1 ((h z).1 (List.mem_cons_of_mem _ hz)) with e | hz'
      · subst e; exact absurd (ha1 z hz) (ltP_irrefl _)
      · exact hz'
    · rcases List.mem_cons.1 ((h z).2 (List.mem_cons_of_mem _ hz)) with e | hz'
      · subst e; exact absurd (hb1 z hz) (ltP_irrefl _)
      · exact hz'
theorem revL_revL {n : Nat} {l : List (Int × Int)} (h : Vld n l) : revL (revL l) = l :=
  sortedP_ext _ _ (revL_vld (revL_vld h)).2 h.2 fun p => by obtain ⟨a, b⟩ := p; rw [mem_revL, mem_revL]

/-- a pair's two cells -/
def encP (p : Int × Int) : List Value := [.int .i64 p.1, .int .i64 p.2]
theorem flatK_encP (d : Array (Int × Int)) {k : Nat} (h : k < d.size) : (Go.Sort.flatK encP 2 d)[k * 2]! = .int .i64 d[k]!.1 ∧ (Go.Sort.flatK encP 2 d)[k * 2 + 1]! = .int .i64 d[k]!.2 := by
  rw [Go.Sort.get_flatK _ _ _ _ (by omega), Go.Sort.get_flatK _ _ _ _ (by omega)]
  have e1 : k * 2 / 2 = k := by omega
  have e2 : (k * 2 + 1) / 2 = k := by omega
  have e3 : k * 2 % 2 = 0 := by omega
  have e4 : (k * 2 + 1) % 2 = 1 := by omega
  rw [e1, e2, e3, e4]
  exact ⟨rfl, rfl⟩
theorem rp_of_holds {w : World} {g : Nat} {l : List (Int × Int)} (h : Go.Sort.HoldsK encP 2 w g 0 l.toArray) : RP w (some ⟨g, 0, none⟩) l := by
  intro k hk
  have hd : k < l.toArray.size := by simpa using hk
  obtain ⟨f1, f2⟩ := flatK_encP l.toArray hd
  have hg : l.toArray[k]! = l.getD k (0, 0) := by simp [List.getD, hk]
  have h1 := (h (k * 2) (by simp; omega)).1
  have h2 := (h (k * 2 + 1) (by simp; omega)).1
  rw [f1, hg] at h1
  rw [f2, hg] at h2
  refine ⟨g, 0, rfl, h1, ?_⟩
  rw [Nat.zero_add] at h2 ⊢
  exact h2
theorem holds_of_own {w : World} {b g c : Nat} {l : List (Int × Int)} (h : OwnP w b (.slice (some ⟨g, 0, none⟩) l.length c) l) : Go.Sort.HoldsK encP 2 w g 0 l.toArray := by
  have h' := h
  obtain ⟨h1, h2⟩ := h
  rcases h2 with ⟨e, _⟩ | ⟨g', cap, cur, e, hg, hh, hn, hcap, hs, ht⟩
  · cases e
  · injection e with e1 e2 e3
    injection e1 with e1
    injection e1 with e1 _ _
    subst e1
    intro j hj
    have hj' : j < l.length * 2 := by simpa using hj
    refine ⟨?_, by simp [World.frozen?, hh]⟩
    have hk : j / 2 < l.length := by omega
    obtain ⟨p1, p2⟩ := flatP_at l (j / 2) hk
    obtain ⟨f1, f2⟩ := flatK_encP l.toArray (k := j / 2) (by simpa using hk)
    have hg2 : l.toArray[j / 2]! = l.getD (j / 2) (0, 0) := by simp [List.getD, hk]
    rw [hg2] at f1 f2
    rcases Nat.mod_two_eq_zero_or_one j with hm | hm
    · have e : j / 2 * 2 = j := by omega
      rw [e] at p1 f1
      have hc := h'.cells (g := g) rfl _ _ p1
      rw [show (⟨g, 0, none⟩ : Addr).add j = ⟨g, 0 + j, none⟩ by unfold Addr.add; split <;> simp_all] at hc
      rw [f1]; exact hc
    · have e : j / 2 * 2 + 1 = j := by omega
      rw [e] at p2 f2
      have hc := h'.cells (g := g) rfl _ _ p2
      rw [show (⟨g, 0, none⟩ : Addr).add j = ⟨g, 0 + j, none⟩ by unfold Addr.add; split <;> simp_all] at hc
      rw [f2]; exact hc
/-- what the sort leaves of the rest -/
theorem sorted_world {w : World} {g n : Nat} {d : Array (Int × Int)} {os : Array Obj} (hg : g < w.heap.size) : w.grownBy (sortWorldK encP 2 w g 0 n d os) (some g) ∧ ∀ B, B ≤ g → Below B w (sortWorldK encP 2 w g 0 n d os) := by
  have hsz : w.heap.size ≤ (sortWorldK encP 2 w g 0 n d os).heap.size := size_sortWorldK_c encP 2 w g 0 n d os
  have hblk : ∀ k, k < w.heap.size → k ≠ g → (sortWorldK encP 2 w g 0 n d os).heap[k]? = w.heap[k]? := fun k hk hne => by
    unfold sortWorldK
    rw [Go.Sort.heap_grow_old _ os (by rw [Go.Sort.size_putRowK]; exact hk)]
    unfold Go.Sort.putRowK Go.Sort.putRow Go.Sort.mapBlock
    simp only [Array.getElem?_modify, if_neg (fun e : g = k => hne e.symm)]
    rfl
  exact ⟨⟨rfl, rfl, rfl, hsz, fun k hk hne => hblk k hk (fun e => hne (congrArg some e))⟩, fun B hB => ⟨rfl, rfl, rfl, hsz, fun k hk => hblk k (by omega) (by omega)⟩⟩
end Go.Proofs.YthkknlnfdckdfaaGreatDoor
