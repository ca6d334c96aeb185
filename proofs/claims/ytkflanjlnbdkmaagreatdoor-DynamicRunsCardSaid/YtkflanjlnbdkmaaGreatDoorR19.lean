import Derived.Test.YtkflanjlnbdkmaaGreatDoorDyR
import Derived.Deep.CutBlock
import Derived.Test.YtkflanjlnbdkmaaGreatDoorRq10
/- ref19: Copy, New, Valid. -/
namespace Go.Proofs.YtkflanjlnbdkmaaGreatDoor
open Go.ChangeShapes Go.WideShapes Go.ChangeAt Go.RowKit

/-- the call returns a graph whose list is new -/
def RetGn (N : Int) (l : List (Int × Int)) (w : World) : Ending → World → Prop := fun e w' => ∃ A c, e = .returned (.agg #[.int .i64 N, .slice A l.length c]) ∧ OwnP w' w.heap.size (.slice A l.length c) l ∧ Below w.heap.size w w'
set_option maxRecDepth 100000 in
set_option maxHeartbeats 2000000 in
theorem r19Copy_any (A : Option Addr) (N : Int) (l : List (Int × Int)) (c : Nat) (w : World) (hr : RP w A l) (hA : A = none → l = [] ∧ c = 0) (hl : l.length ≤ 100000) :
    Calls Tryz.prog 23 #[.agg #[.int .i64 N, .slice A l.length c]] w (RetGn N l w) := by
  go_enter Tryz.func23, Tryz.ntmps23
  go_upto_region 1 with fail
  obtain ⟨W0, hW, k0, k1, hb0, hlt0⟩ := boxed2 w 24 24 (.int .i64 N) (.slice A l.length c) (.int .i64 0) (.slice none 0 0)
  rw [hW]
  have hr0 := hr.below hb0
  clear hW hr
  refine wp_region_textZ [2, 5, 7] (fun w' => Below W0.heap.size W0 w') (fun _ => True) (by kernel_rfl) (by kernel_rfl) (by kernel_rfl) (by kernel_rfl) (Below.refl _ _).drew trivial ?_
  repeat (first
    | (refine TxtZL.skip (by rfl) ?_; simp only [Act.put, List.setIfInBounds_toArray, List.set_cons_zero, List.set_cons_succ])
    | (refine TxtZL.take (by rfl) (by rfl) ?_; apply Exists.intro; refine ⟨fun w1 hS1 => ?_, ?_⟩; (focus ((obtain ⟨g0, g1, _, _⟩ := (k0.below hS1 (by omega)).two); go_simp; with_reducible rfl)); simp only [Act.put, List.setIfInBounds_toArray, List.set_cons_zero, List.set_cons_succ])
    | (refine TxtZL.takeE' (by rfl) (by rfl) ?_; apply Exists.intro; refine ⟨fun w1 hS1 => ?_, ?_⟩; (focus ((obtain ⟨g0, g1, _, _⟩ := (k0.below hS1 (by omega)).two); go_simp; with_reducible rfl)); simp only [Act.put, List.setIfInBounds_toArray, List.set_cons_zero, List.set_cons_succ]))
  refine TxtZL.value (fun u => ∃ q, u = Value.slice (some ⟨q, 0, none⟩) 0 0) (fun u w' => OwnP w' W0.heap.size u []) (by rfl) (by rfl) ⟨_, 0, rfl⟩ (fun w1 hS1 hJ1 => ?_) ?_
  · exact ⟨.slice (some ⟨w1.heap.size, 0, none⟩) 0 0, w1.alloc (.cells #[] 54), by go_simp, hS1.trans ((newB _ _).mono hS1.size), ⟨_, rfl⟩, (own_emptyP w1).mono hS1.size⟩
  rintro v5 ⟨q, rfl⟩
  simp only [Act.put, List.setIfInBounds_toArray, List.set_cons_zero, List.set_cons_succ]
  repeat (first
    | (refine TxtZL.skip (by rfl) ?_; simp only [Act.put, List.setIfInBounds_toArray, List.set_cons_zero, List.set_cons_succ])
    | (refine TxtZL.take (by rfl) (by rfl) ?_; apply Exists.intro; refine ⟨fun w1 hS1 => ?_, ?_⟩; (focus ((obtain ⟨g0, g1, _, _⟩ := (k0.below hS1 (by omega)).two); go_simp; with_reducible rfl)); simp only [Act.put, List.setIfInBounds_toArray, List.set_cons_zero, List.set_cons_succ])
    | (refine TxtZL.takeE' (by rfl) (by rfl) ?_; apply Exists.intro; refine ⟨fun w1 hS1 => ?_, ?_⟩; (focus ((obtain ⟨g0, g1, _, _⟩ := (k0.below hS1 (by omega)).two); go_simp; with_reducible rfl)); simp only [Act.put, List.setIfInBounds_toArray, List.set_cons_zero, List.set_cons_succ]))
  refine TxtZL.eff (fun u => ∃ A' c', u = Value.slice A' l.length c') (fun u w' => OwnP w' W0.heap.size u l) (by rfl) (by rfl) ⟨_, none, 0, rfl⟩ (fun w1 hS1 hJ1 => ?_) ?_
  · refine Eff.of_list (ops := #[]) (by rfl) ?_
    refine wpList_appPs (by rfl) _ _ (by rfl) w1 W0.heap.size _ [] A l c hJ1 (hr0.below hS1) hA (by rfl) (by rfl) (by simp; omega) hS1.size ?_
    intro v' w' ho hb hg
    rw [List.nil_append] at ho
    obtain ⟨A', c', e', _, _⟩ := ho.form
    exact ⟨rfl, v', rfl, hS1.trans hb, ⟨A', c', e'⟩, ho⟩
  rintro v8 ⟨A', c', rfl⟩
  simp only [Act.put, List.setIfInBounds_toArray, List.set_cons_zero, List.set_cons_succ]
  repeat (first
    | (refine TxtZL.skip (by rfl) ?_; simp only [Act.put, List.setIfInBounds_toArray, List.set_cons_zero, List.set_cons_succ])
    | (refine TxtZL.take (by rfl) (by rfl) ?_; apply Exists.intro; refine ⟨fun w1 hS1 => ?_, ?_⟩; (focus (skip; go_simp; with_reducible rfl)); simp only [Act.put, List.setIfInBounds_toArray, List.set_cons_zero, List.set_cons_succ])
    | (refine TxtZL.takeE' (by rfl) (by rfl) ?_; apply Exists.intro; refine ⟨fun w1 hS1 => ?_, ?_⟩; (focus (skip; go_simp; with_reducible rfl)); simp only [Act.put, List.setIfInBounds_toArray, List.set_cons_zero, List.set_cons_succ]))
  refine TxtZL.last (fun w' => Blk w' (w.heap.size + 1) 24 #[.int .i64 N, .slice A' l.length c'] ∧ OwnP w' W0.heap.size (.slice A' l.length c') l ∧ Below w.heap.size w w') (by rfl) (by rfl) (fun w1 hS1 hJ1 => ?_) ?_
  · have hk := k1.below hS1 hlt0
    obtain ⟨g0, g1, f0, f1⟩ := hk.two
    exact Eff.skip (w' := (w1.setCell ⟨w.heap.size + 1, 0, none⟩ (.int .i64 N)).setCell ⟨w.heap.size + 1, 1, none⟩ (.slice A' l.length c')) (by go_simp) ⟨(hk.set_ 0 _).set_ 1 _, (hJ1.farB hlt0 _ _).farB hlt0 _ _, ((endB hb0 hS1).setCell (p := ⟨w.heap.size + 1, 0, none⟩) (by simp) _).setCell (p := ⟨w.heap.size + 1, 1, none⟩) (by simp) _⟩
  rintro v w2 ⟨hk, ho, hb⟩
  obtain ⟨g0, g1, f0, f1⟩ := hk.two
  have Ho := Lib.hid ho; have Hb := Lib.hid hb
  clear ho hb k0 k1 hk
  go_wp2_with fail
  refine bodyPost_ret (v := .agg #[.int .i64 N, .slice A' l.length c']) (by simp [results, Tryz.results23, go_sem, g0, g1]) rfl ?_
  exact ⟨_, _, rfl, Ho.out.mono hb0.size, Hb.out⟩
set_option maxRecDepth 100000 in
set_option maxHeartbeats 2000000 in
theorem r19New_any (A : Option Addr) (N : Int) (l : List (Int × Int)) (c : Nat) (w : World) (hr : RP w A l) (hA : A = none → l = [] ∧ c = 0) (hl : l.length ≤ 100000) :
    Calls Tryz.prog 8 #[.agg #[.int .i64 N, .slice A l.length c]] w (RetDe (nGn N l) (nGl N l) (gLb N l) (valE N l) w) := by
  by_cases hv : valE N l = 0
  case neg =>
    have hvb : (valE N l != 0) = true := by rw [bne_iff_ne]; exact hv
    have H1 := Lib.hid (show nGn N l = 0 by simp [nGn, hv])
    have H2 := Lib.hid (show nGl N l = [] by simp [nGl, hv])
    have H3 := Lib.hid (show gLb N l = [] by unfold gLb; rw [H1.out]; rfl)
    have hval := fun W (h : RP W A l) => r10Validate_any A N l c W h hl
    generalize valE N l = E at *
    clear hv
    go_enter Tryz.func8, Tryz.ntmps8
    go_upto_region 1 with fail
    obtain ⟨W0, hW, k0, k1, hb0, hlt0⟩ := boxed23 w 24 27 (.int .i64 N) (.slice A l.length c) (.int .i64 0) (.slice none 0 0) (.slice none 0 0)
    rw [hW]
    have hr0 := hr.below hb0
    obtain ⟨c0, c1, _, _⟩ := k0.two
    clear hW hr
    go_wp2_with fail
    refine (hval W0 hr0).mono ?_
    rintro e w1 ⟨rfl, hb1⟩
    obtain ⟨g0, g1, g2, f0, f1, f2⟩ := (k1.below hb1 hlt0).threeF
    have hbb := endB hb0 hb1
    clear hval
    go_wp2_with fail
    have hk := set3 (k1.below hb1 hlt0) (.int .i64 0) (.slice none 0 0) (.slice none 0 0)
    obtain ⟨e0, e1, e2, _, _, _⟩ := hk.threeF
    refine bodyPost_ret (v := .tuple #[.agg #[.int .i64 0, .slice none 0 0, .slice none 0 0], .int .i64 E]) (by simp [results, Tryz.results8, go_sem, e0, e1, e2]) rfl ?_
    rw [H1.out, H2.out, H3.out]
    exact ⟨none, 0, none, 0, rfl, OwnP.nil _ _, OwnI.nil _ _, below_set3 hbb (by omega) _ _ _⟩
  case pos =>
  obtain ⟨n, rfl, hvl⟩ := vld_of_valE hv hl
  have H1 := Lib.hid (nGn_vld hvl)
  have H2 := Lib.hid (nGl_vld hvl)
  have H3 := Lib.hid (show gLb n l = lst n (grL n l) by unfold gLb; rw [H1.out, H2.out, Int.toNat_natCast])
  have H4 := Lib.hid hv
  have hn40 := hvl.1.1
  have hll : (lst n (grL n l)).length ≤ 100000 := by rw [lst_length]; omega
  have Hval := fun W (h : RP W A l) => r10Validate_any A n l c W h hl
  rw [hv] at Hval
  have Hlab := fun W (h : RP W A l) => r12Label_any A n l c W h hvl
  obtain ⟨G, hG⟩ : ∃ G, lst n (grL n l) = G := ⟨_, rfl⟩
  rw [hG] at hll Hlab
  have HG := Lib.hid hG
  clear hv hG
  go_enter Tryz.func8, Tryz.ntmps8
  go_upto_region 1 with fail
  obtain ⟨W0, hW, k0, k1, hb0, hlt0⟩ := boxed23 w 24 27 (.int .i64 (n : Int)) (.slice A l.length c) (.int .i64 0) (.slice none 0 0) (.slice none 0 0)
  rw [hW]
  have hr0 := hr.below hb0
  obtain ⟨c0, c1, _, _⟩ := k0.two
  clear hW hr
  go_wp2_with fail
  refine (Hval W0 hr0).mono ?_
  rintro e w1 ⟨rfl, hb1⟩
  have k01 := k0.below hb1 (by omega)
  have k11 := k1.below hb1 hlt0
  have hr1 := hr0.below hb1
  have hbb := endB hb0 hb1
  have hlt1 : w.heap.size + 1 < w1.heap.size := Nat.lt_of_lt_of_le hlt0 hb1.size
  clear Hval c0 c1 k0 k1 hr0 hb0 hb1 hlt0
  go_upto_region 4 with fail
  refine wp_region_textB [1, 3, 5] (fun w' => Blk w' w.heap.size 24 #[.int .i64 (n : Int), .slice A l.length c] ∧ Below w.heap.size w w') (fun w' => Below w1.heap.size w1 w') (by kernel_rfl) (by kernel_rfl) (by kernel_rfl) ⟨k01.below (Below.refl _ _).drew k01.lt, hbb.trans ((Below.refl _ _).drew.mono hbb.size)⟩ (Below.refl _ _).drew ?_
  repeat (first
    | (refine TxtBL.skip (by rfl) ?_; simp only [Act.put, List.setIfInBounds_toArray, List.set_cons_zero, List.set_cons_succ])
    | (refine TxtBL.take (by rfl) (by rfl) ?_; apply Exists.intro; refine ⟨fun w1 hS1 => ?_, ?_⟩; (focus ((obtain ⟨g0, g1, _, _⟩ := hS1.1.two); go_simp; with_reducible rfl)); simp only [Act.put, List.setIfInBounds_toArray, List.set_cons_zero, List.set_cons_succ])
    | (refine TxtBL.takeE (by rfl) (by rfl) ?_; apply Exists.intro; refine ⟨fun w1 hS1 => ?_, ?_⟩; (focus ((obtain ⟨g0, g1, _, _⟩ := hS1.1.two); go_simp; with_reducible rfl)); simp only [Act.put, List.setIfInBounds_toArray, List.set_cons_zero, List.set_cons_succ]))
  refine TxtBL.call (f := 23) (args := #[.agg #[.int .i64 (n : Int), .slice A l.length c]]) (fun u => ∃ A' c', u = .agg #[.int .i64 (n : Int), .slice A' l.length c']) (fun u w' => Below w1.heap.size w1 w' ∧ ∀ A' c', u = .agg #[.int .i64 (n : Int), .slice A' l.length c'] → OwnP w' w1.heap.size (.slice A' l.length c') l) (by rfl) (by rfl) ⟨_, none, 0, rfl⟩ (fun w2 hS1 hJ1 => by go_simp) (fun w2 hS1 hJ1 => ?_) ?_
  · refine (r19Copy_any A n l c w2 (hr1.below hJ1) hA hl).mono ?_
    rintro e w' ⟨A', c', rfl, hop, hb⟩
    refine ⟨_, rfl, ⟨hS1.1.below hb (lt_of_cell hS1.1.two.1), hS1.2.trans (hb.mono hS1.2.size)⟩, ⟨A', c', rfl⟩, endB hJ1 hb, fun A3 c3 e => ?_⟩
    simp only [Value.agg.injEq, Array.mk.injEq, List.cons.injEq, Value.slice.injEq, true_and, and_true] at e
    obtain ⟨rfl, rfl⟩ := e
    exact hop.mono hJ1.size
  rintro v12 ⟨A', c', rfl⟩
  simp only [Act.put, List.setIfInBounds_toArray, List.set_cons_zero, List.set_cons_succ]
  repeat (first
    | (refine TxtBL.skip (by rfl) ?_; simp only [Act.put, List.setIfInBounds_toArray, List.set_cons_zero, List.set_cons_succ])
    | (refine TxtBL.take (by rfl) (by rfl) ?_; apply Exists.intro; refine ⟨fun w1 hS1 => ?_, ?_⟩; (focus ((obtain ⟨g0, g1, _, _⟩ := hS1.1.two); go_simp; with_reducible rfl)); simp only [Act.put, List.setIfInBounds_toArray, List.set_cons_zero, List.set_cons_succ])
    | (refine TxtBL.takeE (by rfl) (by rfl) ?_; apply Exists.intro; refine ⟨fun w1 hS1 => ?_, ?_⟩; (focus ((obtain ⟨g0, g1, _, _⟩ := hS1.1.two); go_simp; with_reducible rfl)); simp only [Act.put, List.setIfInBounds_toArray, List.set_cons_zero, List.set_cons_succ]))
  refine TxtBL.call (f := 24) (args := #[.agg #[.int .i64 (n : Int), .slice A l.length c]]) (fun u => ∃ B' d', u = .slice B' G.length d') (fun u w' => Below w1.heap.size w1 w' ∧ OwnP w' w1.heap.size (.slice A' l.length c') l ∧ ∀ B' d', u = .slice B' G.length d' → OwnI w' w1.heap.size (.slice B' G.length d') G) (by rfl) (by rfl) ⟨_, none, 0, rfl⟩ (fun w2 hS1 hJ1 => by go_simp) (fun w2 hS1 hJ1 => ?_) ?_
  · obtain ⟨hb2, hh⟩ := hJ1
    refine (Hlab w2 (hr1.below hb2)).mono ?_
    rintro e w' ⟨B', d', rfl, ho, hri, _, hb⟩
    refine ⟨_, rfl, ⟨hS1.1.below hb (lt_of_cell hS1.1.two.1), hS1.2.trans (hb.mono hS1.2.size)⟩, ⟨B', d', rfl⟩, endB hb2 hb, (hh _ _ rfl).below hb, fun A3 c3 e => ?_⟩
    injection e with e _ e'
    subst e e'
    exact ho.mono hb2.size
  rintro v14 ⟨B', d', rfl⟩
  simp only [Act.put, List.setIfInBounds_toArray, List.set_cons_zero, List.set_cons_succ]
  repeat (first
    | (refine TxtBL.skip (by rfl) ?_; simp only [Act.put, List.setIfInBounds_toArray, List.set_cons_zero, List.set_cons_succ])
    | (refine TxtBL.take (by rfl) (by rfl) ?_; apply Exists.intro; refine ⟨fun w1 hS1 => ?_, ?_⟩; (focus (skip; go_simp; with_reducible rfl)); simp only [Act.put, List.setIfInBounds_toArray, List.set_cons_zero, List.set_cons_succ])
    | (refine TxtBL.takeE (by rfl) (by rfl) ?_; apply Exists.intro; refine ⟨fun w1 hS1 => ?_, ?_⟩; (focus (skip; go_simp; with_reducible rfl)); simp only [Act.put, List.setIfInBounds_toArray, List.set_cons_zero, List.set_cons_succ]))
  refine TxtBL.eff (fun u => u = undef) (fun _ w' => Blk w' (w.heap.size + 1) 27 #[.int .i64 (n : Int), .slice A' l.length c', .slice B' G.length d'] ∧ OwnP w' w1.heap.size (.slice A' l.length c') l ∧ OwnI w' w1.heap.size (.slice B' G.length d') G) (by rfl) (by rfl) ⟨_, rfl⟩ (fun w2 hS1 hJ1 => ?_) ?_
  · obtain ⟨hb2, hop, hh⟩ := hJ1
    have hoi := hh _ _ rfl
    have hk := k11.below hb2 hlt1
    obtain ⟨g0, g1, g2, f0, f1, f2⟩ := hk.threeF
    refine Eff.skip (w' := ((w2.setCell ⟨w.heap.size + 1, 0, none⟩ (.int .i64 (n : Int))).setCell ⟨w.heap.size + 1, 1, none⟩ (.slice A' l.length c')).setCell ⟨w.heap.size + 1, 2, none⟩ (.slice B' G.length d')) (by go_simp) ⟨⟨((hS1.1.far (by simp) _).far (by simp) _).far (by simp) _, below_set3 hS1.2 (by omega) _ _ _⟩, rfl, set3 hk _ _ _, ((hop.farB hlt1 _ _).farB hlt1 _ _).farB hlt1 _ _, OwnI.farB (OwnI.farB (OwnI.farB hoi hlt1 _) hlt1 _) hlt1 _⟩
  rintro v rfl
  simp only [Act.put]
  repeat (first
    | (refine TxtBL.skip (by rfl) ?_; simp only [Act.put, List.setIfInBounds_toArray, List.set_cons_zero, List.set_cons_succ])
    | (refine TxtBL.take (by rfl) (by rfl) ?_; apply Exists.intro; refine ⟨fun w1 hS1 => ?_, ?_⟩; (focus (skip; go_simp; with_reducible rfl)); simp only [Act.put, List.setIfInBounds_toArray, List.set_cons_zero, List.set_cons_succ])
    | (refine TxtBL.takeE (by rfl) (by rfl) ?_; apply Exists.intro; refine ⟨fun w1 hS1 => ?_, ?_⟩; (focus (skip; go_simp; with_reducible rfl)); simp only [Act.put, List.setIfInBounds_toArray, List.set_cons_zero, List.set_cons_succ]))
  refine TxtBL.nil (fun w2 hS hJ => ?_)
  obtain ⟨hk, ho, hoi⟩ := hJ
  obtain ⟨g0, g1, g2, f0, f1, f2⟩ := hk.threeF
  have Ho := Lib.hid ho; have Hoi := Lib.hid hoi; have Hb := Lib.hid hS.2
  clear ho hoi hS hk
  go_wp2_with fail
  refine bodyPost_ret (v := .tuple #[.agg #[.int .i64 (n : Int), .slice A' l.length c', .slice B' G.length d'], .int .i64 0]) (by simp [results, Tryz.results8, go_sem, g0, g1, g2]) rfl ?_
  rw [H1.out, H2.out, H3.out, H4.out, HG.out]
  exact ⟨_, _, _, _, rfl, Ho.out.mono (by omega), Hoi.out.mono (by omega), Hb.out⟩
set_option maxRecDepth 100000 in
set_option maxHeartbeats 2000000 in
theorem r19Valid_any (A B : Option Addr) (N : Int) (l : List (Int × Int)) (lab : List Int) (c d : Nat) (w : World) (hr : RP w A l) (hl : l.length ≤ 100000) (hi : RI w B lab) (hlb : lab.length ≤ 100000) :
    Calls Tryz.prog 29 #[.agg #[.int .i64 N, .slice A l.length c, .slice B lab.length d]] w (RetB (.bool (dvB N l lab)) w) := by
  by_cases hv : valE N l = 0
  case neg =>
    have hvb : (valE N l == 0) = false := by rw [beq_eq_false_iff_ne]; exact hv
    have Hf := Lib.hid (show dvB N l lab = false by simp [dvB, hv])
    have hval := fun W (h : RP W A l) => r10Validate_any A N l c W h hl
    generalize valE N l = E at *
    clear hv
    go_enter Tryz.func29, Tryz.ntmps29
    go_upto_region 1 with fail
    obtain ⟨W0, hW, k0, hb0, hlt0⟩ := boxed3 w 27 (.int .i64 N) (.slice A l.length c) (.slice B lab.length d)
    rw [hW]
    have hr0 := hr.below hb0
    clear hW hr hi
    refine wp_region_textB [2, 3, 4, 9, 10] (fun w' => Below W0.heap.size W0 w') (fun _ => True) (by kernel_rfl) (by kernel_rfl) (by kernel_rfl) (Below.refl _ _).drew trivial ?_
    repeat (first
      | (refine TxtBL.skip (by rfl) ?_; simp only [Act.put, List.setIfInBounds_toArray, List.set_cons_zero, List.set_cons_succ])
      | (refine TxtBL.take (by rfl) (by rfl) ?_; apply Exists.intro; refine ⟨fun w1 hS1 => ?_, ?_⟩; (focus ((obtain ⟨g0, g1, g2, _, _, _⟩ := (k0.below hS1 (by omega)).threeF); go_simp; with_reducible rfl)); simp only [Act.put, List.setIfInBounds_toArray, List.set_cons_zero, List.set_cons_succ])
      | (refine TxtBL.takeE (by rfl) (by rfl) ?_; apply Exists.intro; refine ⟨fun w1 hS1 => ?_, ?_⟩; (focus ((obtain ⟨g0, g1, g2, _, _, _⟩ := (k0.below hS1 (by omega)).threeF); go_simp; with_reducible rfl)); simp only [Act.put, List.setIfInBounds_toArray, List.set_cons_zero, List.set_cons_succ]))
    refine TxtBL.call (f := 22) (args := #[.agg #[.int .i64 N, .slice A l.length c]]) (fun u => u = .int .i64 E) (fun _ _ => True) (by rfl) (by rfl) ⟨_, rfl⟩ (fun w1 hS1 hJ1 => by go_simp) (fun w1 hS1 hJ1 => ?_) ?_
    · exact (hval w1 (hr0.below hS1)).mono fun _ _ h => ⟨_, h.1, hS1.trans (h.2.mono hS1.size), rfl, trivial⟩
    rintro v5 rfl
    simp only [Act.put, List.setIfInBounds_toArray, List.set_cons_zero, List.set_cons_succ]
    repeat (first
      | (refine TxtBL.skip (by rfl) ?_; simp only [Act.put, List.setIfInBounds_toArray, List.set_cons_zero, List.set_cons_succ])
      | (refine TxtBL.take (by rfl) (by rfl) ?_; apply Exists.intro; refine ⟨fun w1 hS1 => ?_, ?_⟩; (focus (skip; go_simp; with_reducible rfl)); simp only [Act.put, List.setIfInBounds_toArray, List.set_cons_zero, List.set_cons_succ])
      | (refine TxtBL.takeE (by rfl) (by rfl) ?_; apply Exists.intro; refine ⟨fun w1 hS1 => ?_, ?_⟩; (focus (skip; go_simp; with_reducible rfl)); simp only [Act.put, List.setIfInBounds_toArray, List.set_cons_zero, List.set_cons_succ]))
    refine TxtBL.nil (fun w2 hS _ => ?_)
    go_wp2_with fail
    go_ret
    exact ⟨rb Hf.out.symm, endB hb0 hS⟩
  case pos =>
  obtain ⟨n, rfl, hvl⟩ := vld_of_valE hv hl
  have hlab : lst n (grL n l) = lst (n : Int).toNat (grL (n : Int).toNat l) := by rw [Int.toNat_natCast]
  have Hf := Lib.hid (show dvB n l lab = eqB lab (lst n (grL n l)) by rw [hlab]; simp [dvB, hv])
  have hn40 := hvl.1.1
  have hll : (lst n (grL n l)).length ≤ 100000 := by rw [lst_length]; omega
  have Hval := fun W (h : RP W A l) => r10Validate_any A n l c W h hl
  rw [hv] at Hval
  have Hlab := fun W (h : RP W A l) => r12Label_any A n l c W h hvl
  have Heq := fun W A2 c2 (h : RI W B lab) (h2 : RI W A2 (lst n (grL n l))) => r11Compare_any B A2 lab (lst n (grL n l)) d c2 W h h2 hlb hll
  have hiff := cmpLs_iff lab (lst n (grL n l))
  generalize lst n (grL n l) = G at *
  generalize eqB lab G = q at *
  generalize cmpLs lab G = z at *
  clear hv hlab
  go_enter Tryz.func29, Tryz.ntmps29
  go_upto_region 1 with fail
  obtain ⟨W0, hW, k0, hb0, hlt0⟩ := boxed3 w 27 (.int .i64 (n : Int)) (.slice A l.length c) (.slice B lab.length d)
  rw [hW]
  have hr0 := hr.below hb0
  have hi0 := hi.below hb0
  clear hW hr hi
  refine wp_region_textB [2, 3, 4, 9, 10] (fun w' => Below W0.heap.size W0 w') (fun _ => True) (by kernel_rfl) (by kernel_rfl) (by kernel_rfl) (Below.refl _ _).drew trivial ?_
  repeat (first
    | (refine TxtBL.skip (by rfl) ?_; simp only [Act.put, List.setIfInBounds_toArray, List.set_cons_zero, List.set_cons_succ])
    | (refine TxtBL.take (by rfl) (by rfl) ?_; apply Exists.intro; refine ⟨fun w1 hS1 => ?_, ?_⟩; (focus ((obtain ⟨g0, g1, g2, _, _, _⟩ := (k0.below hS1 (by omega)).threeF); go_simp; with_reducible rfl)); simp only [Act.put, List.setIfInBounds_toArray, List.set_cons_zero, List.set_cons_succ])
    | (refine TxtBL.takeE (by rfl) (by rfl) ?_; apply Exists.intro; refine ⟨fun w1 hS1 => ?_, ?_⟩; (focus ((obtain ⟨g0, g1, g2, _, _, _⟩ := (k0.below hS1 (by omega)).threeF); go_simp; with_reducible rfl)); simp only [Act.put, List.setIfInBounds_toArray, List.set_cons_zero, List.set_cons_succ]))
  refine TxtBL.call (f := 22) (args := #[.agg #[.int .i64 (n : Int), .slice A l.length c]]) (fun u => u = .int .i64 0) (fun _ _ => True) (by rfl) (by rfl) ⟨_, rfl⟩ (fun w1 hS1 hJ1 => by go_simp) (fun w1 hS1 hJ1 => ?_) ?_
  · exact (Hval w1 (hr0.below hS1)).mono fun _ _ h => ⟨_, h.1, hS1.trans (h.2.mono hS1.size), rfl, trivial⟩
  rintro v5 rfl
  simp only [Act.put, List.setIfInBounds_toArray, List.set_cons_zero, List.set_cons_succ]
  repeat (first
    | (refine TxtBL.skip (by rfl) ?_; simp only [Act.put, List.setIfInBounds_toArray, List.set_cons_zero, List.set_cons_succ])
    | (refine TxtBL.take (by rfl) (by rfl) ?_; apply Exists.intro; refine ⟨fun w1 hS1 => ?_, ?_⟩; (focus ((obtain ⟨g0, g1, g2, _, _, _⟩ := (k0.below hS1 (by omega)).threeF); go_simp; with_reducible rfl)); simp only [Act.put, List.setIfInBounds_toArray, List.set_cons_zero, List.set_cons_succ])
    | (refine TxtBL.takeE (by rfl) (by rfl) ?_; apply Exists.intro; refine ⟨fun w1 hS1 => ?_, ?_⟩; (focus ((obtain ⟨g0, g1, g2, _, _, _⟩ := (k0.below hS1 (by omega)).threeF); go_simp; with_reducible rfl)); simp only [Act.put, List.setIfInBounds_toArray, List.set_cons_zero, List.set_cons_succ]))
  refine TxtBL.call (f := 24) (args := #[.agg #[.int .i64 (n : Int), .slice A l.length c]]) (fun u => ∃ A2 c2, u = .slice A2 G.length c2) (fun u w' => ∀ A2 c2, u = .slice A2 G.length c2 → RI w' A2 G) (by rfl) (by rfl) ⟨_, none, 0, rfl⟩ (fun w1 hS1 hJ1 => by go_simp) (fun w1 hS1 hJ1 => ?_) ?_
  · refine (Hlab w1 (hr0.below hS1)).mono ?_
    rintro e w' ⟨A2, c2, rfl, _, hri, _, hb⟩
    refine ⟨_, rfl, hS1.trans (hb.mono hS1.size), ⟨A2, c2, rfl⟩, fun A3 c3 e => ?_⟩
    injection e with e _ _; rw [← e]; exact hri
  rintro v12 ⟨A2, c2, rfl⟩
  simp only [Act.put, List.setIfInBounds_toArray, List.set_cons_zero, List.set_cons_succ]
  repeat (first
    | (refine TxtBL.skip (by rfl) ?_; simp only [Act.put, List.setIfInBounds_toArray, List.set_cons_zero, List.set_cons_succ])
    | (refine TxtBL.take (by rfl) (by rfl) ?_; apply Exists.intro; refine ⟨fun w1 hS1 => ?_, ?_⟩; (focus ((obtain ⟨g0, g1, g2, _, _, _⟩ := (k0.below hS1 (by omega)).threeF); go_simp; with_reducible rfl)); simp only [Act.put, List.setIfInBounds_toArray, List.set_cons_zero, List.set_cons_succ])
    | (refine TxtBL.takeE (by rfl) (by rfl) ?_; apply Exists.intro; refine ⟨fun w1 hS1 => ?_, ?_⟩; (focus ((obtain ⟨g0, g1, g2, _, _, _⟩ := (k0.below hS1 (by omega)).threeF); go_simp; with_reducible rfl)); simp only [Act.put, List.setIfInBounds_toArray, List.set_cons_zero, List.set_cons_succ]))
  refine TxtBL.call (f := 26) (args := #[.slice B lab.length d, .slice A2 G.length c2]) (fun u => u = .int .i64 z) (fun _ _ => True) (by rfl) (by rfl) ⟨_, rfl⟩ (fun w1 hS1 hJ1 => by go_simp) (fun w1 hS1 hJ1 => ?_) ?_
  · refine (Heq w1 A2 c2 (hi0.below hS1) (hJ1 _ _ rfl)).mono fun _ _ h => ?_
    have h := h.below
    exact ⟨_, h.1, hS1.trans (h.2.mono hS1.size), rfl, trivial⟩
  rintro v13 rfl
  simp only [Act.put, List.setIfInBounds_toArray, List.set_cons_zero, List.set_cons_succ]
  repeat (first
    | (refine TxtBL.skip (by rfl) ?_; simp only [Act.put, List.setIfInBounds_toArray, List.set_cons_zero, List.set_cons_succ])
    | (refine TxtBL.take (by rfl) (by rfl) ?_; apply Exists.intro; refine ⟨fun w1 hS1 => ?_, ?_⟩; (focus (skip; go_simp; with_reducible rfl)); simp only [Act.put, List.setIfInBounds_toArray, List.set_cons_zero, List.set_cons_succ])
    | (refine TxtBL.takeE (by rfl) (by rfl) ?_; apply Exists.intro; refine ⟨fun w1 hS1 => ?_, ?_⟩; (focus (skip; go_simp; with_reducible rfl)); simp only [Act.put, List.setIfInBounds_toArray, List.set_cons_zero, List.set_cons_succ]))
  refine TxtBL.nil (fun w2 hS _ => ?_)
  go_wp2_with fail
  go_ret
  exact ⟨rb Hf.out.symm, endB hb0 hS⟩
end Go.Proofs.YtkflanjlnbdkmaaGreatDoor

/- ref19.check. -/
namespace Go.Proofs.YtkflanjlnbdkmaaGreatDoor
open Go.ChangeShapes Go.WideShapes Go.ChangeAt Go.RowKit

set_option maxRecDepth 100000 in
set_option maxHeartbeats 4000000 in
theorem r19check_any (A : Option Addr) (n : Nat) (l : List (Int × Int)) (c : Nat) (k f t : Int) (w : World) (hr : RP w A l) (hvl : Vld n l) :
    Calls Tryz.prog 30 #[.agg #[.int .i64 (n : Int), .slice A l.length c], .agg #[.int .i64 k, .int .i64 f, .int .i64 t]] w (RetB (.int .i64 (chkE n l k f t)) w) := by
  have hl := hvl.1.2.1
  have hn40 := hvl.1.1
  by_cases hk1 : k < 1
  · have HE := Lib.hid (show chkE n l k f t = 4 by unfold chkE; rw [if_pos (by omega)])
    go_enter Tryz.func30, Tryz.ntmps30
    go_upto_region 1 with fail
    obtain ⟨W0, hW, k0, k1, hb0, hlt0⟩ := boxed23 w 24 29 (.int .i64 (n : Int)) (.slice A l.length c) (.int .i64 _) (.int .i64 f) (.int .i64 t)
    rw [hW]
    obtain ⟨c0, c1, _, _⟩ := k0.two
    obtain ⟨d0, d1, d2, _, _, _⟩ := k1.threeF
    have hr0 := hr.below hb0
    clear hW
    go_wp2_with fail
    go_ret
    exact ⟨ri HE.out.symm, hb0⟩
  by_cases hk4 : 4 < k
  · have HE := Lib.hid (show chkE n l k f t = 4 by unfold chkE; rw [if_pos (by omega)])
    go_enter Tryz.func30, Tryz.ntmps30
    go_upto_region 1 with fail
    obtain ⟨W0, hW, k0, k1, hb0, hlt0⟩ := boxed23 w 24 29 (.int .i64 (n : Int)) (.slice A l.length c) (.int .i64 _) (.int .i64 f) (.int .i64 t)
    rw [hW]
    obtain ⟨c0, c1, _, _⟩ := k0.two
    obtain ⟨d0, d1, d2, _, _, _⟩ := k1.threeF
    have hr0 := hr.below hb0
    clear hW
    go_wp2_with fail
    go_ret
    exact ⟨ri HE.out.symm, hb0⟩
  by_cases h12 : k = 1 ∨ k = 2
  · have hhas := fun W (h : RP W A l) => r10Has_any A n l c f t W h hl
    rw [nGl_vld hvl] at hhas
    obtain ⟨hs, hhs⟩ : ∃ b, hasB l f t = b := ⟨_, rfl⟩
    rw [hhs] at hhas
    by_cases hrg : f < 0 ∨ (n : Int) ≤ f ∨ t < 0 ∨ (n : Int) ≤ t
    · have hE : chkE n l k f t = 1 := by unfold chkE; rw [if_neg (by omega), if_neg (by omega), if_pos hrg]
      have HE := Lib.hid hE
      clear hE hhs hhas
      have h4 : f < 0 ∨ (¬ f < 0 ∧ (n : Int) ≤ f) ∨ (¬ f < 0 ∧ ¬ (n : Int) ≤ f ∧ t < 0) ∨ (¬ f < 0 ∧ ¬ (n : Int) ≤ f ∧ ¬ t < 0 ∧ (n : Int) ≤ t) := by omega
      clear hrg
      rcases h12 with rfl | rfl <;> rcases h4 with h | ⟨h, h5⟩ | ⟨h, h5, h6⟩ | ⟨h, h5, h6, h7⟩
      all_goals
        clear hk1 hk4
        go_enter Tryz.func30, Tryz.ntmps30
        go_upto_region 1 with fail
        obtain ⟨W0, hW, k0, k1, hb0, hlt0⟩ := boxed23 w 24 29 (.int .i64 (n : Int)) (.slice A l.length c) (.int .i64 _) (.int .i64 f) (.int .i64 t)
        rw [hW]
        obtain ⟨c0, c1, _, _⟩ := k0.two
        obtain ⟨d0, d1, d2, _, _, _⟩ := k1.threeF
        have hr0 := hr.below hb0
        clear hW
        go_wp2_with fail
        go_ret
        exact ⟨ri HE.out.symm, hb0⟩
    · have hE : chkE n l k f t = if k = 1 ∧ hs = true then 5 else if k = 2 ∧ hs = false then 6 else 0 := by unfold chkE; rw [if_neg (by omega), if_neg (by omega), if_neg hrg, hhs]
      have g1 : ¬ f < 0 := by omega
      have g2 : ¬ (n : Int) ≤ f := by omega
      have g3 : ¬ t < 0 := by omega
      have g4 : ¬ (n : Int) ≤ t := by omega
      clear hhs hrg
      rcases h12 with rfl | rfl <;> cases hs
      all_goals
        simp at hE
        have HE := Lib.hid hE
        clear hE hk1 hk4
        go_enter Tryz.func30, Tryz.ntmps30
        go_upto_region 1 with fail
        obtain ⟨W0, hW, k0, k1, hb0, hlt0⟩ := boxed23 w 24 29 (.int .i64 (n : Int)) (.slice A l.length c) (.int .i64 _) (.int .i64 f) (.int .i64 t)
        rw [hW]
        obtain ⟨c0, c1, _, _⟩ := k0.two
        obtain ⟨d0, d1, d2, _, _, _⟩ := k1.threeF
        have hr0 := hr.below hb0
        clear hW
        go_wp2_with fail
        refine (hhas W0 hr0).mono ?_
        rintro e w1 ⟨rfl, hb1⟩
        have c0' := (hb1.cell (lt_of_cell c0)).trans c0
        have d0' := (hb1.cell (lt_of_cell d0)).trans d0
        have d1' := (hb1.cell (lt_of_cell d1)).trans d1
        have d2' := (hb1.cell (lt_of_cell d2)).trans d2
        go_wp2_with fail
        go_ret
        exact ⟨ri HE.out.symm, endB hb0 hb1⟩
  · have h34 : k = 3 ∨ k = 4 := by omega
    by_cases hz : f ≠ 0 ∨ t ≠ 0
    · have hE : chkE n l k f t = 1 := by unfold chkE; rw [if_neg (by omega), if_pos (by omega), if_pos hz]
      have HE := Lib.hid hE
      have hf : (f != 0) = true ∨ ((f != 0) = false ∧ (t != 0) = true) := by
        rw [bne_iff_ne, bne_eq_false_iff_eq, bne_iff_ne]
        by_cases h : f = 0
        · exact .inr ⟨h, by omega⟩
        · exact .inl h
      clear hE hz h12 hk1 hk4
      rcases h34 with rfl | rfl <;> rcases hf with hf | ⟨hf, hf2⟩
      all_goals
        go_enter Tryz.func30, Tryz.ntmps30
        go_upto_region 1 with fail
        obtain ⟨W0, hW, k0, k1, hb0, hlt0⟩ := boxed23 w 24 29 (.int .i64 (n : Int)) (.slice A l.length c) (.int .i64 _) (.int .i64 f) (.int .i64 t)
        rw [hW]
        obtain ⟨c0, c1, _, _⟩ := k0.two
        obtain ⟨d0, d1, d2, _, _, _⟩ := k1.threeF
        have hr0 := hr.below hb0
        clear hW
        go_wp2_with fail
        go_ret
        exact ⟨ri HE.out.symm, hb0⟩
    · have hf0 : f = 0 := by omega
      have ht0 : t = 0 := by omega
      subst hf0 ht0
      have hE : chkE n l k 0 0 = if k = 3 ∧ n = 40 then 2 else if k = 4 ∧ n = 0 then 9 else 0 := by unfold chkE; rw [if_neg (by omega), if_pos (by omega), if_neg hz]
      have hq : ((n : Int) == 40) = decide (n = 40) := by
        rw [Bool.eq_iff_iff, beq_iff_eq, decide_eq_true_eq]; omega
      have hq2 : ((n : Int) == 0) = decide (n = 0) := by
        rw [Bool.eq_iff_iff, beq_iff_eq, decide_eq_true_eq]; omega
      clear hz h12 hk1 hk4
      obtain ⟨b1, hb1⟩ : ∃ b, decide (n = 40) = b := ⟨_, rfl⟩
      obtain ⟨b2, hb2⟩ : ∃ b, decide (n = 0) = b := ⟨_, rfl⟩
      rw [hb1] at hq
      rw [hb2] at hq2
      have hE2 : chkE n l k 0 0 = if k = 3 ∧ b1 = true then 2 else if k = 4 ∧ b2 = true then 9 else 0 := by
        rw [hE, ← hb1, ← hb2]; simp only [decide_eq_true_eq]
      clear hE hb1 hb2
      rcases h34 with rfl | rfl <;> cases b1 <;> cases b2
      all_goals
        simp at hE2
        have HE := Lib.hid hE2
        clear hE2
        go_enter Tryz.func30, Tryz.ntmps30
        go_upto_region 1 with fail
        obtain ⟨W0, hW, k0, k1, hb0, hlt0⟩ := boxed23 w 24 29 (.int .i64 (n : Int)) (.slice A l.length c) (.int .i64 _) (.int .i64 0) (.int .i64 0)
        rw [hW]
        obtain ⟨c0, c1, _, _⟩ := k0.two
        obtain ⟨d0, d1, d2, _, _, _⟩ := k1.threeF
        have hr0 := hr.below hb0
        clear hW
        go_wp2_with fail
        go_ret
        exact ⟨ri HE.out.symm, hb0⟩
end Go.Proofs.YtkflanjlnbdkmaaGreatDoor

/- ref19.Change. -/
namespace Go.Proofs.YtkflanjlnbdkmaaGreatDoor
open Go.ChangeShapes Go.WideShapes Go.ChangeAt Go.RowKit

theorem rowG_succ (p : Nat → Nat → Bool) (a b : Nat) : rowG (b + 1) p a = rowG b p a ++ if p a b = true then [((a : Int), (b : Int))] else [] := by
  unfold rowG
  rw [List.range_succ, List.filter_append, List.map_append]
  congr 1
  by_cases h : p a b = true
  · simp [h]
  · simp [h]
theorem boxed2322 (w : World) (t u v s : TypeId) (x y a b c x' y' x2 y2 : Value) : ∃ W0, (((w.alloc (.cells #[x, y] t)).alloc (.cells #[a, b, c] u)).alloc (.cells #[x', y'] v)).alloc (.cells #[x2, y2] s) = W0 ∧ Blk W0 w.heap.size t #[x, y] ∧ Blk W0 (w.heap.size + 1) u #[a, b, c] ∧ Blk W0 (w.heap.size + 2) v #[x', y'] ∧ Blk W0 (w.heap.size + 3) s #[x2, y2] ∧ Below w.heap.size w W0 ∧ w.heap.size + 3 < W0.heap.size := by
  obtain ⟨W1, h1, k0, k1, hb1, hlt1⟩ := boxed23 w t u x y a b c
  have e1 : W1.heap.size = w.heap.size + 2 := by rw [← h1]; simp
  obtain ⟨W2, h2, k2, k3, hb2, hlt2⟩ := boxed2 W1 v s x' y' x2 y2
  rw [e1] at k2 k3 hlt2
  refine ⟨W2, by rw [h1, h2], k0.below hb2 k0.lt, k1.below hb2 k1.lt, k2, k3, endB hb1 hb2, hlt2⟩
/-- the state of ref19.Change -/
structure ChgJ (w : World) (n : Nat) (A : Option Addr) (l : List (Int × Int)) (c : Nat) (k f t : Int) (base : Nat) (m : Nat) (L : List (Int × Int)) (wr : World) : Prop where
  k0 : Blk wr w.heap.size 24 #[.int .i64 (n : Int), .slice A l.length c]
  k1 : Blk wr (w.heap.size + 1) 29 #[.int .i64 k, .int .i64 f, .int .i64 t]
  k2 : Blk wr (w.heap.size + 2) 24 #[.int .i64 0, .slice none 0 0]
  bl : Below w.heap.size w wr
  ge : base ≤ wr.heap.size
  out : ∃ v, Blk wr (w.heap.size + 3) 24 #[.int .i64 (m : Int), v] ∧ OwnP wr base v L
theorem ChgJ.below {w wr wr' : World} {n : Nat} {A : Option Addr} {l : List (Int × Int)} {c : Nat} {k f t : Int} {base m : Nat} {L : List (Int × Int)} (h : ChgJ w n A l c k f t base m L wr) (hb : Below wr.heap.size wr wr') : ChgJ w n A l c k f t base m L wr' := by
  obtain ⟨v, h1, h2⟩ := h.out
  exact ⟨h.k0.below hb h.k0.lt, h.k1.below hb h.k1.lt, h.k2.below hb h.k2.lt, endB h.bl hb, Nat.le_trans h.ge hb.size, v, h1.below hb h1.lt, h2.below hb⟩
/-- behind an append and the store of its slice -/
theorem ChgJ.app {w wr w8 : World} {n : Nat} {A : Option Addr} {l : List (Int × Int)} {c : Nat} {k f t : Int} {base m : Nat} {L L' : List (Int × Int)} {v v' : Value} (hbase : w.heap.size + 3 < base) (h : ChgJ w n A l c k f t base m L wr) (h1 : Blk wr (w.heap.size + 3) 24 #[.int .i64 (m : Int), v]) (h8 : OwnP w8 base v' L') (hb : Below base wr w8) :
    ChgJ w n A l c k f t base m L' (w8.setCell ⟨w.heap.size + 3, 1, none⟩ v') := by
  have k0 := h.k0.below hb (by omega)
  have k1 := h.k1.below hb (by omega)
  have k2 := h.k2.below hb (by omega)
  have k3 := h1.below hb (by omega)
  refine ⟨k0.grown (grownBy_setCell w8 (w.heap.size + 3) 1 v') (fun e => by injection e with e; omega), k1.grown (grownBy_setCell w8 (w.heap.size + 3) 1 v') (fun e => by injection e with e; omega), k2.grown (grownBy_setCell w8 (w.heap.size + 3) 1 v') (fun e => by injection e with e; omega), ?_, by simpa using Nat.le_trans h.ge hb.size, v', k3.set_ 1 v', h8.farB hbase 1 v'⟩
  exact (h.bl.trans (hb.mono (by omega))).setCell (p := ⟨w.heap.size + 3, 1, none⟩) (by simp) _
theorem ChgJ.set0 {w wr : World} {n : Nat} {A : Option Addr} {l : List (Int × Int)} {c : Nat} {k f t : Int} {base m : Nat} {L : List (Int × Int)} (hbase : w.heap.size + 3 < base) (h : ChgJ w n A l c k f t base m L wr) (m' : Nat) : ChgJ w n A l c k f t base m' L (wr.setCell ⟨w.heap.size + 3, 0, none⟩ (.int .i64 (m' : Int))) := by
  obtain ⟨v, h1, h2⟩ := h.out
  refine ⟨h.k0.grown (grownBy_setCell wr (w.heap.size + 3) 0 _) (fun e => by injection e with e; omega), h.k1.grown (grownBy_setCell wr (w.heap.size + 3) 0 _) (fun e => by injection e with e; omega), h.k2.grown (grownBy_setCell wr (w.heap.size + 3) 0 _) (fun e => by injection e with e; omega), ?_, by simpa using h.ge, v, h1.set_ 0 _, h2.farB hbase 0 _⟩
  exact h.bl.setCell (p := ⟨w.heap.size + 3, 0, none⟩) (by simp) _
set_option maxRecDepth 100000 in
set_option maxHeartbeats 4000000 in
theorem r19Change_any (A : Option Addr) (n : Nat) (l : List (Int × Int)) (c : Nat) (k f t : Int) (w : World) (hr : RP w A l) (hvl : Vld n l) (hE : chkE n l k f t = 0) :
    Calls Tryz.prog 31 #[.agg #[.int .i64 (n : Int), .slice A l.length c], .agg #[.int .i64 k, .int .i64 f, .int .i64 t]] w (RetGn (chN n k : Nat) (chL n l k f t) w) := by
  have hl := hvl.1.2.1
  have hm40 := chN_le hvl.1.1 hE
  have hn40 := hvl.1.1
  have hhas := fun (W : World) (h : RP W A l) (a b : Nat) => r10Has_any A n l c (a : Int) (b : Int) W h hl
  rw [nGl_vld hvl] at hhas
  have hgl := Lib.hid (show chL n l k f t = gridR (chN n k) (chgB l k f t) (chN n k) from rfl)
  have hgr0 := Lib.hid (show gridR (chN n k) (chgB l k f t) 0 = [] from rfl)
  have hkk : (k = 3 ∧ (k == 3) = true ∧ chN n k = n + 1) ∨ ((k == 3) = false ∧ k = 4 ∧ (k == 4) = true ∧ 0 < n ∧ chN n k = n - 1) ∨ ((k == 3) = false ∧ (k == 4) = false ∧ chN n k = n) := by
    rw [beq_iff_eq, beq_eq_false_iff_ne, beq_iff_eq, beq_eq_false_iff_ne]
    by_cases h3 : k = 3
    · exact .inl ⟨h3, h3, by simp [chN, h3]⟩
    · by_cases h4 : k = 4
      · refine .inr (.inl ⟨h3, h4, h4, ?_, by simp [chN, h4]⟩)
        subst h4
        apply Nat.pos_of_ne_zero
        intro h0
        unfold chkE at hE
        rw [if_neg (by omega), if_pos (by omega)] at hE
        split at hE
        · omega
        · rw [if_neg (by omega), if_pos ⟨rfl, h0⟩] at hE; omega
      · exact .inr (.inr ⟨h3, h4, by simp [chN, h3, h4]⟩)
  have Hhas := Lib.hid hhas
  obtain ⟨m, hm⟩ : ∃ m, chN n k = m := ⟨_, rfl⟩
  rw [hm] at hm40 hgl hgr0 hkk ⊢
  clear hE hvl hhas hl hm
  go_enter Tryz.func31, Tryz.ntmps31
  go_upto_region 2 with fail
  obtain ⟨W0, hW, k0, k1, k2, k3, hb0, hlt0⟩ := boxed2322 w 24 29 24 24 (.int .i64 (n : Int)) (.slice A l.length c) (.int .i64 k) (.int .i64 f) (.int .i64 t) (.int .i64 0) (.slice none 0 0) (.int .i64 (n : Int)) (.slice none 0 0)
  rw [hW]
  clear hW
  obtain ⟨base, hbs⟩ : ∃ b, W0.heap.size = b := ⟨_, rfl⟩
  have hJ0 : ChgJ w n A l c k f t base n [] W0 := ⟨k0, k1, k2, hb0, by omega, _, k3, OwnP.nil _ _⟩
  rw [hbs] at hlt0
  obtain ⟨d0, d1, d2, _, _, _⟩ := k1.threeF
  obtain ⟨e0, e1, f0, f1⟩ := k3.two
  have hw1 : IntKind.i64.wrap ((n : Int) + 1) = (n : Int) + 1 := by rw [IntKind.wrap_i64]; omega
  clear hbs k0 k1 k2 k3 hb0
  go_upto_block 0 with fail
  go_cut [5] (fun s5 wx => s5 = Value.pointer (some ⟨w.heap.size + 3, 0, none⟩) ∧ ChgJ w n A l c k f t base m [] wx)
  case first =>
    rcases hkk with ⟨rfl, q3, hm⟩ | ⟨q3, rfl, q4, hn0, hm⟩ | ⟨q3, q4, hm⟩
    · have HJ := Lib.hid (hJ0.set0 hlt0 (n + 1))
      have Hm := Lib.hid hm
      clear hm hJ0
      go_wp2_with fail
      go_meet
      exact ⟨rfl, by rw [Hm.out]; exact HJ.out⟩
    · have HJ := Lib.hid (hJ0.set0 hlt0 (n - 1))
      have Hm := Lib.hid hm
      have hw2 : IntKind.i64.wrap ((n : Int) - 1) = ((n - 1 : Nat) : Int) := by rw [IntKind.wrap_i64]; omega
      clear hm hJ0
      go_wp2_with fail
      go_meet
      exact ⟨rfl, by rw [Hm.out]; exact HJ.out⟩
    · have HJ := Lib.hid hJ0
      have Hm := Lib.hid hm
      clear hm hJ0
      go_wp2_with fail
      go_meet
      exact ⟨rfl, by rw [Hm.out]; exact HJ.out⟩
  obtain ⟨rfl, hJ1⟩ := hcut
  obtain ⟨W1, hW1⟩ : ∃ W, W = wc := ⟨_, rfl⟩
  subst hW1
  have HJ1 := Lib.hid hJ1
  clear hkk hJ0 d0 d1 d2 e0 e1 f0 f1 hw1 hJ1
  go_wp2_with fail
  go_loopw [6] (fun s6 wr => ∃ a : Nat, a ≤ m ∧ s6 = .int .i64 a ∧ ChgJ w n A l c k f t base m (gridR m (chgB l k f t) a) wr) (fun s6 _ => m - (intOf s6).toNat)
  case atStart => exact ⟨0, by omega, rfl, by rw [hgr0.out]; exact HJ1.out⟩
  case round =>
    obtain ⟨a, ha, rfl, hJ⟩ := hrel
    obtain ⟨v, k3, hown⟩ := hJ.out
    obtain ⟨e0, e1, _, _⟩ := k3.two
    by_cases ham : a < m
    case neg =>
      obtain rfl : a = m := by omega
      obtain ⟨A', c', rfl, _, _⟩ := hown.form
      have hbl := hJ.bl
      have k2 := hJ.k2
      obtain ⟨L, hL⟩ : ∃ L, gridR a (chgB l k f t) a = L := ⟨_, rfl⟩
      rw [hL] at hown k3 e1
      have HL := Lib.hid hL
      obtain ⟨z0, z1, x0, x1⟩ := k2.two
      have hk := (k2.set_ 0 (.int .i64 (a : Int))).set_ 1 (.slice A' L.length c')
      have ho := (hown.farB (g := w.heap.size + 2) (by omega) 0 (.int .i64 (a : Int))).farB (g := w.heap.size + 2) (by omega) 1 (.slice A' L.length c')
      have hb4 := (hbl.setCell (p := ⟨w.heap.size + 2, 0, none⟩) (by simp) (.int .i64 (a : Int))).setCell (p := ⟨w.heap.size + 2, 1, none⟩) (by simp) (.slice A' L.length c')
      obtain ⟨q0, q1, _, _⟩ := hk.two
      have Ho := Lib.hid ho; have Hb := Lib.hid hb4
      clear ho hb4 hk k3 hJ hown hbl k2 hL
      go_wp2_with fail
      refine bodyPost_ret (v := .agg #[.int .i64 (a : Int), .slice A' L.length c']) (by simp [results, Tryz.results31, go_sem, q0, q1]) rfl ?_
      have hwb : w.heap.size ≤ base := by omega
      rw [hgl.out, HL.out]
      exact ⟨_, _, rfl, Ho.out.mono hwb, Hb.out⟩
    case pos =>
    have ham' : (a : Int) < (m : Int) := by omega
    have HJ := Lib.hid hJ
    clear hJ k3 hown
    go_wp2_with fail
    go_loopw [7] (fun s7 wi => ∃ b : Nat, b ≤ m ∧ s7 = .int .i64 b ∧ ChgJ w n A l c k f t base m (gridR m (chgB l k f t) a ++ rowG b (chgB l k f t) a) wi) (fun s7 _ => m - (intOf s7).toNat)
    case atStart => exact ⟨0, by omega, rfl, by simpa [rowG] using HJ.out⟩
    case round =>
      obtain ⟨b, hb, rfl, hJ⟩ := hrel
      clear e0 e1 HJ
      obtain ⟨wi, hwi⟩ : ∃ x, x = wr := ⟨_, rfl⟩
      subst hwi
      obtain ⟨v, k3, hown⟩ := hJ.out
      obtain ⟨e0, e1, f0, f1⟩ := k3.two
      by_cases hbm : b < m
      case neg =>
        obtain rfl : b = m := by omega
        have hbm' : ¬ (b : Int) < (b : Int) := by omega
        clear k3 hown
        go_wp2_with fail
        go_roundw
        case rel => exact ⟨a + 1, by omega, by go_num, hJ⟩
        case measure => simp [intOf]; omega
      case pos =>
      have hbm' : (b : Int) < (m : Int) := by omega
      obtain ⟨c0, c1, _, _⟩ := hJ.k0.two
      obtain ⟨d0, d1, d2, _, _, _⟩ := hJ.k1.threeF
      have hlen : (gridR m (chgB l k f t) a ++ rowG b (chgB l k f t) a).length ≤ 1000000 := by
        rw [List.length_append]
        have h1 := gridR_len m (chgB l k f t) a
        have h2 := rowG_len b (chgB l k f t) a
        have : a * m ≤ 40 * 40 := Nat.mul_le_mul (by omega) hm40
        omega
      have hnx := rowG_succ (chgB l k f t) a b
      have hcg : chgB l k f t a b = (hasB l a b && !(k == 2 && (f == (a : Int) && t == (b : Int))) || (k == 1 && (f == (a : Int) && t == (b : Int)))) := rfl
      obtain ⟨q, hq⟩ : ∃ q, chgB l k f t a b = q := ⟨_, rfl⟩
      rw [hq] at hnx hcg
      generalize gridR m (chgB l k f t) a = R at *
      have Hnx := Lib.hid hnx
      have Hcg := Lib.hid hcg
      clear hnx hcg hq
      go_upto_region 13 with fail
      go_cut [8] (fun s8 wx => s8 = Value.bool (f == (a : Int) && t == (b : Int)) ∧ wx = wi)
      case first =>
        cases h1 : (f == (a : Int)) <;> cases h2 : (t == (b : Int))
        all_goals
          go_wp2_with fail
          go_meet
          exact ⟨by rw [h1, h2]; rfl, rfl⟩
      obtain ⟨rfl, hwc⟩ := hcut
      have hwc := hwc.symm
      subst hwc
      have hh := Hhas.out wi (hr.below hJ.bl) a b
      generalize hasB l a b = hs at *
      generalize (f == (a : Int) && t == (b : Int)) = th at *
      have Hh := Lib.hid hh
      clear hh
      go_upto_region 14 with fail
      go_cut [68] (fun s68 wx => s68 = Value.bool q ∧ Below wi.heap.size wi wx)
      case first =>
        obtain ⟨k1, hk1⟩ : ∃ x, (k == 1) = x := ⟨_, rfl⟩
        obtain ⟨k2, hk2⟩ : ∃ x, (k == 2) = x := ⟨_, rfl⟩
        rw [hk1, hk2] at Hcg
        have hJk := hJ.k1
        clear e0 e1 f0 f1 k3 hown
        go_wp2_with fail
        refine Hh.out.mono ?_
        rintro e w5 ⟨rfl, hb5⟩
        obtain ⟨d0, d1, d2, _, _, _⟩ := (hJk.below hb5 hJk.lt).threeF
        clear Hh c0 c1 hJk
        cases hs <;> cases k2 <;> cases th <;> cases k1
        all_goals
          go_wp2_with fail
          go_meet
          exact ⟨by rw [Hcg.out]; rfl, hb5⟩
      obtain ⟨rfl, hb5⟩ := hcut
      obtain ⟨W5, hW5⟩ : ∃ W, W = wc := ⟨_, rfl⟩
      subst hW5
      have hJ5 := hJ.below hb5
      clear hJ k3 hown e0 e1 f0 f1 c0 c1 d0 d1 d2 Hh
      obtain ⟨v, k3, hown⟩ := hJ5.out
      obtain ⟨e0, e1, f0, f1⟩ := k3.two
      have hge := hJ5.ge
      cases q
      · have hnx2 := Hnx.out
        rw [if_neg (by simp), List.append_nil] at hnx2
        have Hnx2 := Lib.hid hnx2
        clear hnx2 Hnx
        go_wp2_with fail
        go_roundw
        case rel => exact ⟨b + 1, by omega, by go_num, by rw [Hnx2.out]; exact hJ5⟩
        case measure => simp [intOf]; omega
      · have hnx2 := Hnx.out
        rw [if_pos rfl] at hnx2
        have Hnx2 := Lib.hid hnx2
        obtain ⟨L, hL⟩ : ∃ L, R ++ rowG b (chgB l k f t) a = L := ⟨_, rfl⟩
        rw [hL] at hown hlen hJ5
        have Hown := Lib.hid hown
        have HJ5 := Lib.hid hJ5
        have HL := Lib.hid hL
        have Hl1 := Lib.hid (show (L ++ [((a : Int), (b : Int))]).length = L.length + 1 by simp)
        clear hnx2 Hnx hown hJ5 hL
        go_wp2_with (at_builtin; refine wpList_appP (by rfl) _ _ (by rfl) W5 base v L (a : Int) (b : Int) Hown.out (by rfl) (by rfl) hlen hge ?_; intro v' w8 hown8 hb8 hg8; have k8 := k3.below hb8 (by omega); (obtain ⟨g0, g1, x0, x1⟩ := k8.two); (obtain ⟨A9, c9, rfl, _, _⟩ := OwnP.form hown8); rw [Hl1.out] at hown8 ⊢; have Hown8 := Lib.hid hown8; have Hb8 := Lib.hid hb8; clear hown8 hb8 hg8)
        go_roundw
        case rel => exact ⟨b + 1, by omega, by go_num, by rw [Hnx2.out, ← List.append_assoc, HL.out]; exact HJ5.out.app hlt0 k3 Hown8.out Hb8.out⟩
        case measure => simp [intOf]; omega
end Go.Proofs.YtkflanjlnbdkmaaGreatDoor

/- ref19.affected. -/
namespace Go.Proofs.YtkflanjlnbdkmaaGreatDoor
open Go.ChangeShapes Go.WideShapes Go.ChangeAt Go.RowKit

theorem boxed223 (w : World) (t u v : TypeId) (x y x' y' a b c : Value) : ∃ W0, ((w.alloc (.cells #[x, y] t)).alloc (.cells #[x', y'] u)).alloc (.cells #[a, b, c] v) = W0 ∧ Blk W0 w.heap.size t #[x, y] ∧ Blk W0 (w.heap.size + 1) u #[x', y'] ∧ Blk W0 (w.heap.size + 2) v #[a, b, c] ∧ Below w.heap.size w W0 ∧ w.heap.size + 2 < W0.heap.size := by
  obtain ⟨W1, h1, k0, k1, hb1, hlt1⟩ := boxed2 w t u x y x' y'
  have e1 : W1.heap.size = w.heap.size + 2 := by rw [← h1]; simp
  obtain ⟨W2, h2, k2, hb2, hlt2⟩ := boxed3 W1 v a b c
  rw [e1] at k2 hlt2
  refine ⟨W2, by rw [h1, h2], k0.below hb2 k0.lt, k1.below hb2 k1.lt, k2, endB hb1 hb2, hlt2⟩
theorem rtL_len {n : Nat} {l : List (Int × Int)} (hv : Vld n l) (k t : Int) : (rtL n l k t).length ≤ 100000 := by
  unfold rtL
  split
  · exact Nat.le_trans (attackedL_len _ _) hv.1.2.1
  · split <;> simp
def fndB (m : Nat) (l : List (Int × Int)) (rs : List Int) (j i : Nat) : Bool := (rs.take j).any fun r => inB (reachL m l r) i
theorem fndB_succ {m : Nat} {l : List (Int × Int)} {rs : List Int} {j i : Nat} (h : j < rs.length) : fndB m l rs (j + 1) i = (fndB m l rs j i || inB (reachL m l rs[j]) i) := by
  unfold fndB; rw [List.take_succ_eq_append_getElem h, List.any_append]; simp
set_option maxRecDepth 100000 in
set_option maxHeartbeats 4000000 in
theorem r19affected_any (A A2 : Option Addr) (n : Nat) (l : List (Int × Int)) (c c2 : Nat) (k f t : Int) (w : World) (hr : RP w A l) (hr2 : RP w A2 (chL n l k f t)) (hvl : Vld n l) (hE : chkE n l k f t = 0) :
    Calls Tryz.prog 32 #[.agg #[.int .i64 (n : Int), .slice A l.length c], .agg #[.int .i64 (chN n k : Nat), .slice A2 (chL n l k f t).length c2], .agg #[.int .i64 k, .int .i64 f, .int .i64 t]] w (RetI (affL (chN n k) (chL n l k f t) (rtL n l k t)) w) := by
  have hl := hvl.1.2.1
  have hn40 := hvl.1.1
  have hv2 := ch_vld hvl.1.1 hE
  have hm40 := chN_le hvl.1.1 hE
  by_cases h3 : k = 3
  case pos =>
    subst h3
    have hz : f = 0 ∧ t = 0 ∧ n < 40 := by
      unfold chkE at hE
      rw [if_neg (by omega), if_pos (by omega)] at hE
      split at hE
      · omega
      · rename_i h
        split at hE
        · omega
        · rename_i h'
          refine ⟨by omega, by omega, ?_⟩
          have : n ≠ 40 := fun e => h' ⟨rfl, e⟩
          omega
    obtain ⟨rfl, rfl, hn⟩ := hz
    have hres : affL (chN n 3) (chL n l 3 0 0) (rtL n l 3 0) = [(n : Int)] := by
      rw [chN3, ← ch_node hvl, show rtL n l 3 0 = [(n : Int)] by simp [rtL]]
      exact new_aff hvl hn
    rw [hres]
    generalize chL n l 3 0 0 = l2 at *
    generalize chN n 3 = m at *
    clear hE hv2 hres
    go_enter Tryz.func32, Tryz.ntmps32
    go_upto_region 1 with fail
    obtain ⟨W0, hW, k0, k1, k2, hb0, hlt0⟩ := boxed223 w 24 24 29 (.int .i64 (n : Int)) (.slice A l.length c) (.int .i64 (m : Int)) (.slice A2 l2.length c2) (.int .i64 3) (.int .i64 0) (.int .i64 0)
    rw [hW]
    obtain ⟨c0, c1, _, _⟩ := k0.two
    obtain ⟨d0, d1, d2, _, _, _⟩ := k2.threeF
    clear hW
    go_wp2_with fail
    go_ret
    exact RetI.mk ((own_one W0 (n : Int)).mono hb0.size) (thenB (Below.refl _ _) (endB hb0 (newB _ _)))
  case neg =>
  have h3b : (k == 3) = false := by rw [beq_eq_false_iff_ne]; exact h3
  have hrl := rtL_len hvl k t
  have h4 : (k = 4 ∧ (k == 4) = true ∧ rtL n l k t = attackedL l ((n : Int) - 1) ∧ 0 < n) ∨ ((k == 4) = false ∧ rtL n l k t = [t]) := by
    by_cases h4 : k = 4
    · refine .inl ⟨h4, by rw [beq_iff_eq]; exact h4, by simp [rtL, h4], ?_⟩
      subst h4
      apply Nat.pos_of_ne_zero
      intro h0
      unfold chkE at hE
      rw [if_neg (by omega), if_pos (by omega)] at hE
      split at hE
      · omega
      · rw [if_neg (by omega), if_pos ⟨rfl, h0⟩] at hE; omega
    · exact .inr ⟨by rw [beq_eq_false_iff_ne]; exact h4, by simp [rtL, h3, h4]⟩
  have hatt := fun (W : World) (h : RP W A l) => r10Attacked_any A n l c ((n : Int) - 1) W h hl
  rw [nGl_vld hvl] at hatt
  have hreach := fun (W : World) (h : RP W A2 (chL n l k f t)) (r : Int) => r10Reach_any A2 (chN n k : Nat) (chL n l k f t) c2 r W h hv2.1.2.1
  rw [nGn_vld hv2, nGl_vld hv2, Int.toNat_natCast] at hreach
  generalize hrs : rtL n l k t = rs at *
  generalize chL n l k f t = l2 at *
  generalize chN n k = m at *
  have Hatt := Lib.hid hatt; have Hreach := Lib.hid hreach
  have Haff : Hid (affL m l2 rs = nodesB m (fun i => fndB m l2 rs rs.length i)) := Lib.hid (by
    unfold affL affB fndB; rw [List.take_length])
  clear hatt hreach hE hv2 hvl hl hrs
  go_enter Tryz.func32, Tryz.ntmps32
  go_upto_region 1 with fail
  obtain ⟨W0, hW, k0, k1, k2, hb0, hlt0⟩ := boxed223 w 24 24 29 (.int .i64 (n : Int)) (.slice A l.length c) (.int .i64 (m : Int)) (.slice A2 l2.length c2) (.int .i64 k) (.int .i64 f) (.int .i64 t)
  rw [hW]
  have hr0 := hr.below hb0
  have hr20 := hr2.below hb0
  obtain ⟨c0, c1, _, _⟩ := k0.two
  obtain ⟨d0, d1, d2, _, _, _⟩ := k2.threeF
  clear hW hr hr2
  go_upto_block 0 with fail
  go_cut [7] (fun s7 wx => ∃ F c', s7 = Value.slice F rs.length c' ∧ RI wx F rs ∧ Below W0.heap.size W0 wx)
  case first =>
    rcases h4 with ⟨rfl, q4, hq, hn0⟩ | ⟨q4, hq⟩
    · have hw2 : IntKind.i64.wrap ((n : Int) - 1) = (n : Int) - 1 := by rw [IntKind.wrap_i64]; omega
      rw [← hq] at Hatt
      clear hq
      go_wp2_with fail
      refine (Hatt.out W0 hr0).mono ?_
      rintro e w1 ⟨F, c', rfl, _, hri, _, hb1⟩
      go_wp2_with fail
      go_meet
      exact ⟨F, c', rfl, hri, hb1⟩
    · have Hq := Lib.hid hq
      clear hq
      go_wp2_with fail
      go_meet
      exact ⟨some ⟨W0.heap.size, 0, none⟩, 1, by rw [Hq.out]; rfl, by rw [Hq.out]; exact (own_one W0 t).ri, newB _ _⟩
  obtain ⟨F, c', rfl, hri, hb1⟩ := hcut
  obtain ⟨W1, hW1⟩ : ∃ W, W = wc := ⟨_, rfl⟩
  subst hW1
  have k11 := k1.below hb1 k1.lt
  have hr1 := hr20.below hb1
  have hbb1 := endB hb0 hb1
  clear k0 k1 k2 c0 c1 d0 d1 d2 h4 hr0 hr20 hb0 hlt0 hb1 Hatt
  go_wp2_with fail
  go_loopw [8, 9] (fun s8 s9 wr => ∃ i : Nat, i ≤ m ∧ s9 = .int .i64 i ∧ OwnI wr W1.heap.size s8 (nodesB i (fun i => fndB m l2 rs rs.length i)) ∧ Below W1.heap.size W1 wr) (fun _ s9 _ => m - (intOf s9).toNat)
  case atStart => exact ⟨0, by omega, rfl, OwnI.nil _ _, Below.refl _ _⟩
  case round =>
    obtain ⟨i, hi, rfl, hown, hbl⟩ := hrel
    have k12 := k11.below hbl k11.lt
    obtain ⟨c0, c1, _, _⟩ := k12.two
    by_cases him : i < m
    case neg =>
      obtain rfl : i = m := by omega
      obtain ⟨A', c3, rfl, _, _⟩ := hown.form
      have Hown := Lib.hid hown
      have him' : ¬ (i : Int) < (i : Int) := by omega
      clear hown
      go_wp2_with fail
      go_ret
      rw [Haff.out]
      exact RetI.mk (Hown.out.mono hbb1.size) (endB hbb1 hbl)
    case pos =>
    have him' : (i : Int) < (m : Int) := by omega
    obtain ⟨wo, hwo⟩ : ∃ x, x = wr := ⟨_, rfl⟩
    subst hwo
    have hsucc := nodesB_succ i (fun i => fndB m l2 rs rs.length i)
    have hnl := nodesB_length i (fun i => fndB m l2 rs rs.length i)
    have Hsucc := Lib.hid hsucc; have Hown := Lib.hid hown
    generalize nodesB i (fun i => fndB m l2 rs rs.length i) = R at *
    have hr12 := hr1.below hbl
    have hri2 := hri.below hbl
    clear hsucc hown
    go_wp2_with fail
    go_loopw [10, 11] (fun s10 s11 wi => ∃ j : Nat, j ≤ rs.length ∧ s11 = .int .i64 j ∧ s10 = .bool (fndB m l2 rs j i) ∧ Below wo.heap.size wo wi) (fun _ s11 _ => rs.length - (intOf s11).toNat)
    case atStart => exact ⟨0, by omega, rfl, by simp [fndB], Below.refl _ _⟩
    case round =>
      obtain ⟨j, hj, rfl, rfl, hbi⟩ := hrel
      obtain ⟨wi, hwi⟩ : ∃ x, x = wr := ⟨_, rfl⟩
      subst hwi
      have k13 := k12.below hbi k12.lt
      obtain ⟨e0, e1, _, _⟩ := k13.two
      by_cases hjl : j < rs.length
      case neg =>
        obtain rfl : j = rs.length := by omega
        have hjl' : ¬ (rs.length : Int) < (rs.length : Int) := by omega
        cases hf : fndB m l2 rs rs.length i
        · have Hf := Lib.hid hf
          clear hf
          go_wp2_with fail
          go_roundw
          case rel => exact ⟨i + 1, by omega, by go_num, by rw [Hsucc.out]; simp only [Hf.out]; simpa using OwnI.below Hown.out hbi, hbl.trans (hbi.mono hbl.size)⟩
          case measure => simp [intOf]; omega
        · have Hf := Lib.hid hf
          have Hown2 := Lib.hid (OwnI.below Hown.out hbi)
          have hge : W1.heap.size ≤ wi.heap.size := Nat.le_trans hbl.size hbi.size
          clear hf
          go_wp2_with (at_builtin; refine wpList_appI (by rfl) _ _ (by rfl) wi W1.heap.size _ R (i : Int) Hown2.out (by rfl) (by rfl) (by omega) hge ?_; intro v' w8 hown8 hb8 _)
          go_roundw
          case rel => exact ⟨i + 1, by omega, by go_num, by rw [Hsucc.out]; simp only [Hf.out, if_true]; exact hown8, (hbl.trans (hbi.mono hbl.size)).trans hb8⟩
          case measure => simp [intOf]; omega
      case pos =>
      have hjl' : (j : Int) < (rs.length : Int) := by omega
      have hj0 : (0 : Int) ≤ (j : Int) := by omega
      obtain ⟨b, o, rfl, hc⟩ := (hri2.below hbi).at_ hjl
      have hsn := fndB_succ (m := m) (l := l2) (i := i) hjl
      generalize rs[j] = r at *
      have hrl2 := reachL_len m l2 r
      obtain ⟨RL, hRL⟩ : ∃ RL, reachL m l2 r = RL := ⟨_, rfl⟩
      rw [hRL] at hsn hrl2
      have hre := fun (W : World) (h : RP W A2 l2) => Hreach.out W h r
      rw [hRL] at hre
      have Hre := Lib.hid hre; have Hsn := Lib.hid hsn
      clear hre hsn hRL
      go_upto_region 15 with fail
      generalize fndB m l2 rs j i = fd at *
      cases fd
      · rw [Bool.false_or] at Hsn
        refine wp_region_textB [7, 9] (fun w' => Below wi.heap.size wi w') (fun _ => True) (by kernel_rfl) (by kernel_rfl) (by kernel_rfl) (Below.refl _ _).drew trivial ?_
        repeat (first
          | (refine TxtBL.skip (by rfl) ?_; simp only [Act.put, List.setIfInBounds_toArray, List.set_cons_zero, List.set_cons_succ])
          | (refine TxtBL.take (by rfl) (by rfl) ?_; apply Exists.intro; refine ⟨fun w1 hS1 => ?_, ?_⟩; (focus ((obtain ⟨g0, g1, _, _⟩ := (k13.below hS1 k13.lt).two; have v1 := (hS1.cell (lt_of_cell hc)).trans hc); go_simp; with_reducible rfl)); simp only [Act.put, List.setIfInBounds_toArray, List.set_cons_zero, List.set_cons_succ])
          | (refine TxtBL.takeE (by rfl) (by rfl) ?_; apply Exists.intro; refine ⟨fun w1 hS1 => ?_, ?_⟩; (focus ((obtain ⟨g0, g1, _, _⟩ := (k13.below hS1 k13.lt).two; have v1 := (hS1.cell (lt_of_cell hc)).trans hc); go_simp; with_reducible rfl)); simp only [Act.put, List.setIfInBounds_toArray, List.set_cons_zero, List.set_cons_succ]))
        refine TxtBL.call (f := 52) (args := #[.agg #[.int .i64 (m : Int), .slice A2 l2.length c2], .int .i64 r]) (fun u => ∃ A5 c5, u = .slice A5 RL.length c5) (fun u w' => ∀ A5 c5, u = .slice A5 RL.length c5 → RI w' A5 RL) (by rfl) (by rfl) ⟨_, none, 0, rfl⟩ (fun w1 hS1 hJ1 => by go_simp) (fun w1 hS1 hJ1 => ?_) ?_
        · refine (Hre.out w1 ((hr12.below hbi).below hS1)).mono ?_
          rintro e w' ⟨A5, c5, rfl, _, hri5, _, hb⟩
          refine ⟨_, rfl, hS1.trans (hb.mono hS1.size), ⟨A5, c5, rfl⟩, fun A6 c6 e => ?_⟩
          injection e with e _ _; rw [← e]; exact hri5
        rintro v7 ⟨A5, c5, rfl⟩
        simp only [Act.put, List.setIfInBounds_toArray, List.set_cons_zero, List.set_cons_succ]
        repeat (first
          | (refine TxtBL.skip (by rfl) ?_; simp only [Act.put, List.setIfInBounds_toArray, List.set_cons_zero, List.set_cons_succ])
          | (refine TxtBL.take (by rfl) (by rfl) ?_; apply Exists.intro; refine ⟨fun w1 hS1 => ?_, ?_⟩; (focus (skip; go_simp; with_reducible rfl)); simp only [Act.put, List.setIfInBounds_toArray, List.set_cons_zero, List.set_cons_succ])
          | (refine TxtBL.takeE (by rfl) (by rfl) ?_; apply Exists.intro; refine ⟨fun w1 hS1 => ?_, ?_⟩; (focus (skip; go_simp; with_reducible rfl)); simp only [Act.put, List.setIfInBounds_toArray, List.set_cons_zero, List.set_cons_succ]))
        refine TxtBL.call (f := 51) (args := #[.slice A5 RL.length c5, .int .i64 i]) (fun u => u = .bool (inB RL i)) (fun _ _ => True) (by rfl) (by rfl) ⟨_, rfl⟩ (fun w1 hS1 hJ1 => by go_simp) (fun w1 hS1 hJ1 => ?_) ?_
        · exact (r11In_any A5 RL c5 (i : Int) w1 (by omega) (hJ1 _ _ rfl)).mono fun _ _ h => ⟨_, h.1, by rw [← h.2]; exact hS1, rfl, trivial⟩
        rintro v9 rfl
        simp only [Act.put, List.setIfInBounds_toArray, List.set_cons_zero, List.set_cons_succ]
        repeat (first
          | (refine TxtBL.skip (by rfl) ?_; simp only [Act.put, List.setIfInBounds_toArray, List.set_cons_zero, List.set_cons_succ])
          | (refine TxtBL.take (by rfl) (by rfl) ?_; apply Exists.intro; refine ⟨fun w1 hS1 => ?_, ?_⟩; (focus (skip; go_simp; with_reducible rfl)); simp only [Act.put, List.setIfInBounds_toArray, List.set_cons_zero, List.set_cons_succ])
          | (refine TxtBL.takeE (by rfl) (by rfl) ?_; apply Exists.intro; refine ⟨fun w1 hS1 => ?_, ?_⟩; (focus (skip; go_simp; with_reducible rfl)); simp only [Act.put, List.setIfInBounds_toArray, List.set_cons_zero, List.set_cons_succ]))
        refine TxtBL.nil (fun wz hS _ => ?_)
        go_wp2_with fail
        go_roundw
        case rel => exact ⟨j + 1, by omega, by go_num, by rw [Hsn.out], endB hbi hS⟩
        case measure => simp [intOf]; omega
      · rw [Bool.true_or] at Hsn
        refine wp_region_textB [7, 9] (fun w' => Below wi.heap.size wi w') (fun _ => True) (by kernel_rfl) (by kernel_rfl) (by kernel_rfl) (Below.refl _ _).drew trivial ?_
        repeat (first
          | (refine TxtBL.skip (by rfl) ?_; simp only [Act.put, List.setIfInBounds_toArray, List.set_cons_zero, List.set_cons_succ])
          | (refine TxtBL.take (by rfl) (by rfl) ?_; apply Exists.intro; refine ⟨fun w1 hS1 => ?_, ?_⟩; (focus (skip; go_simp; with_reducible rfl)); simp only [Act.put, List.setIfInBounds_toArray, List.set_cons_zero, List.set_cons_succ])
          | (refine TxtBL.takeE (by rfl) (by rfl) ?_; apply Exists.intro; refine ⟨fun w1 hS1 => ?_, ?_⟩; (focus (skip; go_simp; with_reducible rfl)); simp only [Act.put, List.setIfInBounds_toArray, List.set_cons_zero, List.set_cons_succ]))
        refine TxtBL.nil (fun wz hS _ => ?_)
        go_wp2_with fail
        go_roundw
        case rel => exact ⟨j + 1, by omega, by go_num, by rw [Hsn.out], endB hbi hS⟩
        case measure => simp [intOf]; omega
end Go.Proofs.YtkflanjlnbdkmaaGreatDoor

/- ref19.Apply; dynamic.Apply at any state. -/
namespace Go.Proofs.YtkflanjlnbdkmaaGreatDoor
open Go.ChangeShapes Go.WideShapes Go.ChangeAt Go.RowKit

/-- what a change of any state gives: the graph, the nodes affected, the error -/
def avR (N : Int) (l : List (Int × Int)) (lab : List Int) (k f t : Int) : Nat × List (Int × Int) × List Int × Int :=
  if dvB N l lab = true then (apN N.toNat l k f t, apL N.toNat l k f t, apF N.toNat l k f t, chkE N.toNat l k f t) else (0, [], [], 7)
theorem dvB_vld {N : Int} {l : List (Int × Int)} {lab : List Int} (h : dvB N l lab = true) (hl : l.length ≤ 100000) : ∃ n : Nat, N = n ∧ Vld n l ∧ lab = lst n (grL n l) := by
  unfold dvB at h
  rw [Bool.and_eq_true, decide_eq_true_eq] at h
  obtain ⟨n, rfl, hv⟩ := vld_of_valE h.1 hl
  have h2 := (eqB_iff _ _).1 h.2
  rw [Int.toNat_natCast] at h2
  exact ⟨n, rfl, hv, h2⟩
theorem lst_zero (f : Nat → Int) : lst 0 f = [] := rfl
set_option maxRecDepth 100000 in
set_option maxHeartbeats 2000000 in
theorem dApply_bad (A B : Option Addr) (N : Int) (l : List (Int × Int)) (lab : List Int) (c d : Nat) (k f t : Int) (w : World) (hval : ∀ W, Below w.heap.size w W → Calls Tryz.prog 27 #[.agg #[.int .i64 N, .slice A l.length c, .slice B lab.length d]] W (RetB (.bool false) W)) :
    Calls Tryz.prog 12 #[.agg #[.int .i64 N, .slice A l.length c, .slice B lab.length d], .agg #[.int .i64 k, .int .i64 f, .int .i64 t]] w (RetAv 0 [] [] [] 7 w) := by
  go_enter Tryz.func12, Tryz.ntmps12
  go_upto_region 1 with fail
  obtain ⟨W0, hW, k0, k1, k2, hb0⟩ := boxed333 w 27 29 27 (.int .i64 N) (.slice A l.length c) (.slice B lab.length d) (.int .i64 k) (.int .i64 f) (.int .i64 t) (.int .i64 0) (.slice none 0 0) (.slice none 0 0)
  rw [hW]
  obtain ⟨c0, c1, c2, _, _, _⟩ := k0.threeF
  clear hW
  go_wp2_with fail
  refine (hval W0 hb0).mono ?_
  rintro e w1 ⟨rfl, hb1⟩
  have k21 := k2.below hb1 k2.lt
  have hbb := endB hb0 hb1
  obtain ⟨g0, g1, g2, f0, f1, f2⟩ := k21.threeF
  have hk := set3 k21 (.int .i64 0) (.slice none 0 0) (.slice none 0 0)
  obtain ⟨q0, q1, q2, _, _, _⟩ := hk.threeF
  have hbb3 := below_set3 hbb (g := w.heap.size + 1 + 1) (by omega) (.int .i64 0) (.slice none 0 0) (.slice none 0 0)
  clear k0 k1 k2 k21 c0 c1 c2 hval hk
  go_wp2_with fail
  refine bodyPost_ret (v := .tuple #[.agg #[.int .i64 0, .slice none 0 0, .slice none 0 0], .slice none 0 0, .int .i64 7]) (by simp [results, Tryz.results12, go_sem, q0, q1, q2]) rfl ?_
  exact ⟨none, 0, none, 0, none, 0, rfl, DyV.of_own (OwnP.nil _ _) (OwnI.nil _ _), RI.nil _ _, hbb3⟩
theorem r19Apply_bad (A B : Option Addr) (N : Int) (l : List (Int × Int)) (lab : List Int) (c d : Nat) (k f t : Int) (w : World) (hval : ∀ W, Below w.heap.size w W → Calls Tryz.prog 29 #[.agg #[.int .i64 N, .slice A l.length c, .slice B lab.length d]] W (RetB (.bool false) W)) :
    Calls Tryz.prog 13 #[.agg #[.int .i64 N, .slice A l.length c, .slice B lab.length d], .agg #[.int .i64 k, .int .i64 f, .int .i64 t]] w (RetAv 0 [] [] [] 7 w) := by
  go_enter Tryz.func13, Tryz.ntmps13
  go_upto_region 1 with fail
  obtain ⟨W0, hW, k0, k1, k2, hb0⟩ := boxed333 w 27 29 27 (.int .i64 N) (.slice A l.length c) (.slice B lab.length d) (.int .i64 k) (.int .i64 f) (.int .i64 t) (.int .i64 0) (.slice none 0 0) (.slice none 0 0)
  rw [hW]
  obtain ⟨c0, c1, c2, _, _, _⟩ := k0.threeF
  clear hW
  go_wp2_with fail
  refine (hval W0 hb0).mono ?_
  rintro e w1 ⟨rfl, hb1⟩
  have k21 := k2.below hb1 k2.lt
  have hbb := endB hb0 hb1
  obtain ⟨g0, g1, g2, f0, f1, f2⟩ := k21.threeF
  have hk := set3 k21 (.int .i64 0) (.slice none 0 0) (.slice none 0 0)
  obtain ⟨q0, q1, q2, _, _, _⟩ := hk.threeF
  have hbb3 := below_set3 hbb (g := w.heap.size + 1 + 1) (by omega) (.int .i64 0) (.slice none 0 0) (.slice none 0 0)
  clear k0 k1 k2 k21 c0 c1 c2 hval hk
  go_wp2_with fail
  refine bodyPost_ret (v := .tuple #[.agg #[.int .i64 0, .slice none 0 0, .slice none 0 0], .slice none 0 0, .int .i64 7]) (by simp [results, Tryz.results13, go_sem, q0, q1, q2]) rfl ?_
  exact ⟨none, 0, none, 0, none, 0, rfl, DyV.of_own (OwnP.nil _ _) (OwnI.nil _ _), RI.nil _ _, hbb3⟩
set_option maxRecDepth 100000 in
set_option maxHeartbeats 4000000 in
theorem r19Apply_good {n : Nat} {l : List (Int × Int)} (hv : Vld n l) (k f t : Int) (A : Option Addr) (c : Nat) (B : Option Addr) (d : Nat) (w : World) (m0 : Nat) (h : DyV w m0 l (lst n (grL n l)) A c B d) :
    Calls Tryz.prog 13 #[.agg #[.int .i64 (n : Int), .slice A l.length c, .slice B (lst n (grL n l)).length d], .agg #[.int .i64 k, .int .i64 f, .int .i64 t]] w (RetAv (apN n l k f t : Nat) (apL n l k f t) (apG n l k f t) (apF n l k f t) (chkE n l k f t) w) := by
  have hl := hv.1.2.1
  have hn40 := hv.1.1
  have hlabl : (lst n (grL n l)).length ≤ 100000 := by rw [lst_length]; omega
  have hdv : dvB n l (lst n (grL n l)) = true := by
    unfold dvB
    rw [hv.valE, Int.toNat_natCast]
    simp [eqB]
  have hval := fun W (h1 : RP W A l) (h2 : RI W B (lst n (grL n l))) => r19Valid_any A B n l (lst n (grL n l)) c d W h1 hl h2 hlabl
  rw [hdv] at hval
  have hchk := fun W (h1 : RP W A l) => r19check_any A n l c k f t W h1 hv
  have HV := Lib.hid hv
  have hr := h.rp; have hi := h.ri
  by_cases hE : chkE n l k f t = 0
  case neg =>
    have hbad : apN n l k f t = 0 ∧ apL n l k f t = [] ∧ apF n l k f t = [] := by unfold apN apL apF; rw [if_neg hE, if_neg hE, if_neg hE]; exact ⟨rfl, rfl, rfl⟩
    have hG : apG n l k f t = [] := by unfold apG; rw [hbad.1]; rfl
    rw [hbad.1, hbad.2.1, hbad.2.2, hG]
    have hEb : (chkE n l k f t != 0) = true := by rw [bne_iff_ne]; exact hE
    generalize chkE n l k f t = E at *
    generalize lst n (grL n l) = G at *
    clear hbad hG hE hdv h hv
    go_enter Tryz.func13, Tryz.ntmps13
    go_upto_region 1 with fail
    obtain ⟨W0, hW, k0, k1, k2, hb0⟩ := boxed333 w 27 29 27 (.int .i64 (n : Int)) (.slice A l.length c) (.slice B G.length d) (.int .i64 k) (.int .i64 f) (.int .i64 t) (.int .i64 0) (.slice none 0 0) (.slice none 0 0)
    rw [hW]
    have hr0 := hr.below hb0
    have hi0 := hi.below hb0
    obtain ⟨c0, c1, c2, _, _, _⟩ := k0.threeF
    clear hW
    go_wp2_with fail
    refine (hval W0 hr0 hi0).mono ?_
    rintro e w1 ⟨rfl, hb1⟩
    have k01 := k0.below hb1 k0.lt
    have k11 := k1.below hb1 k1.lt
    have k21 := k2.below hb1 k2.lt
    have hbb1 := endB hb0 hb1
    obtain ⟨c0, c1, c2, _, _, _⟩ := k01.threeF
    obtain ⟨d0, d1, d2, _, _, _⟩ := k11.threeF
    clear k0 k1 k2 hval hi0
    go_wp2_with fail
    refine (hchk w1 (hr0.below hb1)).mono ?_
    rintro e w2 ⟨rfl, hb2⟩
    have k22 := k21.below hb2 k21.lt
    have hbb := endB hbb1 hb2
    obtain ⟨g0, g1, g2, f0, f1, f2⟩ := k22.threeF
    have hk := set3 k22 (.int .i64 0) (.slice none 0 0) (.slice none 0 0)
    obtain ⟨q0, q1, q2, _, _, _⟩ := hk.threeF
    have hbb3 := below_set3 hbb (g := w.heap.size + 1 + 1) (by omega) (.int .i64 0) (.slice none 0 0) (.slice none 0 0)
    clear k01 k11 k21 k22 c0 c1 c2 d0 d1 d2 hchk hk
    go_wp2_with fail
    refine bodyPost_ret (v := .tuple #[.agg #[.int .i64 0, .slice none 0 0, .slice none 0 0], .slice none 0 0, .int .i64 E]) (by simp [results, Tryz.results13, go_sem, q0, q1, q2]) rfl ?_
    exact ⟨none, 0, none, 0, none, 0, rfl, DyV.of_own (OwnP.nil _ _) (OwnI.nil _ _), RI.nil _ _, hbb3⟩
  case pos =>
  have hv2 := ch_vld hv.1.1 hE
  have hnew := fun W (A2 : Option Addr) (c2 : Nat) (h1 : RP W A2 (chL n l k f t)) (h2 : A2 = none → chL n l k f t = [] ∧ c2 = 0) => r19New_any A2 (chN n k : Nat) (chL n l k f t) c2 W h1 h2 hv2.1.2.1
  have hlb : gLb (chN n k : Nat) (chL n l k f t) = lst (chN n k) (grL (chN n k) (chL n l k f t)) := by unfold gLb; rw [nGn_vld hv2, nGl_vld hv2, Int.toNat_natCast]
  rw [nGn_vld hv2, nGl_vld hv2, hlb, hv2.valE] at hnew
  have hchg := fun W (h1 : RP W A l) => r19Change_any A n l c k f t W h1 hv hE
  have haff := fun W (A2 : Option Addr) (c2 : Nat) (h1 : RP W A l) (h2 : RP W A2 (chL n l k f t)) => r19affected_any A A2 n l c c2 k f t W h1 h2 hv hE
  obtain ⟨e1, e2, e3⟩ := ap_ok hE
  unfold apG
  rw [e1, e2, e3, hE]
  rw [hE] at hchk
  generalize affL (chN n k) (chL n l k f t) (rtL n l k t) = F at *
  generalize chL n l k f t = l2 at *
  generalize chN n k = n2 at *
  generalize lst n2 (grL n2 l2) = G2 at *
  generalize lst n (grL n l) = G at *
  have Hval := Lib.hid hval; have Hchk := Lib.hid hchk; have Hchg := Lib.hid hchg; have Haff := Lib.hid haff; have Hnew := Lib.hid hnew
  clear e1 e2 e3 hE hdv h hv hv2 hlb hval hchk hchg haff hnew
  go_enter Tryz.func13, Tryz.ntmps13
  go_upto_region 1 with fail
  obtain ⟨W0, hW, k0, k1, k2, hb0⟩ := boxed333 w 27 29 27 (.int .i64 (n : Int)) (.slice A l.length c) (.slice B G.length d) (.int .i64 k) (.int .i64 f) (.int .i64 t) (.int .i64 0) (.slice none 0 0) (.slice none 0 0)
  rw [hW]
  have hr0 := hr.below hb0
  have hi0 := hi.below hb0
  have hlt0 := k2.lt
  obtain ⟨c0, c1, c2, _, _, _⟩ := k0.threeF
  clear hW hr hi
  go_wp2_with fail
  refine (Hval.out W0 hr0 hi0).mono ?_
  rintro e w1 ⟨rfl, hb1⟩
  have k01 := k0.below hb1 k0.lt
  have k11 := k1.below hb1 k1.lt
  have k21 := k2.below hb1 k2.lt
  have hbb1 := endB hb0 hb1
  have hr1 := hr0.below hb1
  obtain ⟨c0, c1, c2, _, _, _⟩ := k01.threeF
  obtain ⟨d0, d1, d2, _, _, _⟩ := k11.threeF
  clear k0 k1 k2 Hval hi0 hr0 hb1
  go_wp2_with fail
  refine (Hchk.out w1 hr1).mono ?_
  rintro e w2 ⟨rfl, hb2⟩
  have k02 := k01.below hb2 k01.lt
  have k12 := k11.below hb2 k11.lt
  have k22 := k21.below hb2 k21.lt
  have hbb2 := endB hbb1 hb2
  have hr2 := hr1.below hb2
  obtain ⟨c0, c1, c2, _, _, _⟩ := k02.threeF
  obtain ⟨d0, d1, d2, _, _, _⟩ := k12.threeF
  clear k01 k11 k21 Hchk hr1 hb2
  go_wp2_with fail
  refine (Hchg.out w2 hr2).mono ?_
  rintro e w3 ⟨A3, c3, rfl, hop3, hb3⟩
  have hw2 : w.heap.size + 1 + 1 < w2.heap.size := k22.lt
  have k03 := k02.below hb3 k02.lt
  have k13 := k12.below hb3 k12.lt
  have k23 := k22.below hb3 k22.lt
  have hbb3 := endB hbb2 hb3
  have hr3 := hr2.below hb3
  have hsz3 := hb3.size
  clear k02 k12 k22 Hchg hr2 hb3 c0 c1 c2 d0 d1 d2
  go_upto_region 7 with fail
  obtain ⟨W4, hW4, g0, g1, hb4, hlt4⟩ := boxed w3 24 (.int .i64 (n2 : Int)) (.slice A3 l2.length c3)
  have k84 : Blk W4 w3.heap.size 24 #[.int .i64 (n2 : Int), .slice A3 l2.length c3] := by rw [← hW4]; exact Blk.new w3 _ _
  rw [hW4]
  have k04 := k03.below hb4 k03.lt
  have k14 := k13.below hb4 k13.lt
  have k24 := k23.below hb4 k23.lt
  have hbb4 := endB hbb3 hb4
  have hr4 := hr3.below hb4
  have hop4 := hop3.below hb4
  obtain ⟨hrp4, hn4⟩ := OwnP.form3 hop4
  have Hn := Lib.hid (Hnew.out W4 A3 c3 hrp4 hn4)
  have Hop4 := Lib.hid hop4
  clear hW4 k03 k13 k23 hr3 hop3 hop4 hb4 Hnew hn4
  go_wp2_with fail
  refine Hn.out.mono ?_
  rintro e w5 ⟨A5, c5, B5, d5, rfl, hop5, hoi5, hb5⟩
  have k05 := k04.below hb5 k04.lt
  have k15 := k14.below hb5 k14.lt
  have k25 := k24.below hb5 k24.lt
  have k85 := k84.below hb5 k84.lt
  have hbb5 := endB hbb4 hb5
  have hr5 := hr4.below hb5
  have hrp5 := hrp4.below hb5
  have hsz5 := hb5.size
  have hD3 : w3.heap.size < W4.heap.size := k84.lt
  clear k04 k14 k24 k84 hr4 hrp4 hb5 Hn g0 g1 Hop4
  go_upto_region 8 with fail
  obtain ⟨W6, hW6, k96, hb6, hlt6⟩ := boxed3 w5 27 (.int .i64 (n2 : Int)) (.slice A5 l2.length c5) (.slice B5 G2.length d5)
  rw [hW6]
  have k06 := k05.below hb6 k05.lt
  have k16 := k15.below hb6 k15.lt
  have k26 := k25.below hb6 k25.lt
  have k86 := k85.below hb6 k85.lt
  have hbb6 := endB hbb5 hb6
  have hr6 := hr5.below hb6
  have hrp6 := hrp5.below hb6
  have hop6 := (hop5.below hb6)
  have hoi6 := (OwnI.below hoi5 hb6)
  have hsz6 := hb6.size
  have hbase : w.heap.size + 1 + 1 < W4.heap.size := by omega
  clear hW6 k05 k15 k25 k85 hr5 hrp5 hop5 hoi5 hb6
  refine wp_region_textB [5, 6] (fun w' => Blk w' w.heap.size 27 #[.int .i64 (n : Int), .slice A l.length c, .slice B G.length d] ∧ Blk w' (w.heap.size + 1) 29 #[.int .i64 k, .int .i64 f, .int .i64 t] ∧ Blk w' w3.heap.size 24 #[.int .i64 (n2 : Int), .slice A3 l2.length c3] ∧ Blk w' w5.heap.size 27 #[.int .i64 (n2 : Int), .slice A5 l2.length c5, .slice B5 G2.length d5] ∧ Below w.heap.size w w') (fun w' => Below W6.heap.size W6 w') (by kernel_rfl) (by kernel_rfl) (by kernel_rfl) ⟨k06.below (Below.refl _ _).drew k06.lt, k16.below (Below.refl _ _).drew k16.lt, k86.below (Below.refl _ _).drew k86.lt, k96.below (Below.refl _ _).drew k96.lt, hbb6.trans ((Below.refl _ _).drew.mono hbb6.size)⟩ (Below.refl _ _).drew ?_
  repeat (first
    | (refine TxtBL.skip (by rfl) ?_; simp only [Act.put, List.setIfInBounds_toArray, List.set_cons_zero, List.set_cons_succ])
    | (refine TxtBL.take (by rfl) (by rfl) ?_; apply Exists.intro; refine ⟨fun w1 hS1 => ?_, ?_⟩; (focus ((obtain ⟨a0, a1, a2, _, _, _⟩ := hS1.1.threeF; obtain ⟨b0, b1, b2, _, _, _⟩ := hS1.2.1.threeF; obtain ⟨g0, g1, _, _⟩ := hS1.2.2.1.two; obtain ⟨h0, h1, h2, _, _, _⟩ := hS1.2.2.2.1.threeF); go_simp; with_reducible rfl)); simp only [Act.put, List.setIfInBounds_toArray, List.set_cons_zero, List.set_cons_succ])
    | (refine TxtBL.takeE (by rfl) (by rfl) ?_; apply Exists.intro; refine ⟨fun w1 hS1 => ?_, ?_⟩; (focus ((obtain ⟨a0, a1, a2, _, _, _⟩ := hS1.1.threeF; obtain ⟨b0, b1, b2, _, _, _⟩ := hS1.2.1.threeF; obtain ⟨g0, g1, _, _⟩ := hS1.2.2.1.two; obtain ⟨h0, h1, h2, _, _, _⟩ := hS1.2.2.2.1.threeF); go_simp; with_reducible rfl)); simp only [Act.put, List.setIfInBounds_toArray, List.set_cons_zero, List.set_cons_succ]))
  refine TxtBL.call (f := 32) (args := #[.agg #[.int .i64 (n : Int), .slice A l.length c], .agg #[.int .i64 (n2 : Int), .slice A3 l2.length c3], .agg #[.int .i64 k, .int .i64 f, .int .i64 t]]) (fun u => ∃ A7 c7, u = .slice A7 F.length c7) (fun u w' => Below W6.heap.size W6 w' ∧ ∀ A7 c7, u = .slice A7 F.length c7 → OwnI w' W6.heap.size (.slice A7 F.length c7) F) (by rfl) (by rfl) ⟨_, none, 0, rfl⟩ (fun w7 hS1 hJ1 => by go_simp) (fun w7 hS1 hJ1 => ?_) ?_
  · refine (Haff.out w7 A3 c3 (hr6.below hJ1) (hrp6.below hJ1)).mono ?_
    rintro e w' ⟨A7, c7, rfl, ho, _, _, hb⟩
    refine ⟨_, rfl, ⟨hS1.1.below hb hS1.1.lt, hS1.2.1.below hb hS1.2.1.lt, hS1.2.2.1.below hb hS1.2.2.1.lt, hS1.2.2.2.1.below hb hS1.2.2.2.1.lt, hS1.2.2.2.2.trans (hb.mono hS1.2.2.2.2.size)⟩, ⟨A7, c7, rfl⟩, endB hJ1 hb, fun A8 c8 e => ?_⟩
    injection e with e _ e'
    subst e e'
    exact ho.mono hJ1.size
  rintro v37 ⟨A7, c7, rfl⟩
  simp only [Act.put, List.setIfInBounds_toArray, List.set_cons_zero, List.set_cons_succ]
  refine TxtBL.eff (fun u => u = undef) (fun _ w' => Blk w' (w.heap.size + 1 + 1) 27 #[.int .i64 (n2 : Int), .slice A5 l2.length c5, .slice B5 G2.length d5] ∧ OwnP w' W4.heap.size (.slice A5 l2.length c5) l2 ∧ OwnI w' W4.heap.size (.slice B5 G2.length d5) G2 ∧ OwnI w' W6.heap.size (.slice A7 F.length c7) F) (by rfl) (by rfl) ⟨_, rfl⟩ (fun w7 hS1 hJ1 => ?_) ?_
  · obtain ⟨hb7, hh⟩ := hJ1
    have hof := hh _ _ rfl
    have hk := k26.below hb7 k26.lt
    have hop := hop6.below hb7
    have hoi := OwnI.below hoi6 hb7
    obtain ⟨g0, g1, g2, f0, f1, f2⟩ := hk.threeF
    have hb6' : w.heap.size + 1 + 1 < W6.heap.size := k26.lt
    refine Eff.skip (w' := ((w7.setCell ⟨w.heap.size + 1 + 1, 0, none⟩ (.int .i64 (n2 : Int))).setCell ⟨w.heap.size + 1 + 1, 1, none⟩ (.slice A5 l2.length c5)).setCell ⟨w.heap.size + 1 + 1, 2, none⟩ (.slice B5 G2.length d5)) (by go_simp) ⟨⟨((hS1.1.far (by dsimp only; omega) _).far (by dsimp only; omega) _).far (by dsimp only; omega) _, ((hS1.2.1.far (by dsimp only; omega) _).far (by dsimp only; omega) _).far (by dsimp only; omega) _, ((hS1.2.2.1.far (by dsimp only; omega) _).far (by dsimp only; omega) _).far (by dsimp only; omega) _, ((hS1.2.2.2.1.far (by dsimp only; omega) _).far (by dsimp only; omega) _).far (by dsimp only; omega) _, below_set3 hS1.2.2.2.2 (by omega) _ _ _⟩, rfl, set3 hk _ _ _, ((hop.farB hbase _ _).farB hbase _ _).farB hbase _ _, OwnI.farB (OwnI.farB (OwnI.farB hoi hbase _) hbase _) hbase _, OwnI.farB (OwnI.farB (OwnI.farB hof hb6' _) hb6' _) hb6' _⟩
  rintro v rfl
  simp only [Act.put]
  repeat (first
    | (refine TxtBL.skip (by rfl) ?_; simp only [Act.put, List.setIfInBounds_toArray, List.set_cons_zero, List.set_cons_succ])
    | (refine TxtBL.take (by rfl) (by rfl) ?_; apply Exists.intro; refine ⟨fun w1 hS1 => ?_, ?_⟩; (focus (skip; go_simp; with_reducible rfl)); simp only [Act.put, List.setIfInBounds_toArray, List.set_cons_zero, List.set_cons_succ])
    | (refine TxtBL.takeE (by rfl) (by rfl) ?_; apply Exists.intro; refine ⟨fun w1 hS1 => ?_, ?_⟩; (focus (skip; go_simp; with_reducible rfl)); simp only [Act.put, List.setIfInBounds_toArray, List.set_cons_zero, List.set_cons_succ]))
  refine TxtBL.nil (fun w8 hS hJ => ?_)
  obtain ⟨hk, ho, hoi, hof⟩ := hJ
  obtain ⟨g0, g1, g2, f0, f1, f2⟩ := hk.threeF
  have Ho := Lib.hid ho; have Hoi := Lib.hid hoi; have Hof := Lib.hid hof; have Hb := Lib.hid hS.2.2.2.2
  clear ho hoi hof hS hk k06 k16 k26 k86 k96 hop6 hoi6
  go_wp2_with fail
  refine bodyPost_ret (v := .tuple #[.agg #[.int .i64 (n2 : Int), .slice A5 l2.length c5, .slice B5 G2.length d5], .slice A7 F.length c7, .int .i64 0]) (by simp [results, Tryz.results13, go_sem, g0, g1, g2]) rfl ?_
  exact ⟨_, _, _, _, _, _, rfl, (DyV.of_own Ho.out Hoi.out).mono (by omega), (OwnI.form3 Hof.out).1, Hb.out⟩
/-- Apply at any state -/
theorem r19Apply_any (A B : Option Addr) (N : Int) (l : List (Int × Int)) (lab : List Int) (c d : Nat) (k f t : Int) (w : World) (hr : RP w A l) (hA : A = none → l = [] ∧ c = 0) (hl : l.length ≤ 100000) (hi : RI w B lab) (hB : B = none → lab = [] ∧ d = 0) (hlb : lab.length ≤ 100000) :
    Calls Tryz.prog 13 #[.agg #[.int .i64 N, .slice A l.length c, .slice B lab.length d], .agg #[.int .i64 k, .int .i64 f, .int .i64 t]] w (RetAv ((avR N l lab k f t).1 : Nat) (avR N l lab k f t).2.1 (lst (avR N l lab k f t).1 (grL (avR N l lab k f t).1 (avR N l lab k f t).2.1)) (avR N l lab k f t).2.2.1 (avR N l lab k f t).2.2.2 w) := by
  cases hd : dvB N l lab
  · unfold avR
    rw [if_neg (by rw [hd]; simp)]
    refine r19Apply_bad A B N l lab c d k f t w fun W hb => ?_
    have := r19Valid_any A B N l lab c d W (hr.below hb) hl (hi.below hb) hlb
    rwa [hd] at this
  · obtain ⟨n, rfl, hv, rfl⟩ := dvB_vld hd hl
    unfold avR
    rw [if_pos hd, Int.toNat_natCast]
    exact r19Apply_good hv k f t A c B d w 0 ⟨hr, hA, hi, hB, fun _ _ _ => Nat.zero_le _, fun _ _ _ => Nat.zero_le _⟩
theorem dApply_any (A B : Option Addr) (N : Int) (l : List (Int × Int)) (lab : List Int) (c d : Nat) (k f t : Int) (w : World) (hr : RP w A l) (hA : A = none → l = [] ∧ c = 0) (hl : l.length ≤ 100000) (hi : RI w B lab) (hB : B = none → lab = [] ∧ d = 0) (hlb : lab.length ≤ 100000) (hT : Tab w) :
    Calls Tryz.prog 12 #[.agg #[.int .i64 N, .slice A l.length c, .slice B lab.length d], .agg #[.int .i64 k, .int .i64 f, .int .i64 t]] w (RetAv ((avR N l lab k f t).1 : Nat) (avR N l lab k f t).2.1 (lst (avR N l lab k f t).1 (grL (avR N l lab k f t).1 (avR N l lab k f t).2.1)) (avR N l lab k f t).2.2.1 (avR N l lab k f t).2.2.2 w) := by
  cases hd : dvB N l lab
  · unfold avR
    rw [if_neg (by rw [hd]; simp)]
    refine dApply_bad A B N l lab c d k f t w fun W hb => ?_
    have := dvalid_any A B N l lab c d W (hr.below hb) hl (hi.below hb) hlb (hT.below hb)
    rwa [hd] at this
  · obtain ⟨n, rfl, hv, rfl⟩ := dvB_vld hd hl
    unfold avR
    rw [if_pos hd, Int.toNat_natCast]
    exact app_any hv k f t A c B d w 0 ⟨hr, hA, hi, hB, fun _ _ _ => Nat.zero_le _, fun _ _ _ => Nat.zero_le _⟩ hT
end Go.Proofs.YtkflanjlnbdkmaaGreatDoor
