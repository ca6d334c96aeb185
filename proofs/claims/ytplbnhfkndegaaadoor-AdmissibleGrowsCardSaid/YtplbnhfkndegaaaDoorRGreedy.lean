/- The reference's Greedy. -/
import Derived.Test.YtplbnhfkndegaaaDoorEffA
namespace Go.Proofs.YtplbnhfkndegaaaDoor
open Go.ChangeShapes Go.WideShapes Go.ChangeAt Go.RowKit

/-- the call returns some list of at most m numbers in a new slice -/
def RetAny (m : Nat) (w : World) : Ending → World → Prop := fun e w' => ∃ v y, e = .returned v ∧ OwnI w' w.heap.size v y ∧ y.length ≤ m ∧ Below w.heap.size w w'

set_option maxRecDepth 100000 in
set_option maxHeartbeats 8000000 in
theorem r13Greedy_any (A : Option Addr) (n : Nat) (l : List (Int × Int)) (c : Nat) (B : Option Addr) (x : List Int) (cx : Nat) (w : World) (hr : RP w A l) (hv : InR n l) (hgl : nGl n l = l) (hx : RI w B x) (hxl : x.length ≤ 10000) :
    Calls Tryd.prog 21 #[.agg #[.int .i64 (n : Int), .slice A l.length c], .slice B x.length cx] w (RetAny x.length w) := by
  have hn := hv.1; have hlen := hv.2.1
  have Hgl := Lib.hid hgl; clear hgl
  go_enter Tryd.func21, Tryd.ntmps21
  go_wp2_with fail
  obtain ⟨WG, hW, c0, c1, hb0, hlt0⟩ := boxed w 27 (.int .i64 (n : Int)) (.slice A l.length c)
  rw [hW]
  have hr0 := hr.below hb0
  have hx0 := hx.below hb0
  clear hW hr hx
  go_wp2_with fail
  go_loopw [5, 6] (fun v i wr => ∃ (k : Nat) (y : List Int), k ≤ x.length ∧ i = .int .i64 k ∧ OwnI wr w.heap.size v y ∧ y.length ≤ k ∧ Below WG.heap.size WG wr) (fun _ i _ => x.length - (intOf i).toNat)
  case atStart => exact ⟨0, [], Nat.zero_le _, rfl, OwnI.nil _ _, Nat.le_refl _, Below.refl _ _⟩
  case round =>
    obtain ⟨k, y, hk, rfl, hown, hyk, hbl⟩ := hrel
    by_cases hlt : k < x.length
    case neg =>
      go_wp2_with fail
      go_ret
      exact ⟨_, y, rfl, hown, by omega, endB hb0 hbl⟩
    case pos =>
    obtain ⟨VA, vc, rfl, hvr, hvn⟩ := hown.form2
    have Hown := Lib.hid hown; have Hvn := Lib.hid hvn; clear hown hvn
    obtain ⟨W0, hW0⟩ : ∃ W0, W0 = wr := ⟨_, rfl⟩
    subst hW0
    have d0 := (hbl.cell (lt_of_cell c0)).trans c0
    have d1 := (hbl.cell (lt_of_cell c1)).trans c1
    obtain ⟨b', o', rfl, d2⟩ := (hx0.below hbl).at_ hlt
    have hi0 : (0 : Int) ≤ (k : Int) := by omega
    have hi1 : (k : Int) < (x.length : Int) := by omega
    go_wp2_with fail
    obtain ⟨yy, hyy⟩ : ∃ yy, y ++ [x[k]] = yy := ⟨_, rfl⟩
    have hyl : yy.length ≤ k + 1 := by rw [← hyy]; simp; omega
    have Hyy := Lib.hid hyy; clear hyy
    refine wp_region_tree [0, 2, 7, 8] (fun w' => Below W0.heap.size W0 w') (fun _ => True) 10 [0, 1, 2, 3, 4, 5, 6, 7, 8, 9] (by rfl) (by decide) (by kernel_rfl) (by kernel_rfl) (Below.refl _ _).drew trivial ?_
    refine TxtT.pure 1 (by rfl) (by rw [List.getElem?_toArray]; rfl) (by rfl) (by kernel_rfl) (by rfl) ?_; apply Exists.intro; refine ⟨fun w1 hS1 => ?_, ?_⟩; (focus (have g2 := (hS1.cell (lt_of_cell d2)).trans d2; go_simp; with_reducible rfl))
    rw [show List.erase [0, 1, 2, 3, 4, 5, 6, 7, 8, 9] 1 = [0, 2, 3, 4, 5, 6, 7, 8, 9] from rfl]; simp only [Act.put, List.setIfInBounds_toArray, List.set_cons_zero, List.set_cons_succ]
    refine TxtT.pure 3 (by rfl) (by rw [List.getElem?_toArray]; rfl) (by rfl) (by kernel_rfl) (by rfl) ?_; apply Exists.intro; refine ⟨fun w1 hS1 => ?_, ?_⟩; (focus (have g2 := (hS1.cell (lt_of_cell d2)).trans d2; go_simp; with_reducible rfl))
    rw [show List.erase [0, 2, 3, 4, 5, 6, 7, 8, 9] 3 = [0, 2, 4, 5, 6, 7, 8, 9] from rfl]; simp only [Act.put, List.setIfInBounds_toArray, List.set_cons_zero, List.set_cons_succ]
    refine TxtT.pure 4 (by rfl) (by rw [List.getElem?_toArray]; rfl) (by rfl) (by kernel_rfl) (by rfl) ?_; apply Exists.intro; refine ⟨fun w1 hS1 => ?_, ?_⟩; (focus (have g2 := (hS1.cell (lt_of_cell d2)).trans d2; go_simp; with_reducible rfl))
    rw [show List.erase [0, 2, 4, 5, 6, 7, 8, 9] 4 = [0, 2, 5, 6, 7, 8, 9] from rfl]; simp only [Act.put, List.setIfInBounds_toArray, List.set_cons_zero, List.set_cons_succ]
    refine TxtT.pure 5 (by rfl) (by rw [List.getElem?_toArray]; rfl) (by rfl) (by kernel_rfl) (by rfl) ?_; apply Exists.intro; refine ⟨fun w1 hS1 => ?_, ?_⟩; (focus (have g2 := (hS1.cell (lt_of_cell d2)).trans d2; go_simp; with_reducible rfl))
    rw [show List.erase [0, 2, 5, 6, 7, 8, 9] 5 = [0, 2, 6, 7, 8, 9] from rfl]; simp only [Act.put, List.setIfInBounds_toArray, List.set_cons_zero, List.set_cons_succ]
    refine TxtT.pure 6 (by rfl) (by rw [List.getElem?_toArray]; rfl) (by rfl) (by kernel_rfl) (by rfl) ?_; apply Exists.intro; refine ⟨fun w1 hS1 => ?_, ?_⟩; (focus (have g2 := (hS1.cell (lt_of_cell d2)).trans d2; go_simp; with_reducible rfl))
    rw [show List.erase [0, 2, 6, 7, 8, 9] 6 = [0, 2, 7, 8, 9] from rfl]; simp only [Act.put, List.setIfInBounds_toArray, List.set_cons_zero, List.set_cons_succ]
    refine TxtT.two 0 7 (by kernel_rfl) (by rw [List.getElem?_toArray]; rfl) (by rw [List.getElem?_toArray]; rfl) (by rfl) (by rfl) (by rfl) (by rfl) (fun v => ∃ g, v = Value.slice (some ⟨g, 0, none⟩) 0 0) (fun v w' => OwnI w' W0.heap.size v []) (fun v => ∃ g, v = Value.slice (some ⟨g, 0, none⟩) 1 1) (fun v w' => OwnI w' W0.heap.size v [x[k]]) (fun w1 hS1 hJ1 => ?_) (fun w1 hS1 hJ1 => ?_) ?_ ?_
    · exact Eff.value (w' := w1.alloc (.cells #[] 3)) (v := .slice (some ⟨w1.heap.size, 0, none⟩) 0 0) (by go_simp) ⟨hS1.trans ((newB w1 _).mono hS1.size), ⟨_, rfl⟩, OwnI.mono (own_empty w1) hS1.size⟩
    · exact Eff.value (w' := w1.alloc (.cells #[.int .i64 x[k]] 3)) (v := .slice (some ⟨w1.heap.size, 0, none⟩) 1 1) (by go_simp) ⟨hS1.trans ((newB w1 _).mono hS1.size), ⟨_, rfl⟩, OwnI.mono (own_one w1 x[k]) hS1.size⟩
    · rintro v14 ⟨g14, rfl⟩
      rw [show List.erase [0, 2, 7, 8, 9] 0 = [2, 7, 8, 9] from rfl]; simp only [Act.put, List.setIfInBounds_toArray, List.set_cons_zero, List.set_cons_succ]
      refine TxtT.two 2 7 (by kernel_rfl) (by rw [List.getElem?_toArray]; rfl) (by rw [List.getElem?_toArray]; rfl) (by rfl) (by rfl) (by rfl) (by rfl) (fun v => ∃ A c, v = Value.slice A y.length c) (fun v w' => OwnI w' W0.heap.size v y) (fun v => ∃ g, v = Value.slice (some ⟨g, 0, none⟩) 1 1) (fun v w' => OwnI w' W0.heap.size (.slice (some ⟨g14, 0, none⟩) 0 0) [] ∧ OwnI w' W0.heap.size v [x[k]] ∧ v.ownBlock ≠ (Value.slice (some ⟨g14, 0, none⟩) 0 0).ownBlock) (fun w1 hS1 hJ1 => ?_) (fun w1 hS1 hJ1 => ?_) ?_ ?_
      · refine eff_appIs (.tmp 14) (.tmp 15) (by rfl) w1 W0.heap.size _ [] VA y vc hJ1 (hvr.below hS1) Hvn.out (by rfl) (by rfl) (by simp; omega) hS1.size fun v' w' hown' hb hg => ?_
        rw [List.nil_append] at hown'
        exact ⟨hS1.trans hb, shapeI hown', hown'⟩
      · exact Eff.value (w' := w1.alloc (.cells #[.int .i64 x[k]] 3)) (v := .slice (some ⟨w1.heap.size, 0, none⟩) 1 1) (by go_simp) ⟨hS1.trans ((newB w1 _).mono hS1.size), ⟨_, rfl⟩, OwnI.below hJ1 (newB w1 _), OwnI.mono (own_one w1 x[k]) hS1.size, fun e => by have := OwnI.old (g := g14) hJ1 rfl; simp [Value.ownBlock] at e; omega⟩
      · rintro v16 ⟨A16, c16, rfl⟩
        rw [show List.erase [2, 7, 8, 9] 2 = [7, 8, 9] from rfl]; simp only [Act.put, List.setIfInBounds_toArray, List.set_cons_zero, List.set_cons_succ]
        refine TxtT.one 7 (by kernel_rfl) (by rw [List.getElem?_toArray]; rfl) (by rfl) (by rfl) (fun v => ∃ g, v = Value.slice (some ⟨g, 0, none⟩) 1 1) (fun v w' => OwnI w' W0.heap.size (.slice A16 y.length c16) y ∧ OwnI w' W0.heap.size v [x[k]]) (fun w1 hS1 hJ1 => ?_) ?_
        · exact Eff.value (w' := w1.alloc (.cells #[.int .i64 x[k]] 3)) (v := .slice (some ⟨w1.heap.size, 0, none⟩) 1 1) (by go_simp) ⟨hS1.trans ((newB w1 _).mono hS1.size), ⟨_, rfl⟩, OwnI.below hJ1 (newB w1 _), OwnI.mono (own_one w1 x[k]) hS1.size⟩
        rintro v21 ⟨g21, rfl⟩
        rw [show List.erase [7, 8, 9] 7 = [8, 9] from rfl]; simp only [Act.put, List.setIfInBounds_toArray, List.set_cons_zero, List.set_cons_succ]
        refine TxtT.one 8 (by kernel_rfl) (by rw [List.getElem?_toArray]; rfl) (by rfl) (by rfl) (fun v => ∃ A c, v = Value.slice A yy.length c) (fun v w' => OwnI w' W0.heap.size v yy) (fun w1 hS1 hJ1 => ?_) ?_
        · have h21 : RI w1 (some ⟨g21, 0, none⟩) [x[k]] := OwnI.ri (l := [x[k]]) (c := 1) hJ1.2
          have h16 := hJ1.1
          refine eff_appIs (.tmp 16) (.tmp 21) (by rfl) w1 W0.heap.size (.slice A16 y.length c16) y (some ⟨g21, 0, none⟩) [x[k]] 1 h16 h21 (fun e => by cases e) (by rfl) (by rfl) (by simp; omega) hS1.size fun v' w' hown' hb hg => ?_
          rw [Hyy.out] at hown'
          exact ⟨hS1.trans hb, shapeI hown', hown'⟩
        rintro v22 ⟨A22, c22, rfl⟩
        rw [show List.erase [8, 9] 8 = [9] from rfl]; simp only [Act.put, List.setIfInBounds_toArray, List.set_cons_zero, List.set_cons_succ]
        refine TxtT.pure 9 (by rfl) (by rw [List.getElem?_toArray]; rfl) (by rfl) (by kernel_rfl) (by rfl) ?_; apply Exists.intro; refine ⟨fun w1 hS1 => ?_, ?_⟩; (focus (go_simp; with_reducible rfl))
        rw [show List.erase [9] 9 = [] from rfl]; simp only [Act.put, List.setIfInBounds_toArray, List.set_cons_zero, List.set_cons_succ]
        refine ⟨rfl, fun W2 hS2 hJ2 => ?_⟩
        have hmr := OwnI.ri hJ2
        have HJ2 := Lib.hid hJ2
        have e0 := (hS2.cell (lt_of_cell d0)).trans d0
        have e1 := (hS2.cell (lt_of_cell d1)).trans d1
        have hbl2 := endB hbl hS2
        clear hJ2
        go_wp2_with fail
        refine (r13ConflictFree_any _ n l _ _ yy _ W2 (hr0.below hbl2) hlen Hgl.out hmr (by omega)).mono ?_
        rintro e W3 ⟨rfl, hb3⟩
        cases hcf : cfR n l yy
        · clear hcf
          go_wp2_with fail
          go_roundw
          case rel => exact ⟨k + 1, y, by omega, by go_num, (Hown.out.below hS2).below hb3, by omega, endB hbl2 hb3⟩
          case measure => simp [intOf]; omega
        · clear hcf
          go_wp2_with fail
          go_roundw
          case rel => exact ⟨k + 1, yy, by omega, by go_num, OwnI.mono (HJ2.out.below hb3) (leB hb0 hbl), by omega, endB hbl2 hb3⟩
          case measure => simp [intOf]; omega
      · rintro v21 ⟨g21, rfl⟩
        rw [show List.erase [2, 7, 8, 9] 7 = [2, 8, 9] from rfl]; simp only [Act.put, List.setIfInBounds_toArray, List.set_cons_zero, List.set_cons_succ]
        refine TxtT.one 2 (by kernel_rfl) (by rw [List.getElem?_toArray]; rfl) (by rfl) (by rfl) (fun v => ∃ A c, v = Value.slice A y.length c) (fun v w' => OwnI w' W0.heap.size v y ∧ OwnI w' W0.heap.size (.slice (some ⟨g21, 0, none⟩) 1 1) [x[k]]) (fun w1 hS1 hJ1 => ?_) ?_
        · refine eff_appIs (.tmp 14) (.tmp 15) (by rfl) w1 W0.heap.size _ [] VA y vc hJ1.1 (hvr.below hS1) Hvn.out (by rfl) (by rfl) (by simp; omega) hS1.size fun v' w' hown' hb hg => ?_
          rw [List.nil_append] at hown'
          exact ⟨hS1.trans hb, shapeI hown', hown', World.ownsRow.kept hJ1.2.1 hg (.inr hJ1.2.2)⟩
        rintro v16 ⟨A16, c16, rfl⟩
        rw [show List.erase [2, 8, 9] 2 = [8, 9] from rfl]; simp only [Act.put, List.setIfInBounds_toArray, List.set_cons_zero, List.set_cons_succ]
        refine TxtT.one 8 (by kernel_rfl) (by rw [List.getElem?_toArray]; rfl) (by rfl) (by rfl) (fun v => ∃ A c, v = Value.slice A yy.length c) (fun v w' => OwnI w' W0.heap.size v yy) (fun w1 hS1 hJ1 => ?_) ?_
        · have h21 : RI w1 (some ⟨g21, 0, none⟩) [x[k]] := OwnI.ri (l := [x[k]]) (c := 1) hJ1.2
          have h16 := hJ1.1
          refine eff_appIs (.tmp 16) (.tmp 21) (by rfl) w1 W0.heap.size (.slice A16 y.length c16) y (some ⟨g21, 0, none⟩) [x[k]] 1 h16 h21 (fun e => by cases e) (by rfl) (by rfl) (by simp; omega) hS1.size fun v' w' hown' hb hg => ?_
          rw [Hyy.out] at hown'
          exact ⟨hS1.trans hb, shapeI hown', hown'⟩
        rintro v22 ⟨A22, c22, rfl⟩
        rw [show List.erase [8, 9] 8 = [9] from rfl]; simp only [Act.put, List.setIfInBounds_toArray, List.set_cons_zero, List.set_cons_succ]
        refine TxtT.pure 9 (by rfl) (by rw [List.getElem?_toArray]; rfl) (by rfl) (by kernel_rfl) (by rfl) ?_; apply Exists.intro; refine ⟨fun w1 hS1 => ?_, ?_⟩; (focus (go_simp; with_reducible rfl))
        rw [show List.erase [9] 9 = [] from rfl]; simp only [Act.put, List.setIfInBounds_toArray, List.set_cons_zero, List.set_cons_succ]
        refine ⟨rfl, fun W2 hS2 hJ2 => ?_⟩
        have hmr := OwnI.ri hJ2
        have HJ2 := Lib.hid hJ2
        have e0 := (hS2.cell (lt_of_cell d0)).trans d0
        have e1 := (hS2.cell (lt_of_cell d1)).trans d1
        have hbl2 := endB hbl hS2
        clear hJ2
        go_wp2_with fail
        refine (r13ConflictFree_any _ n l _ _ yy _ W2 (hr0.below hbl2) hlen Hgl.out hmr (by omega)).mono ?_
        rintro e W3 ⟨rfl, hb3⟩
        cases hcf : cfR n l yy
        · clear hcf
          go_wp2_with fail
          go_roundw
          case rel => exact ⟨k + 1, y, by omega, by go_num, (Hown.out.below hS2).below hb3, by omega, endB hbl2 hb3⟩
          case measure => simp [intOf]; omega
        · clear hcf
          go_wp2_with fail
          go_roundw
          case rel => exact ⟨k + 1, yy, by omega, by go_num, OwnI.mono (HJ2.out.below hb3) (leB hb0 hbl), by omega, endB hbl2 hb3⟩
          case measure => simp [intOf]; omega
    · rintro v21 ⟨g21, rfl⟩
      rw [show List.erase [0, 2, 7, 8, 9] 7 = [0, 2, 8, 9] from rfl]; simp only [Act.put, List.setIfInBounds_toArray, List.set_cons_zero, List.set_cons_succ]
      refine TxtT.one 0 (by kernel_rfl) (by rw [List.getElem?_toArray]; rfl) (by rfl) (by rfl) (fun v => ∃ g, v = Value.slice (some ⟨g, 0, none⟩) 0 0) (fun v w' => OwnI w' W0.heap.size v [] ∧ OwnI w' W0.heap.size (.slice (some ⟨g21, 0, none⟩) 1 1) [x[k]] ∧ (Value.slice (some ⟨g21, 0, none⟩) 1 1).ownBlock ≠ v.ownBlock) (fun w1 hS1 hJ1 => ?_) ?_
      · exact Eff.value (w' := w1.alloc (.cells #[] 3)) (v := .slice (some ⟨w1.heap.size, 0, none⟩) 0 0) (by go_simp) ⟨hS1.trans ((newB w1 _).mono hS1.size), ⟨_, rfl⟩, OwnI.mono (own_empty w1) hS1.size, OwnI.below hJ1 (newB w1 _), fun e => by have := OwnI.old (g := g21) hJ1 rfl; simp [Value.ownBlock] at e; omega⟩
      rintro v14 ⟨g14, rfl⟩
      rw [show List.erase [0, 2, 8, 9] 0 = [2, 8, 9] from rfl]; simp only [Act.put, List.setIfInBounds_toArray, List.set_cons_zero, List.set_cons_succ]
      refine TxtT.one 2 (by kernel_rfl) (by rw [List.getElem?_toArray]; rfl) (by rfl) (by rfl) (fun v => ∃ A c, v = Value.slice A y.length c) (fun v w' => OwnI w' W0.heap.size v y ∧ OwnI w' W0.heap.size (.slice (some ⟨g21, 0, none⟩) 1 1) [x[k]]) (fun w1 hS1 hJ1 => ?_) ?_
      · refine eff_appIs (.tmp 14) (.tmp 15) (by rfl) w1 W0.heap.size _ [] VA y vc hJ1.1 (hvr.below hS1) Hvn.out (by rfl) (by rfl) (by simp; omega) hS1.size fun v' w' hown' hb hg => ?_
        rw [List.nil_append] at hown'
        exact ⟨hS1.trans hb, shapeI hown', hown', World.ownsRow.kept hJ1.2.1 hg (.inr hJ1.2.2)⟩
      rintro v16 ⟨A16, c16, rfl⟩
      rw [show List.erase [2, 8, 9] 2 = [8, 9] from rfl]; simp only [Act.put, List.setIfInBounds_toArray, List.set_cons_zero, List.set_cons_succ]
      refine TxtT.one 8 (by kernel_rfl) (by rw [List.getElem?_toArray]; rfl) (by rfl) (by rfl) (fun v => ∃ A c, v = Value.slice A yy.length c) (fun v w' => OwnI w' W0.heap.size v yy) (fun w1 hS1 hJ1 => ?_) ?_
      · have h21 : RI w1 (some ⟨g21, 0, none⟩) [x[k]] := OwnI.ri (l := [x[k]]) (c := 1) hJ1.2
        have h16 := hJ1.1
        refine eff_appIs (.tmp 16) (.tmp 21) (by rfl) w1 W0.heap.size (.slice A16 y.length c16) y (some ⟨g21, 0, none⟩) [x[k]] 1 h16 h21 (fun e => by cases e) (by rfl) (by rfl) (by simp; omega) hS1.size fun v' w' hown' hb hg => ?_
        rw [Hyy.out] at hown'
        exact ⟨hS1.trans hb, shapeI hown', hown'⟩
      rintro v22 ⟨A22, c22, rfl⟩
      rw [show List.erase [8, 9] 8 = [9] from rfl]; simp only [Act.put, List.setIfInBounds_toArray, List.set_cons_zero, List.set_cons_succ]
      refine TxtT.pure 9 (by rfl) (by rw [List.getElem?_toArray]; rfl) (by rfl) (by kernel_rfl) (by rfl) ?_; apply Exists.intro; refine ⟨fun w1 hS1 => ?_, ?_⟩; (focus (go_simp; with_reducible rfl))
      rw [show List.erase [9] 9 = [] from rfl]; simp only [Act.put, List.setIfInBounds_toArray, List.set_cons_zero, List.set_cons_succ]
      refine ⟨rfl, fun W2 hS2 hJ2 => ?_⟩
      have hmr := OwnI.ri hJ2
      have HJ2 := Lib.hid hJ2
      have e0 := (hS2.cell (lt_of_cell d0)).trans d0
      have e1 := (hS2.cell (lt_of_cell d1)).trans d1
      have hbl2 := endB hbl hS2
      clear hJ2
      go_wp2_with fail
      refine (r13ConflictFree_any _ n l _ _ yy _ W2 (hr0.below hbl2) hlen Hgl.out hmr (by omega)).mono ?_
      rintro e W3 ⟨rfl, hb3⟩
      cases hcf : cfR n l yy
      · clear hcf
        go_wp2_with fail
        go_roundw
        case rel => exact ⟨k + 1, y, by omega, by go_num, (Hown.out.below hS2).below hb3, by omega, endB hbl2 hb3⟩
        case measure => simp [intOf]; omega
      · clear hcf
        go_wp2_with fail
        go_roundw
        case rel => exact ⟨k + 1, yy, by omega, by go_num, OwnI.mono (HJ2.out.below hb3) (leB hb0 hbl), by omega, endB hbl2 hb3⟩
        case measure => simp [intOf]; omega
end Go.Proofs.YtplbnhfkndegaaaDoor
