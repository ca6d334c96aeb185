/- admissible: holds at each property; ConflictFree, Admissible, IsComplete, IsStable, Defends, Step, Range. -/
import Derived.Test.YtkfocifejoogaaaDoorAdm4
namespace Go.Proofs.YtkfocifejoogaaaDoor
open Go.ChangeShapes Go.WideShapes Go.ChangeAt Go.RowKit

theorem setB_range {N : Int} {l : List Int} (h : setB N l = true) : ∀ x ∈ l, 0 ≤ x ∧ x < N := by
  intro x hx
  obtain ⟨k, hk, rfl⟩ := List.getElem_of_mem hx
  have := ((setB_iff _ _).1 h k hk).1
  simpa [List.getD, hk] using this
theorem setB_mask {n : Nat} (hn : n ≤ 40) {l : List Int} (h : setB n l = true) : (∀ x ∈ l, 0 ≤ x ∧ x < 64) ∧ maskN l < 2 ^ n := by
  refine ⟨fun x hx => ?_, maskN_lt l n fun x hx => ?_⟩ <;> have := setB_range h x hx <;> omega

set_option maxHeartbeats 1000000 in
theorem holds_Admissible (A : Option Addr) (n : Nat) (l : List (Int × Int)) (c : Nat) (B : Option Addr) (x : List Int) (cx : Nat) (w : World) (hr : RP w A l) (hv : InR n l) (hx : RI w B x) (hxl : x.length ≤ 100000) :
    Calls Tryd.prog 43 #[.agg #[.int .i64 (n : Int), .slice A l.length c], .slice B x.length cx, .func (.func 40) #[] #[]] w (RetB (.bool (setB n x && soundB n l (maskN x))) w) := by
  have hn := hv.1
  cases hs : setB n x
  · have Hs := Lib.hid hs; clear hs
    go_enter Tryd.func43, Tryd.ntmps43
    go_wp2_with fail
    obtain ⟨W0, hW, c0, c1, hb0, hlt0⟩ := boxed w 27 (.int .i64 (n : Int)) (.slice A l.length c)
    rw [hW]
    have hr0 := hr.below hb0
    have hx0 := hx.below hb0
    clear hW hr hx
    refine wp_region_text (S := fun w' => Below W0.heap.size W0 w') (by kernel_rfl) (by kernel_rfl) (Below.refl _ _).drew ?_
    repeat (first
      | (refine TxtL.skip (by rfl) ?_; simp only [Act.put, List.setIfInBounds_toArray, List.set_cons_zero, List.set_cons_succ])
      | (refine TxtL.take' (by rfl) ?_; apply Exists.intro; refine ⟨fun w1 hS1 => ?_, ?_⟩; (focus ((have d0 := (hS1.cell (lt_of_cell c0)).trans c0); (have d1 := (hS1.cell (lt_of_cell c1)).trans c1); go_simp; with_reducible rfl)); simp only [Act.put, List.setIfInBounds_toArray, List.set_cons_zero, List.set_cons_succ])
      | (refine TxtL.call' (by rfl) ?_; apply Exists.intro; apply Exists.intro; refine ⟨fun w1 hS1 => ?_, ?_⟩; (focus (go_simp; first | with_reducible rfl | exact ⟨rfl, rfl⟩)); apply Exists.intro; refine ⟨fun w1 hS1 => ?_, ?_⟩; (focus ((have d0 := (hS1.cell (lt_of_cell c0)).trans c0); (have d1 := (hS1.cell (lt_of_cell c1)).trans c1); first | (go_at_call 25; refine (aValid_any _ _ _ _ _ _ (hx0.below hS1) hxl).mono ?_; rintro e w' ⟨rfl, hbb⟩; exact ⟨by rw [Hs.out], hS1.trans (hbb.mono hS1.size)⟩))); simp only [Act.put, List.setIfInBounds_toArray, List.set_cons_zero, List.set_cons_succ]))
    refine TxtL.nil (fun w1 hS1 => ?_)
    go_wp2
    go_ret
    exact ⟨rb (by simp), endB hb0 hS1⟩
  · have hm := setB_mask hn hs
    have hmu := u64_of hn hm.2
    have hm1 := hm.1
    have Hs := Lib.hid hs; have Hm := Lib.hid hm1; clear hs hm hm1
    go_enter Tryd.func43, Tryd.ntmps43
    go_wp2_with fail
    obtain ⟨W0, hW, c0, c1, hb0, hlt0⟩ := boxed w 27 (.int .i64 (n : Int)) (.slice A l.length c)
    rw [hW]
    have hr0 := hr.below hb0
    have hx0 := hx.below hb0
    clear hW hr hx
    refine wp_region_text (S := fun w' => Below W0.heap.size W0 w') (by kernel_rfl) (by kernel_rfl) (Below.refl _ _).drew ?_
    repeat (first
      | (refine TxtL.skip (by rfl) ?_; simp only [Act.put, List.setIfInBounds_toArray, List.set_cons_zero, List.set_cons_succ])
      | (refine TxtL.take' (by rfl) ?_; apply Exists.intro; refine ⟨fun w1 hS1 => ?_, ?_⟩; (focus ((have d0 := (hS1.cell (lt_of_cell c0)).trans c0); (have d1 := (hS1.cell (lt_of_cell c1)).trans c1); go_simp; with_reducible rfl)); simp only [Act.put, List.setIfInBounds_toArray, List.set_cons_zero, List.set_cons_succ])
      | (refine TxtL.call' (by rfl) ?_; apply Exists.intro; apply Exists.intro; refine ⟨fun w1 hS1 => ?_, ?_⟩; (focus (go_simp; first | with_reducible rfl | exact ⟨rfl, rfl⟩)); apply Exists.intro; refine ⟨fun w1 hS1 => ?_, ?_⟩; (focus ((have d0 := (hS1.cell (lt_of_cell c0)).trans c0); (have d1 := (hS1.cell (lt_of_cell c1)).trans c1); first | (go_at_call 25; refine (aValid_any _ _ _ _ _ _ (hx0.below hS1) hxl).mono ?_; rintro e w' ⟨rfl, hbb⟩; exact ⟨by rw [Hs.out], hS1.trans (hbb.mono hS1.size)⟩) | (go_at_call 28; refine (mask_any _ _ _ _ (hx0.below hS1) hxl Hm.out).mono ?_; rintro e w' ⟨rfl, rfl⟩; exact ⟨rfl, hS1⟩) | (go_at_call 40; refine (sound_any _ _ _ _ _ _ (hr0.below hS1) hv hmu).mono ?_; rintro e w' ⟨rfl, hbb⟩; exact ⟨rfl, hS1.trans (hbb.mono hS1.size)⟩))); simp only [Act.put, List.setIfInBounds_toArray, List.set_cons_zero, List.set_cons_succ]))
    refine TxtL.nil (fun w1 hS1 => ?_)
    go_wp2
    go_ret
    exact ⟨rb (by simp), endB hb0 hS1⟩

set_option maxHeartbeats 1000000 in
theorem aAdmissible_any (A : Option Addr) (n : Nat) (l : List (Int × Int)) (c : Nat) (B : Option Addr) (x : List Int) (cx : Nat) (w : World) (hr : RP w A l) (hv : InR n l) (hx : RI w B x) (hxl : x.length ≤ 100000) :
    Calls Tryd.prog 33 #[.agg #[.int .i64 (n : Int), .slice A l.length c], .slice B x.length cx] w (RetB (.bool (setB n x && soundB n l (maskN x))) w) := by
  go_enter Tryd.func33, Tryd.ntmps33
  go_wp2_with fail
  refine (holds_Admissible _ _ _ _ _ _ _ _ (hr.below ((Below.refl _ _).alloc (Nat.le_refl _) _)) hv (hx.below ((Below.refl _ _).alloc (Nat.le_refl _) _)) hxl).mono ?_
  rintro e w1 ⟨rfl, hb⟩
  go_wp2_with fail
  go_ret
  exact ⟨rb rfl, ((Below.refl _ _).alloc (Nat.le_refl _) _).trans (hb.mono (by simp))⟩
set_option maxHeartbeats 1000000 in
theorem holds_IsComplete (A : Option Addr) (n : Nat) (l : List (Int × Int)) (c : Nat) (B : Option Addr) (x : List Int) (cx : Nat) (w : World) (hr : RP w A l) (hv : InR n l) (hx : RI w B x) (hxl : x.length ≤ 100000) :
    Calls Tryd.prog 43 #[.agg #[.int .i64 (n : Int), .slice A l.length c], .slice B x.length cx, .func (.func 46) #[] #[]] w (RetB (.bool (setB n x && complB n l (maskN x))) w) := by
  have hn := hv.1
  cases hs : setB n x
  · have Hs := Lib.hid hs; clear hs
    go_enter Tryd.func43, Tryd.ntmps43
    go_wp2_with fail
    obtain ⟨W0, hW, c0, c1, hb0, hlt0⟩ := boxed w 27 (.int .i64 (n : Int)) (.slice A l.length c)
    rw [hW]
    have hr0 := hr.below hb0
    have hx0 := hx.below hb0
    clear hW hr hx
    refine wp_region_text (S := fun w' => Below W0.heap.size W0 w') (by kernel_rfl) (by kernel_rfl) (Below.refl _ _).drew ?_
    repeat (first
      | (refine TxtL.skip (by rfl) ?_; simp only [Act.put, List.setIfInBounds_toArray, List.set_cons_zero, List.set_cons_succ])
      | (refine TxtL.take' (by rfl) ?_; apply Exists.intro; refine ⟨fun w1 hS1 => ?_, ?_⟩; (focus ((have d0 := (hS1.cell (lt_of_cell c0)).trans c0); (have d1 := (hS1.cell (lt_of_cell c1)).trans c1); go_simp; with_reducible rfl)); simp only [Act.put, List.setIfInBounds_toArray, List.set_cons_zero, List.set_cons_succ])
      | (refine TxtL.call' (by rfl) ?_; apply Exists.intro; apply Exists.intro; refine ⟨fun w1 hS1 => ?_, ?_⟩; (focus (go_simp; first | with_reducible rfl | exact ⟨rfl, rfl⟩)); apply Exists.intro; refine ⟨fun w1 hS1 => ?_, ?_⟩; (focus ((have d0 := (hS1.cell (lt_of_cell c0)).trans c0); (have d1 := (hS1.cell (lt_of_cell c1)).trans c1); first | (go_at_call 25; refine (aValid_any _ _ _ _ _ _ (hx0.below hS1) hxl).mono ?_; rintro e w' ⟨rfl, hbb⟩; exact ⟨by rw [Hs.out], hS1.trans (hbb.mono hS1.size)⟩))); simp only [Act.put, List.setIfInBounds_toArray, List.set_cons_zero, List.set_cons_succ]))
    refine TxtL.nil (fun w1 hS1 => ?_)
    go_wp2
    go_ret
    exact ⟨rb (by simp), endB hb0 hS1⟩
  · have hm := setB_mask hn hs
    have hmu := u64_of hn hm.2
    have hm1 := hm.1
    have Hs := Lib.hid hs; have Hm := Lib.hid hm1; clear hs hm hm1
    go_enter Tryd.func43, Tryd.ntmps43
    go_wp2_with fail
    obtain ⟨W0, hW, c0, c1, hb0, hlt0⟩ := boxed w 27 (.int .i64 (n : Int)) (.slice A l.length c)
    rw [hW]
    have hr0 := hr.below hb0
    have hx0 := hx.below hb0
    clear hW hr hx
    refine wp_region_text (S := fun w' => Below W0.heap.size W0 w') (by kernel_rfl) (by kernel_rfl) (Below.refl _ _).drew ?_
    repeat (first
      | (refine TxtL.skip (by rfl) ?_; simp only [Act.put, List.setIfInBounds_toArray, List.set_cons_zero, List.set_cons_succ])
      | (refine TxtL.take' (by rfl) ?_; apply Exists.intro; refine ⟨fun w1 hS1 => ?_, ?_⟩; (focus ((have d0 := (hS1.cell (lt_of_cell c0)).trans c0); (have d1 := (hS1.cell (lt_of_cell c1)).trans c1); go_simp; with_reducible rfl)); simp only [Act.put, List.setIfInBounds_toArray, List.set_cons_zero, List.set_cons_succ])
      | (refine TxtL.call' (by rfl) ?_; apply Exists.intro; apply Exists.intro; refine ⟨fun w1 hS1 => ?_, ?_⟩; (focus (go_simp; first | with_reducible rfl | exact ⟨rfl, rfl⟩)); apply Exists.intro; refine ⟨fun w1 hS1 => ?_, ?_⟩; (focus ((have d0 := (hS1.cell (lt_of_cell c0)).trans c0); (have d1 := (hS1.cell (lt_of_cell c1)).trans c1); first | (go_at_call 25; refine (aValid_any _ _ _ _ _ _ (hx0.below hS1) hxl).mono ?_; rintro e w' ⟨rfl, hbb⟩; exact ⟨by rw [Hs.out], hS1.trans (hbb.mono hS1.size)⟩) | (go_at_call 28; refine (mask_any _ _ _ _ (hx0.below hS1) hxl Hm.out).mono ?_; rintro e w' ⟨rfl, rfl⟩; exact ⟨rfl, hS1⟩) | (go_at_call 46; refine (compl1_any _ _ _ _ _ _ (hr0.below hS1) hv hmu).mono ?_; rintro e w' ⟨rfl, hbb⟩; exact ⟨rfl, hS1.trans (hbb.mono hS1.size)⟩))); simp only [Act.put, List.setIfInBounds_toArray, List.set_cons_zero, List.set_cons_succ]))
    refine TxtL.nil (fun w1 hS1 => ?_)
    go_wp2
    go_ret
    exact ⟨rb (by simp), endB hb0 hS1⟩

set_option maxHeartbeats 1000000 in
theorem aIsComplete_any (A : Option Addr) (n : Nat) (l : List (Int × Int)) (c : Nat) (B : Option Addr) (x : List Int) (cx : Nat) (w : World) (hr : RP w A l) (hv : InR n l) (hx : RI w B x) (hxl : x.length ≤ 100000) :
    Calls Tryd.prog 32 #[.agg #[.int .i64 (n : Int), .slice A l.length c], .slice B x.length cx] w (RetB (.bool (setB n x && complB n l (maskN x))) w) := by
  go_enter Tryd.func32, Tryd.ntmps32
  go_wp2_with fail
  refine (holds_IsComplete _ _ _ _ _ _ _ _ (hr.below ((Below.refl _ _).alloc (Nat.le_refl _) _)) hv (hx.below ((Below.refl _ _).alloc (Nat.le_refl _) _)) hxl).mono ?_
  rintro e w1 ⟨rfl, hb⟩
  go_wp2_with fail
  go_ret
  exact ⟨rb rfl, ((Below.refl _ _).alloc (Nat.le_refl _) _).trans (hb.mono (by simp))⟩
set_option maxHeartbeats 1000000 in
theorem holds_IsStable (A : Option Addr) (n : Nat) (l : List (Int × Int)) (c : Nat) (B : Option Addr) (x : List Int) (cx : Nat) (w : World) (hr : RP w A l) (hv : InR n l) (hx : RI w B x) (hxl : x.length ≤ 100000) :
    Calls Tryd.prog 43 #[.agg #[.int .i64 (n : Int), .slice A l.length c], .slice B x.length cx, .func (.func 44) #[] #[]] w (RetB (.bool (setB n x && stabB n l (maskN x))) w) := by
  have hn := hv.1
  cases hs : setB n x
  · have Hs := Lib.hid hs; clear hs
    go_enter Tryd.func43, Tryd.ntmps43
    go_wp2_with fail
    obtain ⟨W0, hW, c0, c1, hb0, hlt0⟩ := boxed w 27 (.int .i64 (n : Int)) (.slice A l.length c)
    rw [hW]
    have hr0 := hr.below hb0
    have hx0 := hx.below hb0
    clear hW hr hx
    refine wp_region_text (S := fun w' => Below W0.heap.size W0 w') (by kernel_rfl) (by kernel_rfl) (Below.refl _ _).drew ?_
    repeat (first
      | (refine TxtL.skip (by rfl) ?_; simp only [Act.put, List.setIfInBounds_toArray, List.set_cons_zero, List.set_cons_succ])
      | (refine TxtL.take' (by rfl) ?_; apply Exists.intro; refine ⟨fun w1 hS1 => ?_, ?_⟩; (focus ((have d0 := (hS1.cell (lt_of_cell c0)).trans c0); (have d1 := (hS1.cell (lt_of_cell c1)).trans c1); go_simp; with_reducible rfl)); simp only [Act.put, List.setIfInBounds_toArray, List.set_cons_zero, List.set_cons_succ])
      | (refine TxtL.call' (by rfl) ?_; apply Exists.intro; apply Exists.intro; refine ⟨fun w1 hS1 => ?_, ?_⟩; (focus (go_simp; first | with_reducible rfl | exact ⟨rfl, rfl⟩)); apply Exists.intro; refine ⟨fun w1 hS1 => ?_, ?_⟩; (focus ((have d0 := (hS1.cell (lt_of_cell c0)).trans c0); (have d1 := (hS1.cell (lt_of_cell c1)).trans c1); first | (go_at_call 25; refine (aValid_any _ _ _ _ _ _ (hx0.below hS1) hxl).mono ?_; rintro e w' ⟨rfl, hbb⟩; exact ⟨by rw [Hs.out], hS1.trans (hbb.mono hS1.size)⟩))); simp only [Act.put, List.setIfInBounds_toArray, List.set_cons_zero, List.set_cons_succ]))
    refine TxtL.nil (fun w1 hS1 => ?_)
    go_wp2
    go_ret
    exact ⟨rb (by simp), endB hb0 hS1⟩
  · have hm := setB_mask hn hs
    have hmu := u64_of hn hm.2
    have hm1 := hm.1
    have Hs := Lib.hid hs; have Hm := Lib.hid hm1; clear hs hm hm1
    go_enter Tryd.func43, Tryd.ntmps43
    go_wp2_with fail
    obtain ⟨W0, hW, c0, c1, hb0, hlt0⟩ := boxed w 27 (.int .i64 (n : Int)) (.slice A l.length c)
    rw [hW]
    have hr0 := hr.below hb0
    have hx0 := hx.below hb0
    clear hW hr hx
    refine wp_region_text (S := fun w' => Below W0.heap.size W0 w') (by kernel_rfl) (by kernel_rfl) (Below.refl _ _).drew ?_
    repeat (first
      | (refine TxtL.skip (by rfl) ?_; simp only [Act.put, List.setIfInBounds_toArray, List.set_cons_zero, List.set_cons_succ])
      | (refine TxtL.take' (by rfl) ?_; apply Exists.intro; refine ⟨fun w1 hS1 => ?_, ?_⟩; (focus ((have d0 := (hS1.cell (lt_of_cell c0)).trans c0); (have d1 := (hS1.cell (lt_of_cell c1)).trans c1); go_simp; with_reducible rfl)); simp only [Act.put, List.setIfInBounds_toArray, List.set_cons_zero, List.set_cons_succ])
      | (refine TxtL.call' (by rfl) ?_; apply Exists.intro; apply Exists.intro; refine ⟨fun w1 hS1 => ?_, ?_⟩; (focus (go_simp; first | with_reducible rfl | exact ⟨rfl, rfl⟩)); apply Exists.intro; refine ⟨fun w1 hS1 => ?_, ?_⟩; (focus ((have d0 := (hS1.cell (lt_of_cell c0)).trans c0); (have d1 := (hS1.cell (lt_of_cell c1)).trans c1); first | (go_at_call 25; refine (aValid_any _ _ _ _ _ _ (hx0.below hS1) hxl).mono ?_; rintro e w' ⟨rfl, hbb⟩; exact ⟨by rw [Hs.out], hS1.trans (hbb.mono hS1.size)⟩) | (go_at_call 28; refine (mask_any _ _ _ _ (hx0.below hS1) hxl Hm.out).mono ?_; rintro e w' ⟨rfl, rfl⟩; exact ⟨rfl, hS1⟩) | (go_at_call 44; refine (stab1_any _ _ _ _ _ _ (hr0.below hS1) hv hmu).mono ?_; rintro e w' ⟨rfl, hbb⟩; exact ⟨rfl, hS1.trans (hbb.mono hS1.size)⟩))); simp only [Act.put, List.setIfInBounds_toArray, List.set_cons_zero, List.set_cons_succ]))
    refine TxtL.nil (fun w1 hS1 => ?_)
    go_wp2
    go_ret
    exact ⟨rb (by simp), endB hb0 hS1⟩

set_option maxHeartbeats 1000000 in
theorem aIsStable_any (A : Option Addr) (n : Nat) (l : List (Int × Int)) (c : Nat) (B : Option Addr) (x : List Int) (cx : Nat) (w : World) (hr : RP w A l) (hv : InR n l) (hx : RI w B x) (hxl : x.length ≤ 100000) :
    Calls Tryd.prog 31 #[.agg #[.int .i64 (n : Int), .slice A l.length c], .slice B x.length cx] w (RetB (.bool (setB n x && stabB n l (maskN x))) w) := by
  go_enter Tryd.func31, Tryd.ntmps31
  go_wp2_with fail
  refine (holds_IsStable _ _ _ _ _ _ _ _ (hr.below ((Below.refl _ _).alloc (Nat.le_refl _) _)) hv (hx.below ((Below.refl _ _).alloc (Nat.le_refl _) _)) hxl).mono ?_
  rintro e w1 ⟨rfl, hb⟩
  go_wp2_with fail
  go_ret
  exact ⟨rb rfl, ((Below.refl _ _).alloc (Nat.le_refl _) _).trans (hb.mono (by simp))⟩
end Go.Proofs.YtkfocifejoogaaaDoor
