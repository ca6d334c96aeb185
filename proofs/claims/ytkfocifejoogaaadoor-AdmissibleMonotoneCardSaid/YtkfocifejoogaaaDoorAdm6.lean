/- admissible: Defends, Step, Range. -/
import Derived.Test.YtkfocifejoogaaaDoorAdm5
namespace Go.Proofs.YtkfocifejoogaaaDoor
open Go.ChangeShapes Go.WideShapes Go.ChangeAt Go.RowKit

theorem nodesB_64 {n m : Nat} (h : m < 2 ^ n) (hn : n ≤ 64) : nodesB 64 m.testBit = nodesB n m.testBit :=
  nodesB_more hn fun i hi => Nat.testBit_lt_two_pow (Nat.lt_of_lt_of_le h (Nat.pow_le_pow_right (by omega) hi))

/-- what Step returns -/
def stepL (n : Nat) (l : List (Int × Int)) (x : List Int) : List Int := if setB n x then nodesB n (stepN n l (maskN x)).testBit else []
theorem RetI.nil {w w' : World} (h : Below w.heap.size w w') : RetI [] w (.returned (.slice none 0 0)) w' := ⟨none, 0, rfl, OwnI.nil _ _, RI.nil _ _, fun _ => rfl, h⟩

set_option maxHeartbeats 1000000 in
theorem aStep_any (A : Option Addr) (n : Nat) (l : List (Int × Int)) (c : Nat) (B : Option Addr) (x : List Int) (cx : Nat) (w : World) (hr : RP w A l) (hv : InR n l) (hx : RI w B x) (hxl : x.length ≤ 100000) (hT : Tab w) :
    Calls Tryd.prog 17 #[.agg #[.int .i64 (n : Int), .slice A l.length c], .slice B x.length cx] w (RetI (stepL n l x) w) := by
  have hn := hv.1
  go_enter Tryd.func17, Tryd.ntmps17
  go_wp2_with fail
  obtain ⟨W0, hW, c0, c1, hb0, hlt0⟩ := boxed w 27 (.int .i64 (n : Int)) (.slice A l.length c)
  rw [hW]
  have hr0 := hr.below hb0
  have hx0 := hx.below hb0
  have hT0 : Tab W0 := hT.below hb0
  clear hW hr hx hT
  go_wp2_with fail
  refine (aValid_any _ _ _ _ _ _ hx0 hxl).mono ?_
  rintro e w1 ⟨rfl, hb1⟩
  obtain ⟨d0, d1, hbb⟩ := keepC c0 c1 (Below.refl _ _) hb1
  cases hs : setB n x
  · go_wp2_with fail
    go_ret
    simp only [stepL, hs]
    exact RetI.nil (endB hb0 hbb)
  · have hm := setB_mask hn hs
    have hmu := u64_of hn hm.2
    have hm1 := hm.1
    have e2 : stepL n l x = nodesB 64 (stepN n l (maskN x)).testBit := by rw [stepL, if_pos hs, nodesB_64 (stepN_u64 hn _ _) (by omega)]
    have hmn := hm.2
    have Hm := Lib.hid hm1; have E2 := Lib.hid e2; have hsu := u64_of hn (stepN_u64 hn l (maskN x)); clear hs hm hm1 e2
    go_wp2_with fail
    go_region_held3 (fun w' => w'.cell? ⟨w.heap.size, 0, none⟩ = some (.int .i64 (n : Int)) ∧ w'.cell? ⟨w.heap.size, 1, none⟩ = some (.slice A l.length c) ∧ Below W0.heap.size W0 w')
      (first | exact ⟨d0, d1, hbb.drew⟩ | (go_split_ands; exact keepC (by assumption) (by assumption) (by assumption) (by assumption)) | (go_split_ands; exact ⟨by assumption, by assumption, by assumption⟩))
      (first | (go_at_call 28; go_split_ands; refine (mask_any _ _ _ _ (hx0.below (by assumption)) hxl Hm.out).mono ?_; rintro e w' ⟨rfl, rfl⟩) | (go_at_call 27; go_split_ands; refine (step_any _ _ _ _ _ _ (hr0.below (by assumption)) hv hmu).mono ?_; rintro e w' ⟨rfl, hbb⟩) | (go_at_call 26; go_split_ands; refine (list_any _ hsu _ (hT0.below (by assumption))).mono ?_; rintro e w' hh; obtain ⟨A', c', rfl, ho, hri, hni, hbb⟩ := RetI.base hh (leB hb0 (by assumption))))
    go_wp2
    go_ret
    go_split_ands
    rw [E2.out]
    exact ⟨A', c', rfl, ho, hri, hni, endB hb0 (by assumption)⟩

/-- what Range returns -/
def rangeL (n : Nat) (l : List (Int × Int)) (x : List Int) : List Int := if setB n x then nodesB n (maskN x ||| attN l (maskN x)).testBit else []

/-- what Defends returns -/
def defB (n : Nat) (l : List (Int × Int)) (x : List Int) (i : Int) : Bool := decide (0 ≤ i) && decide (i < n) && setB n x && (stepN n l (maskN x)).testBit i.toNat

set_option maxHeartbeats 1000000 in
theorem aDefends_any (A : Option Addr) (n : Nat) (l : List (Int × Int)) (c : Nat) (B : Option Addr) (x : List Int) (cx : Nat) (i : Int) (w : World) (hr : RP w A l) (hv : InR n l) (hx : RI w B x) (hxl : x.length ≤ 100000) :
    Calls Tryd.prog 30 #[.agg #[.int .i64 (n : Int), .slice A l.length c], .slice B x.length cx, .int .i64 i] w (RetB (.bool (defB n l x i)) w) := by
  have hn := hv.1
  by_cases hi : 0 ≤ i
  case neg =>
    have hd : decide (0 ≤ i) = false := by simpa using hi
    have Hi := Lib.hid hi; clear hi
    go_enter Tryd.func30, Tryd.ntmps30
    go_wp2_with fail
    obtain ⟨W0, hW, c0, c1, hb0, hlt0⟩ := boxed w 27 (.int .i64 (n : Int)) (.slice A l.length c)
    rw [hW]
    clear hW hr hx
    refine wp_region_text (S := fun w' => Below W0.heap.size W0 w') (by kernel_rfl) (by kernel_rfl) (Below.refl _ _).drew ?_
    repeat (first
      | (refine TxtL.skip (by rfl) ?_; simp only [Act.put, List.setIfInBounds_toArray, List.set_cons_zero, List.set_cons_succ])
      | (refine TxtL.take' (by rfl) ?_; apply Exists.intro; refine ⟨fun w1 hS1 => ?_, ?_⟩; (focus ((have d0 := (hS1.cell (lt_of_cell c0)).trans c0); (have d1 := (hS1.cell (lt_of_cell c1)).trans c1); go_simp; with_reducible rfl)); simp only [Act.put, List.setIfInBounds_toArray, List.set_cons_zero, List.set_cons_succ]))
    refine TxtL.nil (fun w1 hS1 => ?_)
    go_wp2
    go_ret
    exact ⟨rb (by have := Hi.out; rw [defB]; simp; omega), endB hb0 hS1⟩
  case pos =>
  by_cases hi2 : i < n
  case neg =>
    have hd2 : decide (i < (n : Int)) = false := by simpa using hi2
    have Hi := Lib.hid hi2; clear hi2
    go_enter Tryd.func30, Tryd.ntmps30
    go_wp2_with fail
    obtain ⟨W0, hW, c0, c1, hb0, hlt0⟩ := boxed w 27 (.int .i64 (n : Int)) (.slice A l.length c)
    rw [hW]
    clear hW hr hx
    refine wp_region_text (S := fun w' => Below W0.heap.size W0 w') (by kernel_rfl) (by kernel_rfl) (Below.refl _ _).drew ?_
    repeat (first
      | (refine TxtL.skip (by rfl) ?_; simp only [Act.put, List.setIfInBounds_toArray, List.set_cons_zero, List.set_cons_succ])
      | (refine TxtL.take' (by rfl) ?_; apply Exists.intro; refine ⟨fun w1 hS1 => ?_, ?_⟩; (focus ((have d0 := (hS1.cell (lt_of_cell c0)).trans c0); (have d1 := (hS1.cell (lt_of_cell c1)).trans c1); go_simp; with_reducible rfl)); simp only [Act.put, List.setIfInBounds_toArray, List.set_cons_zero, List.set_cons_succ]))
    refine TxtL.nil (fun w1 hS1 => ?_)
    go_wp2
    go_ret
    exact ⟨rb (by have := Hi.out; rw [defB]; simp; omega), endB hb0 hS1⟩
  case pos =>
  cases hs : setB n x
  · have Hs := Lib.hid hs; clear hs
    go_enter Tryd.func30, Tryd.ntmps30
    go_wp2_with fail
    obtain ⟨W0, hW, c0, c1, hb0, hlt0⟩ := boxed w 27 (.int .i64 (n : Int)) (.slice A l.length c)
    rw [hW]
    have hx0 := hx.below hb0
    clear hW hr hx
    refine wp_region_text (S := fun w' => Below W0.heap.size W0 w') (by kernel_rfl) (by kernel_rfl) (Below.refl _ _).drew ?_
    repeat (first
      | (refine TxtL.skip (by rfl) ?_; simp only [Act.put, List.setIfInBounds_toArray, List.set_cons_zero, List.set_cons_succ])
      | (refine TxtL.take' (by rfl) ?_; apply Exists.intro; refine ⟨fun w1 hS1 => ?_, ?_⟩; (focus ((have d0 := (hS1.cell (lt_of_cell c0)).trans c0); (have d1 := (hS1.cell (lt_of_cell c1)).trans c1); go_simp; with_reducible rfl)); simp only [Act.put, List.setIfInBounds_toArray, List.set_cons_zero, List.set_cons_succ])
      | (refine TxtL.call' (by rfl) ?_; apply Exists.intro; apply Exists.intro; refine ⟨fun w1 hS1 => ?_, ?_⟩; (focus (go_simp; first | with_reducible rfl | exact ⟨rfl, rfl⟩)); apply Exists.intro; refine ⟨fun w1 hS1 => ?_, ?_⟩; (focus ((have d0 := (hS1.cell (lt_of_cell c0)).trans c0); (have d1 := (hS1.cell (lt_of_cell c1)).trans c1); first | (go_at_call 25; refine (aValid_any _ _ _ _ _ _ (hx0.below hS1) hxl).mono ?_; rintro e w' ⟨rfl, hbb⟩; exact ⟨by rw [Hs.out], hS1.trans (hbb.mono hS1.size)⟩))); simp only [Act.put, List.setIfInBounds_toArray, List.set_cons_zero, List.set_cons_succ]))
    refine TxtL.nil (fun w1 hS1 => ?_)
    go_wp2
    go_ret
    exact ⟨rb (by simp [defB, Hs.out]), endB hb0 hS1⟩
  · have hm := setB_mask hn hs
    have hmu := u64_of hn hm.2
    have hm1 := hm.1
    obtain ⟨j, hj⟩ := Int.eq_ofNat_of_zero_le hi
    subst hj
    have hj64 : j < 64 := by omega
    have hsu := u64_of hn (stepN_u64 hn l (maskN x))
    have hsh : (stepN n l (maskN x)) >>> j < 18446744073709551616 := Nat.lt_of_le_of_lt (by rw [Nat.shiftRight_eq_div_pow]; exact Nat.div_le_self _ _) hsu
    have e1 : ((stepN n l (maskN x) : Nat) : Int) / 2 ^ j = ((stepN n l (maskN x) >>> j : Nat) : Int) := u64_shr _ _
    have e2 : bits .and .u64 ((stepN n l (maskN x) >>> j : Nat) : Int) 1 = ((stepN n l (maskN x) >>> j &&& 1 : Nat) : Int) := u64_and_nat (stepN n l (maskN x) >>> j) 1 hsh (by omega)
    have Hs := Lib.hid hs; have Hm := Lib.hid hm1; have E1 := Lib.hid e1; have E2 := Lib.hid e2; clear hs hm hm1 e1 e2
    go_enter Tryd.func30, Tryd.ntmps30
    go_wp2_with fail
    obtain ⟨W0, hW, c0, c1, hb0, hlt0⟩ := boxed w 27 (.int .i64 (n : Int)) (.slice A l.length c)
    rw [hW]
    have hr0 := hr.below hb0
    have hx0 := hx.below hb0
    clear hW hr hx
    refine wp_region_text (S := fun w' => Below W0.heap.size W0 w') (by kernel_rfl) (by kernel_rfl) (Below.refl _ _).drew ?_
    repeat (first
      | (refine TxtL.skip (by rfl) ?_; simp only [Act.put, List.setIfInBounds_toArray, List.set_cons_zero, List.set_cons_succ])
      | (refine TxtL.take' (by rfl) ?_; apply Exists.intro; refine ⟨fun w1 hS1 => ?_, ?_⟩; (focus ((have d0 := (hS1.cell (lt_of_cell c0)).trans c0); (have d1 := (hS1.cell (lt_of_cell c1)).trans c1); go_simp; with_reducible rfl)); simp only [Act.put, List.setIfInBounds_toArray, List.set_cons_zero, List.set_cons_succ])
      | (refine TxtL.call' (by rfl) ?_; apply Exists.intro; apply Exists.intro; refine ⟨fun w1 hS1 => ?_, ?_⟩; (focus (go_simp; first | with_reducible rfl | exact ⟨rfl, rfl⟩)); apply Exists.intro; refine ⟨fun w1 hS1 => ?_, ?_⟩; (focus ((have d0 := (hS1.cell (lt_of_cell c0)).trans c0); (have d1 := (hS1.cell (lt_of_cell c1)).trans c1); first | (go_at_call 25; refine (aValid_any _ _ _ _ _ _ (hx0.below hS1) hxl).mono ?_; rintro e w' ⟨rfl, hbb⟩; exact ⟨by rw [Hs.out], hS1.trans (hbb.mono hS1.size)⟩) | (go_at_call 28; refine (mask_any _ _ _ _ (hx0.below hS1) hxl Hm.out).mono ?_; rintro e w' ⟨rfl, rfl⟩; exact ⟨rfl, hS1⟩) | (go_at_call 27; refine (step_any _ _ _ _ _ _ (hr0.below hS1) hv hmu).mono ?_; rintro e w' ⟨rfl, hbb⟩; exact ⟨rfl, hS1.trans (hbb.mono hS1.size)⟩))); simp only [Act.put, List.setIfInBounds_toArray, List.set_cons_zero, List.set_cons_succ]))
    refine TxtL.nil (fun w1 hS1 => ?_)
    go_wp2
    go_ret
    refine ⟨rb ?_, endB hb0 hS1⟩
    rw [E1.out, E2.out, shr_and_one, defB, Hs.out]
    have h1 := hi; have h2 := hi2
    have h3 : ((j : Int)).toNat = j := rfl
    rw [h3]
    cases hb : (stepN n l (maskN x)).testBit j <;> simp [h1, h2]
end Go.Proofs.YtkfocifejoogaaaDoor
