/- The reference of layers 11 and 13: In, inside, Valid, hit, ConflictFree. -/
import Derived.Test.YtplbnhfkndegaaaDoorRef10c
import Derived.Test.YtplbnhfkndegaaaDoorAdm3
namespace Go.Proofs.YtplbnhfkndegaaaDoor
open Go.ChangeShapes Go.WideShapes Go.ChangeAt Go.RowKit

set_option maxHeartbeats 400000 in
theorem r11In_any (A : Option Addr) (l : List Int) (c : Nat) (x : Int) (w : World) (hn : l.length ≤ 4611686018427387904) (hr : RI w A l) :
    Calls Tryd.prog 55 #[.slice A l.length c, .int .i64 x] w (Ret (.bool (inB l x)) w) := by
  go_enter Tryd.func55, Tryd.ntmps55
  go_wp2
  go_loop [5] (fun i => ∃ k : Nat, k ≤ l.length ∧ i = .int .i64 k ∧ inB (l.take k) x = false) (fun i => l.length - (intOf i).toNat)
  case atStart => exact ⟨0, by omega, rfl, by simp [inB]⟩
  case round =>
    obtain ⟨k, hk, rfl, hno⟩ := hrel
    have Hno := Lib.hid hno; clear hno
    by_cases hlt : k < l.length
    · obtain ⟨b, o, rfl, hc⟩ := hr.at_ hlt
      go_wp2
      · go_ret
        exact ⟨rb (inB_hit l x k hlt (by assumption)).symm, rfl⟩
      · go_round
        case rel => exact ⟨k + 1, by omega, by go_num, inB_take_succ l x k hlt Hno.out (by assumption)⟩
        case measure => simp [intOf]; omega
    · go_wp2
      go_ret
      exact ⟨rb (inB_all l x k hlt Hno.out).symm, rfl⟩

set_option maxHeartbeats 400000 in
theorem r13inside_any (A B : Option Addr) (a b : List Int) (ca cb : Nat) (w : World) (hn : a.length ≤ 4611686018427387904) (hm : b.length ≤ 4611686018427387904) (ha : RI w A a) (hb : RI w B b) :
    Calls Tryd.prog 46 #[.slice A a.length ca, .slice B b.length cb] w (Ret (.bool (insideB a b)) w) := by
  go_enter Tryd.func46, Tryd.ntmps46
  go_wp2
  go_loop [5] (fun i => ∃ k : Nat, k ≤ a.length ∧ i = .int .i64 k ∧ insideB (a.take k) b = true) (fun i => a.length - (intOf i).toNat)
  case atStart => exact ⟨0, by omega, rfl, by simp [insideB]⟩
  case round =>
    obtain ⟨k, hk, rfl, hno⟩ := hrel
    have Hno := Lib.hid hno; clear hno
    by_cases hlt : k < a.length
    · obtain ⟨bl, o, rfl, hc⟩ := ha.at_ hlt
      cases hx : inB b a[k]
      · have Hx := Lib.hid hx; clear hx
        go_wp2_with (go_at_call 55; refine (r11In_any _ _ _ _ _ hm hb).mono ?_; rintro e w' ⟨rfl, rfl⟩; rw [Hx.out])
        go_ret
        exact ⟨rb (insideB_miss hlt Hx.out).symm, rfl⟩
      · have Hx := Lib.hid hx; clear hx
        go_wp2_with (go_at_call 55; refine (r11In_any _ _ _ _ _ hm hb).mono ?_; rintro e w' ⟨rfl, rfl⟩; rw [Hx.out])
        go_round
        case rel => exact ⟨k + 1, by omega, by go_num, insideB_take_succ hlt Hno.out Hx.out⟩
        case measure => simp [intOf]; omega
    · go_wp2
      go_ret
      exact ⟨rb (insideB_all hlt Hno.out).symm, rfl⟩

set_option maxRecDepth 100000 in
set_option maxHeartbeats 2000000 in
theorem r13Valid_any (G : Value) (N : Int) (A : Option Addr) (l : List Int) (c : Nat) (w : World) (hr : RI w A l) (hl : l.length ≤ 100000) :
    Calls Tryd.prog 31 #[.agg #[.int .i64 N, G], .slice A l.length c] w (RetB (.bool (setB N l)) w) := by
  go_enter Tryd.func31, Tryd.ntmps31
  go_wp2_with fail
  obtain ⟨WG, hW, c0, c1, hb0, hlt0⟩ := boxed w 27 (.int .i64 N) G
  rw [hW]
  have hr0 := hr.below hb0
  clear hW hr
  go_loopw [5] (fun i wr => ∃ k : Nat, k ≤ l.length ∧ i = .int .i64 k ∧ (∀ j, j < k → (0 ≤ l.getD j 0 ∧ l.getD j 0 < N) ∧ (0 < j → l.getD (j - 1) 0 < l.getD j 0)) ∧ Below WG.heap.size WG wr) (fun i _ => l.length - (intOf i).toNat)
  case atStart => exact ⟨0, by omega, rfl, fun j hj => absurd hj (by omega), Below.refl _ _⟩
  case round =>
    obtain ⟨k, hk, rfl, hall, hbl⟩ := hrel
    have Hall := Lib.hid hall; clear hall
    obtain ⟨W0, hW0⟩ : ∃ W0, W0 = wr := ⟨_, rfl⟩
    subst hW0
    have d0 := (hbl.cell (lt_of_cell c0)).trans c0
    by_cases hlt : k < l.length
    case neg =>
      go_wp2
      go_ret
      exact ⟨rb ((setB_iff _ _).2 (fun j hj => Hall.out j (by omega))).symm, endB hb0 hbl⟩
    case pos =>
    obtain ⟨b, o, rfl, hc⟩ := (hr0.below hbl).at_ hlt
    have hg : l.getD k 0 = l[k] := by simp [List.getD, hlt]
    have Hg := Lib.hid hg; clear hg
    have hi0 : (0 : Int) ≤ (k : Int) := by omega
    have hi1 : (k : Int) < (l.length : Int) := by omega
    by_cases t1 : l[k] < 0
    · have hd1 : decide (l[k] < 0) = true := by simpa using t1
      have T1 := Lib.hid t1; clear t1
      go_wp2_with fail
      refine wp_region_text (S := fun w' => Below W0.heap.size W0 w') (by kernel_rfl) (by kernel_rfl) (Below.refl _ _).drew ?_
      repeat (first
        | (refine TxtL.skip (by rfl) ?_; simp only [Act.put, List.setIfInBounds_toArray, List.set_cons_zero, List.set_cons_succ])
        | (refine TxtL.take' (by rfl) ?_; apply Exists.intro; refine ⟨fun w1 hS1 => ?_, ?_⟩; (focus ((have g0 := (hS1.cell (lt_of_cell d0)).trans d0); (have g1 := (hS1.cell (lt_of_cell hc)).trans hc); go_simp; with_reducible rfl)); simp only [Act.put, List.setIfInBounds_toArray, List.set_cons_zero, List.set_cons_succ]))
      refine TxtL.nil (fun w1 hS1 => ?_)
      go_wp2
      go_ret
      exact ⟨rb (setB_miss hlt (fun h => by have := h.1.1; have := T1.out; rw [Hg.out] at *; omega)).symm, endB hb0 (hbl.trans (hS1.mono hbl.size))⟩
    have hd1 : decide (l[k] < 0) = false := by simpa using t1
    have t1' : 0 ≤ l[k] := by omega
    clear t1
    by_cases t2 : N ≤ l[k]
    · have hd2 : decide (N ≤ l[k]) = true := by simpa using t2
      have T2 := Lib.hid t2; clear t2
      go_wp2_with fail
      refine wp_region_text (S := fun w' => Below W0.heap.size W0 w') (by kernel_rfl) (by kernel_rfl) (Below.refl _ _).drew ?_
      repeat (first
        | (refine TxtL.skip (by rfl) ?_; simp only [Act.put, List.setIfInBounds_toArray, List.set_cons_zero, List.set_cons_succ])
        | (refine TxtL.take' (by rfl) ?_; apply Exists.intro; refine ⟨fun w1 hS1 => ?_, ?_⟩; (focus ((have g0 := (hS1.cell (lt_of_cell d0)).trans d0); (have g1 := (hS1.cell (lt_of_cell hc)).trans hc); go_simp; with_reducible rfl)); simp only [Act.put, List.setIfInBounds_toArray, List.set_cons_zero, List.set_cons_succ]))
      refine TxtL.nil (fun w1 hS1 => ?_)
      go_wp2
      go_ret
      exact ⟨rb (setB_miss hlt (fun h => by have := h.1.2; have := T2.out; rw [Hg.out] at *; omega)).symm, endB hb0 (hbl.trans (hS1.mono hbl.size))⟩
    have hd2 : decide (N ≤ l[k]) = false := by simpa using t2
    have t2' : l[k] < N := by omega
    clear t2
    by_cases hk0 : k = 0
    · have hg0 : decide ((0 : Int) < (k : Int)) = false := by simp; omega
      have hgn : decide (0 < k) = false := by simp; omega
      have Hk0 := Lib.hid hk0; clear hk0
      go_wp2_with fail
      refine wp_region_text (S := fun w' => Below W0.heap.size W0 w') (by kernel_rfl) (by kernel_rfl) (Below.refl _ _).drew ?_
      repeat (first
        | (refine TxtL.skip (by rfl) ?_; simp only [Act.put, List.setIfInBounds_toArray, List.set_cons_zero, List.set_cons_succ])
        | (refine TxtL.take' (by rfl) ?_; apply Exists.intro; refine ⟨fun w1 hS1 => ?_, ?_⟩; (focus ((have g0 := (hS1.cell (lt_of_cell d0)).trans d0); (have g1 := (hS1.cell (lt_of_cell hc)).trans hc); go_simp; with_reducible rfl)); simp only [Act.put, List.setIfInBounds_toArray, List.set_cons_zero, List.set_cons_succ]))
      refine TxtL.nil (fun w1 hS1 => ?_)
      go_wp2
      go_roundw
      case rel =>
        refine ⟨k + 1, by omega, by go_num, fun i hi => ?_, hbl.trans (hS1.mono hbl.size)⟩
        have h0 := Hk0.out
        obtain rfl : i = k := by omega
        exact ⟨⟨by rw [Hg.out]; exact t1', by rw [Hg.out]; exact t2'⟩, fun h => absurd h (by omega)⟩
      case measure => simp [intOf]; omega
    obtain ⟨j, hj⟩ : ∃ j, k = j + 1 := ⟨k - 1, by omega⟩
    subst hj
    clear hk0
    have hjl : j < l.length := by omega
    obtain ⟨b', o', hA, hc'⟩ := (hr0.below hbl).at_ hjl
    injection hA with hA
    injection hA with hb ho _
    subst hb ho
    have hg2 : l.getD j 0 = l[j] := by simp [List.getD, hjl]
    have Hg2 := Lib.hid hg2; clear hg2
    have hpos : decide ((0 : Int) < (j : Int) + 1) = true := decide_eq_true (by omega)
    have hj0 : (0 : Int) ≤ (j : Int) := by omega
    have hj1 : (j : Int) < (l.length : Int) := by omega
    have hk1 : (0 : Int) ≤ (j : Int) + 1 := by omega
    have hk2 : (j : Int) + 1 < (l.length : Int) := by omega
    have hself := int_self (j := j) (by omega)
    have hsub : IntKind.i64.wrap ((j : Int) + 1 - 1) = j := by rw [Int.add_sub_cancel]; exact hself
    by_cases t3 : l[j + 1] ≤ l[j]
    · have hd3 : decide (l[j + 1] ≤ l[j]) = true := by simpa using t3
      have T3 := Lib.hid t3; clear t3
      go_wp2_with fail
      refine wp_region_text (S := fun w' => Below W0.heap.size W0 w') (by kernel_rfl) (by kernel_rfl) (Below.refl _ _).drew ?_
      repeat (first
        | (refine TxtL.skip (by rfl) ?_; simp only [Act.put, List.setIfInBounds_toArray, List.set_cons_zero, List.set_cons_succ])
        | (refine TxtL.take' (by rfl) ?_; apply Exists.intro; refine ⟨fun w1 hS1 => ?_, ?_⟩; (focus ((have g0 := (hS1.cell (lt_of_cell d0)).trans d0); (have g1 := (hS1.cell (lt_of_cell hc)).trans hc); (have g2 := (hS1.cell (lt_of_cell hc')).trans hc'); go_simp; with_reducible rfl)); simp only [Act.put, List.setIfInBounds_toArray, List.set_cons_zero, List.set_cons_succ]))
      refine TxtL.nil (fun w1 hS1 => ?_)
      go_wp2
      go_ret
      exact ⟨rb (setB_miss hlt (fun h => by have h3 := h.2 (by omega); have := T3.out; rw [Hg.out, Nat.add_sub_cancel, Hg2.out] at h3; omega)).symm, endB hb0 (hbl.trans (hS1.mono hbl.size))⟩
    · have hd3 : decide (l[j + 1] ≤ l[j]) = false := by simpa using t3
      have t3' : l[j] < l[j + 1] := by omega
      clear t3
      go_wp2_with fail
      refine wp_region_text (S := fun w' => Below W0.heap.size W0 w') (by kernel_rfl) (by kernel_rfl) (Below.refl _ _).drew ?_
      repeat (first
        | (refine TxtL.skip (by rfl) ?_; simp only [Act.put, List.setIfInBounds_toArray, List.set_cons_zero, List.set_cons_succ])
        | (refine TxtL.take' (by rfl) ?_; apply Exists.intro; refine ⟨fun w1 hS1 => ?_, ?_⟩; (focus ((have g0 := (hS1.cell (lt_of_cell d0)).trans d0); (have g1 := (hS1.cell (lt_of_cell hc)).trans hc); (have g2 := (hS1.cell (lt_of_cell hc')).trans hc'); go_simp; with_reducible rfl)); simp only [Act.put, List.setIfInBounds_toArray, List.set_cons_zero, List.set_cons_succ]))
      refine TxtL.nil (fun w1 hS1 => ?_)
      go_wp2
      go_roundw
      case rel =>
        refine ⟨j + 1 + 1, by omega, by go_num, fun i hi => ?_, hbl.trans (hS1.mono hbl.size)⟩
        by_cases e : i < j + 1
        · exact Hall.out i e
        · obtain rfl : i = j + 1 := by omega
          exact ⟨⟨by rw [Hg.out]; exact t1', by rw [Hg.out]; exact t2'⟩, fun _ => by rw [Hg.out, Nat.add_sub_cancel, Hg2.out]; exact t3'⟩
      case measure => simp [intOf]; omega

/-- an element of x attacks i -/
def hitB (l : List (Int × Int)) (x : List Int) (i : Int) : Bool := x.any (fun a => hasB l a i)
theorem hitB_hit {l : List (Int × Int)} {x : List Int} {i : Int} {k : Nat} (h : k < x.length) (hx : hasB l x[k] i = true) : hitB l x i = true := List.any_eq_true.2 ⟨_, List.getElem_mem h, hx⟩
theorem hitB_next {l : List (Int × Int)} {x : List Int} {i : Int} {k : Nat} (h : k < x.length) (h0 : hitB l (x.take k) i = false) (hx : hasB l x[k] i = false) : hitB l (x.take (k + 1)) i = false := by
  unfold hitB at *; rw [List.take_succ_eq_append_getElem h, List.any_append, h0]; simp [hx]

set_option maxHeartbeats 1000000 in
theorem r13hit_any (A : Option Addr) (N : Int) (l : List (Int × Int)) (c : Nat) (B : Option Addr) (x : List Int) (cx : Nat) (i : Int) (w : World) (hr : RP w A l) (hlen : l.length ≤ 100000) (hv : nGl N l = l) (hx : RI w B x) (hxl : x.length ≤ 100000) :
    Calls Tryd.prog 56 #[.agg #[.int .i64 N, .slice A l.length c], .slice B x.length cx, .int .i64 i] w (RetB (.bool (hitB l x i)) w) := by
  have Hv := Lib.hid hv; clear hv
  go_enter Tryd.func56, Tryd.ntmps56
  go_wp2_with fail
  obtain ⟨WG, hW, c0, c1, hb0, hlt0⟩ := boxed w 27 (.int .i64 N) (.slice A l.length c)
  rw [hW]
  have hr0 := hr.below hb0
  have hx0 := hx.below hb0
  clear hW hr hx
  go_loopw [7] (fun j wr => ∃ k : Nat, k ≤ x.length ∧ j = .int .i64 k ∧ hitB l (x.take k) i = false ∧ Below WG.heap.size WG wr) (fun j _ => x.length - (intOf j).toNat)
  case atStart => exact ⟨0, by omega, rfl, by simp [hitB], Below.refl _ _⟩
  case round =>
    obtain ⟨k, hk, rfl, hno, hbl⟩ := hrel
    have Hno := Lib.hid hno; clear hno
    obtain ⟨W0, hW0⟩ : ∃ W0, W0 = wr := ⟨_, rfl⟩
    subst hW0
    by_cases hlt : k < x.length
    case neg =>
      go_wp2
      go_ret
      exact ⟨rb (by have := Hno.out; rw [List.take_of_length_le (by omega)] at this; exact this.symm), endB hb0 hbl⟩
    case pos =>
    have d0 := (hbl.cell (lt_of_cell c0)).trans c0
    have d1 := (hbl.cell (lt_of_cell c1)).trans c1
    obtain ⟨b, o, rfl, hc⟩ := (hx0.below hbl).at_ hlt
    have hr1 := hr0.below hbl
    have hi0 : (0 : Int) ≤ (k : Int) := by omega
    have hi1 : (k : Int) < (x.length : Int) := by omega
    cases hh : hasB l x[k] i
    all_goals
      have Hh := Lib.hid hh; clear hh
      go_wp2_with fail
      refine wp_region_text (S := fun w' => Below W0.heap.size W0 w') (by kernel_rfl) (by kernel_rfl) (Below.refl _ _).drew ?_
      repeat (first
        | (refine TxtL.skip (by rfl) ?_; simp only [Act.put, List.setIfInBounds_toArray, List.set_cons_zero, List.set_cons_succ])
        | (refine TxtL.take' (by rfl) ?_; apply Exists.intro; refine ⟨fun w1 hS1 => ?_, ?_⟩; (focus ((have g0 := (hS1.cell (lt_of_cell d0)).trans d0); (have g1 := (hS1.cell (lt_of_cell d1)).trans d1); (have g2 := (hS1.cell (lt_of_cell hc)).trans hc); go_simp; with_reducible rfl)); simp only [Act.put, List.setIfInBounds_toArray, List.set_cons_zero, List.set_cons_succ])
        | (refine TxtL.call' (by rfl) ?_; apply Exists.intro; apply Exists.intro; refine ⟨fun w1 hS1 => ?_, ?_⟩; (focus (go_simp; first | with_reducible rfl | exact ⟨rfl, rfl⟩)); apply Exists.intro; refine ⟨fun w1 hS1 => ?_, ?_⟩; (focus ((have g0 := (hS1.cell (lt_of_cell d0)).trans d0); (have g1 := (hS1.cell (lt_of_cell d1)).trans d1); (have g2 := (hS1.cell (lt_of_cell hc)).trans hc); first | (go_at_call 54; refine (r10Has_any _ _ _ _ _ _ _ (hr1.below hS1) hlen).mono ?_; rintro e w' ⟨rfl, hbb⟩; exact ⟨by rw [Hv.out, Hh.out], hS1.trans (hbb.mono hS1.size)⟩))); simp only [Act.put, List.setIfInBounds_toArray, List.set_cons_zero, List.set_cons_succ]))
      refine TxtL.nil (fun w1 hS1 => ?_)
      go_wp2
    · go_roundw
      case rel => exact ⟨k + 1, by omega, by go_num, hitB_next hlt Hno.out Hh.out, hbl.trans (hS1.mono hbl.size)⟩
      case measure => simp [intOf]; omega
    · go_ret
      exact ⟨rb (hitB_hit hlt Hh.out).symm, endB hb0 (hbl.trans (hS1.mono hbl.size))⟩
end Go.Proofs.YtplbnhfkndegaaaDoor
