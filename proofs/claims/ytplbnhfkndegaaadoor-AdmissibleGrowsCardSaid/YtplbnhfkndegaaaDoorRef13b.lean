/- The reference of layer 13: ConflictFree, Defends, Step, Admissible, IsComplete. -/
import Derived.Test.YtplbnhfkndegaaaDoorRef13
namespace Go.Proofs.YtplbnhfkndegaaaDoor
open Go.ChangeShapes Go.WideShapes Go.ChangeAt Go.RowKit

/-- no element of x attacks an element of y -/
def noHit (l : List (Int × Int)) (x y : List Int) : Bool := x.all (fun a => y.all (fun b => !hasB l a b))
theorem noHit_row {l : List (Int × Int)} {x y : List Int} {k : Nat} (h : k < x.length) (h0 : noHit l (x.take k) y = true) (h1 : noHit l [x[k]] y = true) : noHit l (x.take (k + 1)) y = true := by
  unfold noHit at *; rw [List.take_succ_eq_append_getElem h, List.all_append, h0]; exact h1
theorem noHit_cell {l : List (Int × Int)} {a : Int} {y : List Int} {k : Nat} (h : k < y.length) (h0 : noHit l [a] (y.take k) = true) (h1 : hasB l a y[k] = false) : noHit l [a] (y.take (k + 1)) = true := by
  unfold noHit at *; rw [List.take_succ_eq_append_getElem h]
  simp only [List.all_cons, List.all_nil, Bool.and_true, List.all_append] at *
  rw [h0]; simp [h1]
theorem noHit_bad {l : List (Int × Int)} {x y : List Int} {i k : Nat} (hi : i < x.length) (hk : k < y.length) (h1 : hasB l x[i] y[k] = true) : noHit l x y = false := by
  cases hb : noHit l x y
  · rfl
  · unfold noHit at hb
    rw [List.all_eq_true] at hb
    have h2 := hb _ (List.getElem_mem hi)
    rw [List.all_eq_true] at h2
    have h3 := h2 _ (List.getElem_mem hk)
    rw [h1] at h3; cases h3
/-- what ConflictFree returns -/
def cfR (N : Int) (l : List (Int × Int)) (x : List Int) : Bool := noHit l x x && setB N x

set_option maxHeartbeats 2000000 in
theorem r13ConflictFree_any (A : Option Addr) (N : Int) (l : List (Int × Int)) (c : Nat) (B : Option Addr) (x : List Int) (cx : Nat) (w : World) (hr : RP w A l) (hlen : l.length ≤ 100000) (hv : nGl N l = l) (hx : RI w B x) (hxl : x.length ≤ 100000) :
    Calls Tryd.prog 28 #[.agg #[.int .i64 N, .slice A l.length c], .slice B x.length cx] w (RetB (.bool (cfR N l x)) w) := by
  have Hv := Lib.hid hv; clear hv
  go_enter Tryd.func28, Tryd.ntmps28
  go_wp2_with fail
  obtain ⟨WG, hW, c0, c1, hb0, hlt0⟩ := boxed w 27 (.int .i64 N) (.slice A l.length c)
  rw [hW]
  have hr0 := hr.below hb0
  have hx0 := hx.below hb0
  clear hW hr hx
  go_loopw [5] (fun j wr => ∃ k : Nat, k ≤ x.length ∧ j = .int .i64 k ∧ noHit l (x.take k) x = true ∧ Below WG.heap.size WG wr) (fun j _ => x.length - (intOf j).toNat)
  case atStart => exact ⟨0, by omega, rfl, by simp [noHit], Below.refl _ _⟩
  case round =>
    obtain ⟨k, hk, rfl, hno, hbl⟩ := hrel
    have Hno := Lib.hid hno; clear hno
    by_cases hlt : k < x.length
    case neg =>
      have d0 := (hbl.cell (lt_of_cell c0)).trans c0
      have d1 := (hbl.cell (lt_of_cell c1)).trans c1
      go_wp2_with fail
      refine (r13Valid_any _ _ _ _ _ _ (hx0.below hbl) hxl).mono ?_
      rintro e w1 ⟨rfl, hb⟩
      go_wp2_with fail
      go_ret
      exact ⟨rb (by have := Hno.out; rw [List.take_of_length_le (by omega)] at this; simp [cfR, this]), endB hb0 (hbl.trans (hb.mono hbl.size))⟩
    case pos =>
    obtain ⟨b, o, rfl, hc⟩ := (hx0.below hbl).at_ hlt
    have hcG : ∀ W : World, Below WG.heap.size WG W → W.cell? ⟨b, o + k, none⟩ = some (.int .i64 x[k]) := fun W hW => by
      obtain ⟨b', o', hA, hc'⟩ := (hx0.below hW).at_ hlt
      injection hA with hA
      injection hA with hb ho _
      subst hb ho
      exact hc'
    have HcG := Lib.hid hcG; clear hcG
    have hi0 : (0 : Int) ≤ (k : Int) := by omega
    have hi1 : (k : Int) < (x.length : Int) := by omega
    obtain ⟨wo, hwo⟩ : ∃ wo, wo = wr := ⟨_, rfl⟩
    subst hwo
    go_wp2_with fail
    go_loopw [6] (fun j wr => ∃ m : Nat, m ≤ x.length ∧ j = .int .i64 m ∧ noHit l [x[k]] (x.take m) = true ∧ Below WG.heap.size WG wr) (fun j _ => x.length - (intOf j).toNat)
    case atStart => exact ⟨0, by omega, rfl, by simp [noHit], hbl⟩
    case round =>
      obtain ⟨m, hm, rfl, hno2, hbl2⟩ := hrel
      have Hno2 := Lib.hid hno2; clear hno2
      by_cases hlt2 : m < x.length
      case neg =>
        go_wp2
        go_roundw
        case rel => exact ⟨k + 1, by omega, by go_num, noHit_row hlt Hno.out (by have := Hno2.out; rw [List.take_of_length_le (by omega)] at this; exact this), hbl2⟩
        case measure => simp [intOf]; omega
      case pos =>
      obtain ⟨W0, hW0⟩ : ∃ W0, W0 = wr := ⟨_, rfl⟩
      subst hW0
      have d0 := (hbl2.cell (lt_of_cell c0)).trans c0
      have d1 := (hbl2.cell (lt_of_cell c1)).trans c1
      have d2 := HcG.out W0 hbl2
      obtain ⟨b', o', hA, d3⟩ := (hx0.below hbl2).at_ hlt2
      injection hA with hA
      injection hA with hb ho _
      subst hb ho
      have hr1 := hr0.below hbl2
      have hj0 : (0 : Int) ≤ (m : Int) := by omega
      have hj1 : (m : Int) < (x.length : Int) := by omega
      cases hh : hasB l x[k] x[m]
      all_goals
        have Hh := Lib.hid hh; clear hh
        go_wp2_with fail
        refine wp_region_text (S := fun w' => Below W0.heap.size W0 w') (by kernel_rfl) (by kernel_rfl) (Below.refl _ _).drew ?_
        repeat (first
          | (refine TxtL.skip (by rfl) ?_; simp only [Act.put, List.setIfInBounds_toArray, List.set_cons_zero, List.set_cons_succ])
          | (refine TxtL.take' (by rfl) ?_; apply Exists.intro; refine ⟨fun w1 hS1 => ?_, ?_⟩; (focus ((have g0 := (hS1.cell (lt_of_cell d0)).trans d0); (have g1 := (hS1.cell (lt_of_cell d1)).trans d1); (have g2 := (hS1.cell (lt_of_cell d2)).trans d2); (have g3 := (hS1.cell (lt_of_cell d3)).trans d3); go_simp; with_reducible rfl)); simp only [Act.put, List.setIfInBounds_toArray, List.set_cons_zero, List.set_cons_succ])
          | (refine TxtL.call' (by rfl) ?_; apply Exists.intro; apply Exists.intro; refine ⟨fun w1 hS1 => ?_, ?_⟩; (focus (go_simp; first | with_reducible rfl | exact ⟨rfl, rfl⟩)); apply Exists.intro; refine ⟨fun w1 hS1 => ?_, ?_⟩; (focus ((have g0 := (hS1.cell (lt_of_cell d0)).trans d0); (have g1 := (hS1.cell (lt_of_cell d1)).trans d1); (have g2 := (hS1.cell (lt_of_cell d2)).trans d2); (have g3 := (hS1.cell (lt_of_cell d3)).trans d3); first | (go_at_call 54; refine (r10Has_any _ _ _ _ _ _ _ (hr1.below hS1) hlen).mono ?_; rintro e w' ⟨rfl, hbb⟩; exact ⟨by rw [Hv.out, Hh.out], hS1.trans (hbb.mono hS1.size)⟩))); simp only [Act.put, List.setIfInBounds_toArray, List.set_cons_zero, List.set_cons_succ]))
        refine TxtL.nil (fun w1 hS1 => ?_)
        go_wp2
      · go_roundw
        case rel => exact ⟨m + 1, by omega, by go_num, noHit_cell hlt2 Hno2.out Hh.out, hbl2.trans (hS1.mono hbl2.size)⟩
        case measure => simp [intOf]; omega
      · go_ret
        exact ⟨rb (by rw [cfR, noHit_bad hlt hlt2 Hh.out]; rfl), endB hb0 (hbl2.trans (hS1.mono hbl2.size))⟩

/-- what Defends returns -/
def defR (N : Int) (l : List (Int × Int)) (x : List Int) (i : Int) : Bool := setB N x && decide (0 ≤ i) && decide (i < N) && (attackersL l i).all (fun k => hitB l x k)
theorem defR_bad {N : Int} {l : List (Int × Int)} {x : List Int} {i : Int} {k : Nat} (h : k < (attackersL l i).length) (h1 : hitB l x (attackersL l i)[k] = false) : defR N l x i = false := by
  cases hb : defR N l x i
  · rfl
  · simp only [defR, Bool.and_eq_true, List.all_eq_true] at hb
    rw [hb.2 _ (List.getElem_mem h)] at h1; cases h1

set_option maxHeartbeats 2000000 in
theorem r13Defends_any (A : Option Addr) (N : Int) (l : List (Int × Int)) (c : Nat) (B : Option Addr) (x : List Int) (cx : Nat) (i : Int) (w : World) (hr : RP w A l) (hlen : l.length ≤ 100000) (hv : nGl N l = l) (hx : RI w B x) (hxl : x.length ≤ 100000) :
    Calls Tryd.prog 37 #[.agg #[.int .i64 N, .slice A l.length c], .slice B x.length cx, .int .i64 i] w (RetB (.bool (defR N l x i)) w) := by
  have Hv := Lib.hid hv; clear hv
  go_enter Tryd.func37, Tryd.ntmps37
  go_wp2_with fail
  obtain ⟨WG, hW, c0, c1, hb0, hlt0⟩ := boxed w 27 (.int .i64 N) (.slice A l.length c)
  rw [hW]
  have hr0 := hr.below hb0
  have hx0 := hx.below hb0
  clear hW hr hx
  go_wp2_with fail
  refine (r13Valid_any _ _ _ _ _ _ hx0 hxl).mono ?_
  rintro e w1 ⟨rfl, hb1⟩
  obtain ⟨d0, d1, hbb⟩ := keepC c0 c1 (Below.refl _ _) hb1
  cases hs : setB N x
  · have Hs := Lib.hid hs; clear hs
    go_wp2_with fail
    go_ret
    exact ⟨rb (by simp [defR, Hs.out]), endB hb0 hbb⟩
  by_cases hi : i < 0
  · have Hi := Lib.hid hi; have Hs := Lib.hid hs; clear hs
    go_wp2_with fail
    go_ret
    exact ⟨rb (by have := Hi.out; rw [defR]; simp; omega), endB hb0 hbb⟩
  have hi' : 0 ≤ i := by omega
  clear hi
  by_cases hi2 : N ≤ i
  · have Hi := Lib.hid hi2; have Hs := Lib.hid hs; clear hs
    go_wp2_with fail
    go_ret
    exact ⟨rb (by have := Hi.out; rw [defR]; simp; omega), endB hb0 hbb⟩
  have hi2' : i < N := by omega
  have hd1 : decide (0 ≤ i) = true := decide_eq_true hi'
  have hd2 : decide (i < N) = true := decide_eq_true hi2'
  have Hs := Lib.hid hs; have Hd1 := Lib.hid hd1; have Hd2 := Lib.hid hd2; clear hs hi2 hd1 hd2
  go_wp2_with fail
  refine (r10Attackers_any _ _ _ _ _ _ (hr0.below hbb) hlen).mono ?_
  rw [Hv.out]
  rintro e w2 ⟨A2, c2, rfl, _, hri, _, hb2⟩
  have hal := attackersL_len l i
  have hbb2 : Below WG.heap.size WG w2 := hbb.trans (hb2.mono hbb.size)
  have hal2 : (attackersL l i).length ≤ 100000 := by omega
  go_wp2_with fail
  go_loopw [27] (fun j wr => ∃ k : Nat, k ≤ (attackersL l i).length ∧ j = .int .i64 k ∧ ((attackersL l i).take k).all (fun k => hitB l x k) = true ∧ Below w2.heap.size w2 wr) (fun j _ => (attackersL l i).length - (intOf j).toNat)
  case atStart => exact ⟨0, by omega, rfl, by simp, Below.refl _ _⟩
  case round =>
    obtain ⟨k, hk, rfl, hno, hbl⟩ := hrel
    have Hno := Lib.hid hno; clear hno
    have hbl2 : Below WG.heap.size WG wr := hbb2.trans (hbl.mono hbb2.size)
    by_cases hlt : k < (attackersL l i).length
    case neg =>
      go_wp2
      go_ret
      exact ⟨rb (by have := Hno.out; rw [List.take_of_length_le (by omega)] at this; simp only [defR, Hs.out, Hd1.out, Hd2.out, this]; rfl), endB hb0 hbl2⟩
    case pos =>
    have f0 := (hbl2.cell (lt_of_cell c0)).trans c0
    have f1 := (hbl2.cell (lt_of_cell c1)).trans c1
    obtain ⟨b, o, rfl, hc⟩ := (hri.below hbl).at_ hlt
    go_wp2_with fail
    refine (r13hit_any _ _ _ _ _ _ _ _ _ (hr0.below hbl2) hlen Hv.out (hx0.below hbl2) hxl).mono ?_
    rintro e w3 ⟨rfl, hb3⟩
    cases hh : hitB l x (attackersL l i)[k]
    all_goals
      have Hh := Lib.hid hh; clear hh
      go_wp2_with fail
    · go_ret
      exact ⟨rb (defR_bad hlt Hh.out).symm, endB hb0 (hbl2.trans (hb3.mono hbl2.size))⟩
    · go_roundw
      case rel => exact ⟨k + 1, by omega, by go_num, by rw [List.take_succ_eq_append_getElem hlt, List.all_append, Hno.out]; simp [Hh.out], hbl.trans (hb3.mono hbl.size)⟩
      case measure => simp [intOf]; omega
end Go.Proofs.YtplbnhfkndegaaaDoor
