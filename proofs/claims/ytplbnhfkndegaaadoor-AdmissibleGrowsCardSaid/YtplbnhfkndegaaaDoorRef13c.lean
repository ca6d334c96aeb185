/- The reference of layer 13: Step, Admissible, IsComplete, Range, IsStable. -/
import Derived.Test.YtplbnhfkndegaaaDoorLaw13
namespace Go.Proofs.YtplbnhfkndegaaaDoor
open Go.ChangeShapes Go.WideShapes Go.ChangeAt Go.RowKit

set_option maxHeartbeats 2000000 in
theorem r13Step_any (A : Option Addr) (n : Nat) (l : List (Int × Int)) (c : Nat) (B : Option Addr) (x : List Int) (cx : Nat) (w : World) (hr : RP w A l) (hn : n ≤ 40) (hlen : l.length ≤ 100000) (hv : nGl n l = l) (hx : RI w B x) (hxl : x.length ≤ 100000) :
    Calls Tryd.prog 33 #[.agg #[.int .i64 (n : Int), .slice A l.length c], .slice B x.length cx] w (RetI (stepR n l x) w) := by
  have Hv := Lib.hid hv; clear hv
  go_enter Tryd.func33, Tryd.ntmps33
  go_wp2_with fail
  obtain ⟨WG, hW, c0, c1, hb0, hlt0⟩ := boxed w 27 (.int .i64 (n : Int)) (.slice A l.length c)
  rw [hW]
  have hr0 := hr.below hb0
  have hx0 := hx.below hb0
  clear hW hr hx
  go_loopw [5, 6] (fun v j wr => ∃ k : Nat, k ≤ n ∧ j = .int .i64 k ∧ OwnI wr WG.heap.size v (nodesB k (fun j => defR n l x j)) ∧ Below WG.heap.size WG wr) (fun _ j _ => n - (intOf j).toNat)
  case atStart => exact ⟨0, by omega, rfl, OwnI.nil _ _, Below.refl _ _⟩
  case round =>
    obtain ⟨k, hk, rfl, hown, hbl⟩ := hrel
    have Hown := Lib.hid hown; clear hown
    have d0 := (hbl.cell (lt_of_cell c0)).trans c0
    have d1 := (hbl.cell (lt_of_cell c1)).trans c1
    by_cases hlt : k < n
    case neg =>
      go_wp2
      go_ret
      refine RetI.mk ?_ (endB hb0 hbl)
      obtain rfl : k = n := by omega
      exact OwnI.mono Hown.out hb0.size
    case pos =>
    have hlt' : (k : Int) < (n : Int) := by omega
    go_wp2_with fail
    refine (r13Defends_any _ _ _ _ _ _ _ _ _ (hr0.below hbl) hlen Hv.out (hx0.below hbl) hxl).mono ?_
    rintro e w1 ⟨rfl, hb1⟩
    have hkl : (nodesB k (fun j => defR n l x j)).length ≤ 1000000 := by have := nodesB_length k (fun j => defR n l x j); omega
    have ho1 := Lib.hid (OwnI.below Hown.out hb1)
    have hbb : Below WG.heap.size WG w1 := hbl.trans (hb1.mono hbl.size)
    cases hd : defR n l x k
    · have Hd := Lib.hid hd; clear hd
      go_wp2_with fail
      go_roundw
      case rel => exact ⟨k + 1, by omega, by go_num, by rw [nodesB_succ, if_neg (by rw [Hd.out]; simp), List.append_nil]; exact ho1.out, hbb⟩
      case measure => simp [intOf]; omega
    · have Hd := Lib.hid hd; clear hd
      go_wp2_with (at_builtin; refine wpList_appI (by rfl) _ _ (by rfl) w1 WG.heap.size _ _ (k : Int) ho1.out (by rfl) (by rfl) (by omega) hbb.size ?_; intro v' w3 hown' hb3 _)
      go_roundw
      case rel => exact ⟨k + 1, by omega, by go_num, by rw [nodesB_succ, if_pos Hd.out]; exact hown', hbb.trans hb3⟩
      case measure => simp [intOf]; omega

theorem stepR_length (n : Nat) (l : List (Int × Int)) (x : List Int) : (stepR n l x).length ≤ n := nodesB_length _ _

set_option maxHeartbeats 2000000 in
theorem r13Admissible_any (A : Option Addr) (n : Nat) (l : List (Int × Int)) (c : Nat) (B : Option Addr) (x : List Int) (cx : Nat) (w : World) (hr : RP w A l) (hn : n ≤ 40) (hlen : l.length ≤ 100000) (hv : nGl n l = l) (hx : RI w B x) (hxl : x.length ≤ 100000) :
    Calls Tryd.prog 17 #[.agg #[.int .i64 (n : Int), .slice A l.length c], .slice B x.length cx] w (RetB (.bool (admR n l x)) w) := by
  have Hv := Lib.hid hv; clear hv
  go_enter Tryd.func17, Tryd.ntmps17
  go_wp2_with fail
  obtain ⟨WG, hW, c0, c1, hb0, hlt0⟩ := boxed w 27 (.int .i64 (n : Int)) (.slice A l.length c)
  rw [hW]
  have hr0 := hr.below hb0
  have hx0 := hx.below hb0
  clear hW hr hx
  go_wp2_with fail
  refine (r13ConflictFree_any _ _ _ _ _ _ _ _ hr0 hlen Hv.out hx0 hxl).mono ?_
  rintro e w1 ⟨rfl, hb1⟩
  obtain ⟨d0, d1, hbb⟩ := keepC c0 c1 (Below.refl _ _) hb1
  cases hc : cfR n l x
  · have Hc := Lib.hid hc; clear hc
    go_wp2_with fail
    go_ret
    exact ⟨rb (by simp [admR, Hc.out]), endB hb0 hbb⟩
  · have Hc := Lib.hid hc; clear hc
    go_wp2_with fail
    refine (r13Step_any _ _ _ _ _ _ _ _ (hr0.below hbb) hn hlen Hv.out (hx0.below hbb) hxl).mono ?_
    rintro e w2 ⟨A2, c2, rfl, _, hri, _, hb2⟩
    have hbb2 : Below WG.heap.size WG w2 := hbb.trans (hb2.mono hbb.size)
    have hsl := stepR_length n l x
    go_wp2_with fail
    refine (r13inside_any _ _ _ _ _ _ _ (by omega) (by omega) (hx0.below hbb2) hri).mono ?_
    rintro e w3 ⟨rfl, rfl⟩
    go_wp2_with fail
    go_ret
    exact ⟨rb (by simp [admR, Hc.out]), endB hb0 hbb2⟩

set_option maxHeartbeats 2000000 in
theorem r13IsComplete_any (A : Option Addr) (n : Nat) (l : List (Int × Int)) (c : Nat) (B : Option Addr) (x : List Int) (cx : Nat) (w : World) (hr : RP w A l) (hn : n ≤ 40) (hlen : l.length ≤ 100000) (hv : nGl n l = l) (hx : RI w B x) (hxl : x.length ≤ 100000) :
    Calls Tryd.prog 29 #[.agg #[.int .i64 (n : Int), .slice A l.length c], .slice B x.length cx] w (RetB (.bool (comR n l x)) w) := by
  have Hv := Lib.hid hv; clear hv
  go_enter Tryd.func29, Tryd.ntmps29
  go_wp2_with fail
  obtain ⟨WG, hW, c0, c1, hb0, hlt0⟩ := boxed w 27 (.int .i64 (n : Int)) (.slice A l.length c)
  rw [hW]
  have hr0 := hr.below hb0
  have hx0 := hx.below hb0
  clear hW hr hx
  go_wp2_with fail
  refine (r13Admissible_any _ _ _ _ _ _ _ _ hr0 hn hlen Hv.out hx0 hxl).mono ?_
  rintro e w1 ⟨rfl, hb1⟩
  obtain ⟨d0, d1, hbb⟩ := keepC c0 c1 (Below.refl _ _) hb1
  cases hc : admR n l x
  · have Hc := Lib.hid hc; clear hc
    go_wp2_with fail
    go_ret
    exact ⟨rb (by simp [comR, Hc.out]), endB hb0 hbb⟩
  · have Hc := Lib.hid hc; clear hc
    go_wp2_with fail
    refine (r13Step_any _ _ _ _ _ _ _ _ (hr0.below hbb) hn hlen Hv.out (hx0.below hbb) hxl).mono ?_
    rintro e w2 ⟨A2, c2, rfl, _, hri, _, hb2⟩
    have hbb2 : Below WG.heap.size WG w2 := hbb.trans (hb2.mono hbb.size)
    have hsl := stepR_length n l x
    go_wp2_with fail
    refine (r13inside_any _ _ _ _ _ _ _ (by omega) (by omega) hri (hx0.below hbb2)).mono ?_
    rintro e w3 ⟨rfl, rfl⟩
    go_wp2_with fail
    go_ret
    exact ⟨rb (by simp [comR, Hc.out]), endB hb0 hbb2⟩

/-- what the reference's Range, IsStable return -/
def inRange (l : List (Int × Int)) (x : List Int) (i : Int) : Bool := inB x i || hitB l x i
def rangeR (n : Nat) (l : List (Int × Int)) (x : List Int) : List Int := if setB n x then nodesB n (fun j => inRange l x j) else []

set_option maxHeartbeats 2000000 in
theorem r13Range_any (A : Option Addr) (n : Nat) (l : List (Int × Int)) (c : Nat) (B : Option Addr) (x : List Int) (cx : Nat) (w : World) (hr : RP w A l) (hn : n ≤ 40) (hlen : l.length ≤ 100000) (hv : nGl n l = l) (hx : RI w B x) (hxl : x.length ≤ 100000) :
    Calls Tryd.prog 35 #[.agg #[.int .i64 (n : Int), .slice A l.length c], .slice B x.length cx] w (RetI (rangeR n l x) w) := by
  have Hv := Lib.hid hv; clear hv
  go_enter Tryd.func35, Tryd.ntmps35
  go_wp2_with fail
  obtain ⟨WG, hW, c0, c1, hb0, hlt0⟩ := boxed w 27 (.int .i64 (n : Int)) (.slice A l.length c)
  rw [hW]
  have hr0 := hr.below hb0
  have hx0 := hx.below hb0
  clear hW hr hx
  go_wp2_with fail
  refine (r13Valid_any _ _ _ _ _ _ hx0 hxl).mono ?_
  rintro e w1 ⟨rfl, hb1⟩
  obtain ⟨d0, d1, hbb⟩ := keepC c0 c1 (Below.refl _ _) hb1
  cases hs : setB n x
  · have Hs := Lib.hid hs; clear hs
    go_wp2_with fail
    go_ret
    simp only [rangeR, Hs.out]
    exact RetI.nil (endB hb0 hbb)
  have Hs := Lib.hid hs; clear hs
  go_wp2_with fail
  go_loopw [5, 6] (fun v j wr => ∃ k : Nat, k ≤ n ∧ j = .int .i64 k ∧ OwnI wr WG.heap.size v (nodesB k (fun j => inRange l x j)) ∧ Below WG.heap.size WG wr) (fun _ j _ => n - (intOf j).toNat)
  case atStart => exact ⟨0, by omega, rfl, OwnI.nil _ _, hbb⟩
  case round =>
    obtain ⟨k, hk, rfl, hown, hbl⟩ := hrel
    have Hown := Lib.hid hown; clear hown
    have f0 := (hbl.cell (lt_of_cell c0)).trans c0
    have f1 := (hbl.cell (lt_of_cell c1)).trans c1
    by_cases hlt : k < n
    case neg =>
      go_wp2
      go_ret
      simp only [rangeR, Hs.out, if_true]
      refine RetI.mk ?_ (endB hb0 hbl)
      obtain rfl : k = n := by omega
      exact OwnI.mono Hown.out hb0.size
    case pos =>
    have hlt' : (k : Int) < (n : Int) := by omega
    have hkl : (nodesB k (fun j => inRange l x j)).length ≤ 1000000 := by have := nodesB_length k (fun j => inRange l x j); omega
    go_wp2_with fail
    refine (r11In_any _ _ _ _ _ (by omega) (hx0.below hbl)).mono ?_
    rintro e w2 ⟨rfl, rfl⟩
    cases hi : inB x k
    · have Hi := Lib.hid hi; clear hi
      go_wp2_with fail
      refine (r13hit_any _ _ _ _ _ _ _ _ _ (hr0.below hbl) hlen Hv.out (hx0.below hbl) hxl).mono ?_
      rintro e w3 ⟨rfl, hb3⟩
      have ho1 := Lib.hid (OwnI.below Hown.out hb3)
      have hbb3 : Below WG.heap.size WG w3 := hbl.trans (hb3.mono hbl.size)
      cases hh : hitB l x k
      · have Hh := Lib.hid hh; clear hh
        go_wp2_with fail
        go_roundw
        case rel => exact ⟨k + 1, by omega, by go_num, by rw [nodesB_succ, if_neg (by simp [inRange, Hi.out, Hh.out]), List.append_nil]; exact ho1.out, hbb3⟩
        case measure => simp [intOf]; omega
      · have Hh := Lib.hid hh; clear hh
        go_wp2_with (at_builtin; refine wpList_appI (by rfl) _ _ (by rfl) w3 WG.heap.size _ _ (k : Int) ho1.out (by rfl) (by rfl) (by omega) hbb3.size ?_; intro v' w4 hown' hb4 _)
        go_roundw
        case rel => exact ⟨k + 1, by omega, by go_num, by rw [nodesB_succ, if_pos (by simp [inRange, Hh.out])]; exact hown', hbb3.trans hb4⟩
        case measure => simp [intOf]; omega
    · have Hi := Lib.hid hi; clear hi
      go_wp2_with (at_builtin; refine wpList_appI (by rfl) _ _ (by rfl) wr WG.heap.size _ _ (k : Int) Hown.out (by rfl) (by rfl) (by omega) hbl.size ?_; intro v' w4 hown' hb4 _)
      go_roundw
      case rel => exact ⟨k + 1, by omega, by go_num, by rw [nodesB_succ, if_pos (by simp [inRange, Hi.out])]; exact hown', hbl.trans hb4⟩
      case measure => simp [intOf]; omega

def stableR (n : Nat) (l : List (Int × Int)) (x : List Int) : Bool := cfR n l x && ((rangeR n l x).length == n)
set_option maxHeartbeats 2000000 in
theorem r13IsStable_any (A : Option Addr) (n : Nat) (l : List (Int × Int)) (c : Nat) (B : Option Addr) (x : List Int) (cx : Nat) (w : World) (hr : RP w A l) (hn : n ≤ 40) (hlen : l.length ≤ 100000) (hv : nGl n l = l) (hx : RI w B x) (hxl : x.length ≤ 100000) :
    Calls Tryd.prog 32 #[.agg #[.int .i64 (n : Int), .slice A l.length c], .slice B x.length cx] w (RetB (.bool (stableR n l x)) w) := by
  have Hv := Lib.hid hv; clear hv
  cases hc : cfR n l x
  · have Hc := Lib.hid hc; clear hc
    go_enter Tryd.func32, Tryd.ntmps32
    go_wp2_with fail
    obtain ⟨W0, hW, c0, c1, hb0, hlt0⟩ := boxed w 27 (.int .i64 (n : Int)) (.slice A l.length c)
    rw [hW]
    have hr0 := hr.below hb0
    have hx0 := hx.below hb0
    clear hW hr hx
    refine wp_region_text (S := fun w' => Below W0.heap.size W0 w') (by kernel_rfl) (by kernel_rfl) (Below.refl _ _).drew ?_
    repeat (first
      | (refine TxtL.skip (by rfl) ?_; simp only [Act.put, List.setIfInBounds_toArray, List.set_cons_zero, List.set_cons_succ])
      | (refine TxtL.take' (by rfl) ?_; apply Exists.intro; refine ⟨fun w1 hS1 => ?_, ?_⟩; (focus ((have d0 := (hS1.cell (lt_of_cell c0)).trans c0); (have d1 := (hS1.cell (lt_of_cell c1)).trans c1); go_simp; with_reducible rfl)); simp only [Act.put, List.setIfInBounds_toArray, List.set_cons_zero, List.set_cons_succ])
      | (refine TxtL.call' (by rfl) ?_; apply Exists.intro; apply Exists.intro; refine ⟨fun w1 hS1 => ?_, ?_⟩; (focus (go_simp; first | with_reducible rfl | exact ⟨rfl, rfl⟩)); apply Exists.intro; refine ⟨fun w1 hS1 => ?_, ?_⟩; (focus ((have d0 := (hS1.cell (lt_of_cell c0)).trans c0); (have d1 := (hS1.cell (lt_of_cell c1)).trans c1); first | (go_at_call 28; refine (r13ConflictFree_any _ _ _ _ _ _ _ _ (hr0.below hS1) hlen Hv.out (hx0.below hS1) hxl).mono ?_; rintro e w' ⟨rfl, hbb⟩; exact ⟨by rw [Hc.out], hS1.trans (hbb.mono hS1.size)⟩))); simp only [Act.put, List.setIfInBounds_toArray, List.set_cons_zero, List.set_cons_succ]))
    refine TxtL.nil (fun w1 hS1 => ?_)
    go_wp2
    go_ret
    exact ⟨rb (by simp [stableR, Hc.out]), endB hb0 hS1⟩
  · have Hc := Lib.hid hc; clear hc
    go_enter Tryd.func32, Tryd.ntmps32
    go_wp2_with fail
    obtain ⟨W0, hW, c0, c1, hb0, hlt0⟩ := boxed w 27 (.int .i64 (n : Int)) (.slice A l.length c)
    rw [hW]
    have hr0 := hr.below hb0
    have hx0 := hx.below hb0
    clear hW hr hx
    go_region_held3 (fun w' => w'.cell? ⟨w.heap.size, 0, none⟩ = some (.int .i64 (n : Int)) ∧ w'.cell? ⟨w.heap.size, 1, none⟩ = some (.slice A l.length c) ∧ Below W0.heap.size W0 w')
      (first | exact ⟨c0, c1, (Below.refl _ _).drew⟩ | (go_split_ands; exact keepC (by assumption) (by assumption) (by assumption) (by assumption)) | (go_split_ands; exact ⟨by assumption, by assumption, by assumption⟩))
      (first | (go_at_call 28; go_split_ands; refine (r13ConflictFree_any _ _ _ _ _ _ _ _ (hr0.below (by assumption)) hlen Hv.out (hx0.below (by assumption)) hxl).mono ?_; rintro e w' ⟨rfl, hbb⟩; rw [Hc.out]) | (go_at_call 35; go_split_ands; refine (r13Range_any _ _ _ _ _ _ _ _ (hr0.below (by assumption)) hn hlen Hv.out (hx0.below (by assumption)) hxl).mono ?_; rintro e w' ⟨A', c', rfl, ho, hri, hni, hbb⟩))
    go_wp2
    go_ret
    go_split_ands
    exact ⟨rb (by rw [stableR, Hc.out, ← natBeq]; rfl), endB hb0 (by assumption)⟩
end Go.Proofs.YtplbnhfkndegaaaDoor
