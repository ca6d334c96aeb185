/- The reference's Shrink. -/
import Derived.Test.YtcpombepajapjaaGreatDoorGenM
namespace Go.Proofs.YtcpombepajapjaaGreatDoor
open Go.ChangeShapes Go.WideShapes Go.ChangeAt Go.RowKit

theorem shrink_row {n : Nat} {l : List (Int × Int)} (hv : InR n l) {m : Nat} (hm : m < 2 ^ n) :
    (nodesB n m.testBit).filter (fun y => defR n l (nodesB n m.testBit) y) = nodesB n (m &&& stepN n l m).testBit := by
  refine sorted_ext _ _ ((nodesB_sorted n _).filter _) (nodesB_sorted n _) fun y => ?_
  rw [List.mem_filter, mem_nodesB, mem_nodesB]
  constructor
  · rintro ⟨⟨i, hi, hb, rfl⟩, hd⟩
    refine ⟨i, hi, ?_, rfl⟩
    have h1 := (defR_iff hv (setB_nodes n m.testBit) i).1 hd
    rw [mask_nodes hm] at h1
    exact has_and.2 ⟨hb, h1⟩
  · rintro ⟨i, hi, hb, rfl⟩
    obtain ⟨h1, h2⟩ := has_and.1 hb
    refine ⟨⟨i, hi, h1, rfl⟩, (defR_iff hv (setB_nodes n m.testBit) i).2 ?_⟩
    rw [mask_nodes hm]; exact h2
theorem filter_take_succ {l : List Int} {k : Nat} (h : k < l.length) (p : Int → Bool) : (l.take (k + 1)).filter p = (l.take k).filter p ++ (if p l[k] then [l[k]] else []) := by
  rw [List.take_succ_eq_append_getElem h, List.filter_append]
  cases hp : p l[k] <;> simp [hp]

set_option maxRecDepth 100000 in
set_option maxHeartbeats 4000000 in
theorem r13Shrink_any (A : Option Addr) (n : Nat) (l : List (Int × Int)) (c : Nat) (B : Option Addr) (x : List Int) (cx : Nat) (w : World) (hr : RP w A l) (hv : InR n l) (hgl : nGl n l = l) (hx : RI w B x) (hxl : x.length ≤ 100000) (hB : B = none → x = [] ∧ cx = 0) :
    Calls Tryz.prog 37 #[.agg #[.int .i64 (n : Int), .slice A l.length c], .slice B x.length cx] w (RetE (shrinkL n l x).1 (shrinkL n l x).2 w) := by
  have hn := hv.1; have hlen := hv.2.1
  have Hgl := Lib.hid hgl; have HB := Lib.hid hB; clear hgl hB
  go_enter Tryz.func37, Tryz.ntmps37
  go_wp2_with fail
  obtain ⟨WG, hW, c0, c1, hb0, hlt0⟩ := boxed w 24 (.int .i64 (n : Int)) (.slice A l.length c)
  rw [hW]
  have hr0 := hr.below hb0
  have hx0 := hx.below hb0
  clear hW hr hx
  go_wp2_with fail
  refine (r13Valid_any _ _ _ _ _ _ hx0 hxl).mono ?_
  rintro e w1 ⟨rfl, hb1⟩
  obtain ⟨d0, d1, hbb⟩ := keepC c0 c1 (Below.refl _ _) hb1
  cases hs : setB n x
  · go_wp2_with fail
    go_ret2
    simp only [shrinkL, hs]
    exact RetE.nil _ (endB hb0 hbb)
  have hm := (setB_mask hn hs).2
  have Hs := Lib.hid hs; clear hs
  go_wp2_with fail
  refine (r13ConflictFree_any _ n l _ _ x _ w1 (hr0.below hbb) hlen Hgl.out (hx0.below hbb) hxl).mono ?_
  rintro e w2 ⟨rfl, hb2⟩
  obtain ⟨f0, f1, hbb2⟩ := keepC d0 d1 hbb hb2
  clear d0 d1 hb1 hb2
  have hadm : cfR n l x = freeB l (maskN x) := by rw [cfR_eq hv, Hs.out, Bool.true_and]
  cases hsd : cfR n l x
  · rw [hadm] at hsd
    clear hadm
    go_wp2_with fail
    go_ret2
    simp only [shrinkL, Hs.out, hsd]
    exact RetE.nil _ (endB hb0 hbb2)
  rw [hadm] at hsd
  clear hadm
  have Hsd := Lib.hid hsd; have Hm := Lib.hid hm; clear hsd hm
  have hxw : RI (w2.alloc (.cells #[] 3)) B x := (hx0.below hbb2).below (newB _ _)
  have how := own_empty w2
  have hbw : Below WG.heap.size WG (w2.alloc (.cells #[] 3)) := endB hbb2 (newB _ _)
  have hsz : w2.heap.size ≤ (w2.alloc (.cells #[] 3)).heap.size := by simp
  clear f0 f1
  have Hx := Lib.hid hxw; have Ho := Lib.hid how; clear hxw how
  go_wp2_with (at_builtin; refine wpList_appIs (by rfl) _ _ (by rfl) (w2.alloc (.cells #[] 3)) w2.heap.size _ [] B x cx Ho.out Hx.out HB.out (by rfl) (by rfl) (by simp; omega) hsz ?_; intro v' w3 hown hb3 _; rw [List.nil_append] at hown)
  have hbb3 : Below WG.heap.size WG w3 := hbw.trans (hb3.mono (by have := hbb2.size; omega))
  have hown0 := Lib.hid (OwnI.mono hown (leB hb0 hbb2))
  clear hown Hx Ho hb3
  go_loopw [6] (fun v wr => ∃ k m : Nat, itN (fun m => m &&& stepN n l m) k (maskN x) = m ∧ k + (nodesB n m.testBit).length ≤ n ∧ m < 2 ^ n ∧ OwnI wr w.heap.size v (nodesB n m.testBit) ∧ Below WG.heap.size WG wr) (fun v _ => lenOf v)
  case atStart => exact ⟨0, maskN x, rfl, by have := nodesB_length n (maskN x).testBit; omega, Hm.out, by rw [set_nodes Hs.out]; exact hown0.out, hbb3⟩
  case round =>
    clear hown0 hbb3 hbw hsz
    obtain ⟨k, m, hit, hkm, hm, hown, hbl⟩ := hrel
    obtain ⟨VA, vc, rfl, hvr, hvn⟩ := hown.form
    have hl1 : (nodesB n m.testBit).length ≤ n := nodesB_length _ _
    have hl2 : (nodesB n (m &&& stepN n l m).testBit).length ≤ n := nodesB_length _ _
    have hmm : m &&& stepN n l m < 2 ^ n := Nat.lt_of_le_of_lt Nat.and_le_left hm
    obtain ⟨hle, heq⟩ := nodes_len hmm hm (and_sub m (stepN n l m))
    have hrow := shrink_row hv hm
    have Hit := Lib.hid hit; have Hmm := Lib.hid hm; have Hmn := Lib.hid hmm; have Heq := Lib.hid heq; have Hrow := Lib.hid hrow; clear hit hm hmm heq hrow
    obtain ⟨wo, hwo⟩ : ∃ wo, wo = wr := ⟨_, rfl⟩
    subst hwo
    obtain ⟨out, hout⟩ : ∃ out, nodesB n m.testBit = out := ⟨_, rfl⟩
    rw [hout] at hown hvr hvn hl1 hle Heq Hrow hkm
    have Hout := Lib.hid hout; have Hown := Lib.hid hown; have Hvn := Lib.hid hvn; clear hown hvn
    rw [hout]
    clear hout
    go_wp2_with fail
    go_loopw [7, 8] (fun v i wr => ∃ j : Nat, j ≤ out.length ∧ i = .int .i64 j ∧ OwnI wr wo.heap.size v ((out.take j).filter fun y => defR n l out y) ∧ Below wo.heap.size wo wr) (fun _ i _ => out.length - (intOf i).toNat)
    case atStart => exact ⟨0, Nat.zero_le _, rfl, OwnI.nil _ _, Below.refl _ _⟩
    case round =>
      obtain ⟨j, hj, rfl, hin, hbj⟩ := hrel
      by_cases hjt : j < out.length
      case neg =>
        obtain rfl : j = out.length := by omega
        rw [List.take_length, Hrow.out] at hin
        obtain ⟨NA, nc, rfl, _⟩ := hin.form
        have Hin := Lib.hid hin; clear hin
        by_cases he : (nodesB n (m &&& stepN n l m).testBit).length = out.length
        · have hd : (((nodesB n (m &&& stepN n l m).testBit).length : Int) == (out.length : Int)) = true := by rw [beq_iff_eq]; omega
          have Hfix := Lib.hid (Heq.out he); clear he
          have Ho6 := Lib.hid (Hown.out.below hbj)
          have hvr6 := hvr.below hbj
          go_wp2_with fail
          go_ret2
          have hg : shrinkN n l (maskN x) = m := by
            unfold shrinkN
            have h2 := Nat.lt_two_pow_self (n := n)
            rw [itN_at (f := fun m => m &&& stepN n l m) (k := k) (by rw [Hit.out]; exact Hfix.out) (by omega), Hit.out]
          simp only [shrinkL, Hs.out, Hsd.out, if_true]
          rw [hg, Hout.out]
          exact ⟨VA, vc, rfl, Ho6.out, hvr6, Hvn.out, endB hb0 (endB hbl hbj)⟩
        · have hd : (((nodesB n (m &&& stepN n l m).testBit).length : Int) == (out.length : Int)) = false := by rw [beq_eq_false_iff_ne]; omega
          have He := Lib.hid he; clear he
          go_wp2_with fail
          have hne := He.out
          go_roundw
          case rel => exact ⟨k + 1, m &&& stepN n l m, by show (fun m => m &&& stepN n l m) (itN _ k (maskN x)) = _; rw [Hit.out], by omega, Hmn.out, OwnI.mono Hin.out (leB hb0 hbl), endB hbl hbj⟩
          case measure => simp only [lenOf]; omega
      case pos =>
      obtain ⟨W0, hW0⟩ : ∃ W0, W0 = wr := ⟨_, rfl⟩
      subst hW0
      have hbJ := endB hbl hbj
      have d0 := (hbJ.cell (lt_of_cell c0)).trans c0
      have d1 := (hbJ.cell (lt_of_cell c1)).trans c1
      obtain ⟨b', o', rfl, d2⟩ := (hvr.below hbj).at_ hjt
      have hvr1 := hvr.below hbj
      have hr1 := hr0.below hbJ
      have hj0 : (0 : Int) ≤ (j : Int) := by omega
      have hj1 : (j : Int) < (out.length : Int) := by omega
      have htk := filter_take_succ hjt (fun y => defR n l out y)
      have Htk := Lib.hid htk; have Hin := Lib.hid hin; clear htk hin
      have hfl : ((out.take j).filter fun y => defR n l out y).length ≤ 1000000 := by have := List.length_filter_le (fun y => defR n l out y) (out.take j); rw [List.length_take] at this; omega
      cases hh : defR n l out out[j]
      all_goals
        have Hh := Lib.hid hh; clear hh
        go_wp2_with fail
        refine wp_region_text (S := fun w' => Below W0.heap.size W0 w') (by kernel_rfl) (by kernel_rfl) (Below.refl _ _).drew ?_
        repeat (first
          | (refine TxtL.skip (by rfl) ?_; simp only [Act.put, List.setIfInBounds_toArray, List.set_cons_zero, List.set_cons_succ])
          | (refine TxtL.take' (by rfl) ?_; apply Exists.intro; refine ⟨fun w1 hS1 => ?_, ?_⟩; (focus ((have g0 := (hS1.cell (lt_of_cell d0)).trans d0); (have g1 := (hS1.cell (lt_of_cell d1)).trans d1); (have g2 := (hS1.cell (lt_of_cell d2)).trans d2); go_simp; with_reducible rfl)); simp only [Act.put, List.setIfInBounds_toArray, List.set_cons_zero, List.set_cons_succ])
          | (refine TxtL.call' (by rfl) ?_; apply Exists.intro; apply Exists.intro; refine ⟨fun w1 hS1 => ?_, ?_⟩; (focus (go_simp; first | with_reducible rfl | exact ⟨rfl, rfl⟩)); apply Exists.intro; refine ⟨fun w1 hS1 => ?_, ?_⟩; (focus ((have g0 := (hS1.cell (lt_of_cell d0)).trans d0); (have g1 := (hS1.cell (lt_of_cell d1)).trans d1); (have g2 := (hS1.cell (lt_of_cell d2)).trans d2); first | (go_at_call 63; refine (r13Defends_any _ _ _ _ _ _ _ _ _ (hr1.below hS1) hlen Hgl.out (hvr1.below hS1) (by omega)).mono ?_; rintro e w' ⟨rfl, hbb⟩; exact ⟨by rw [Hh.out], hS1.trans (hbb.mono hS1.size)⟩))); simp only [Act.put, List.setIfInBounds_toArray, List.set_cons_zero, List.set_cons_succ]))
        refine TxtL.nil (fun w1 hS1 => ?_)
      · go_wp2_with fail
        go_roundw
        case rel => exact ⟨j + 1, by omega, by go_num, by rw [Htk.out, if_neg (by rw [Hh.out]; simp), List.append_nil]; exact Hin.out.below hS1, endB hbj hS1⟩
        case measure => simp [intOf]; omega
      · have g2 := (hS1.cell (lt_of_cell d2)).trans d2
        have Hin1 := Lib.hid (Hin.out.below hS1)
        have hbz : wo.heap.size ≤ w1.heap.size := leB hbj hS1
        go_wp2_with (at_builtin; refine wpList_appI (by rfl) _ _ (by rfl) w1 wo.heap.size _ _ out[j] Hin1.out (by rfl) (by rfl) (by omega) hbz ?_; intro v' w4 hown' hb4 hg4)
        go_roundw
        case rel => exact ⟨j + 1, by omega, by go_num, by rw [Htk.out, if_pos Hh.out]; exact hown', (endB hbj hS1).trans hb4⟩
        case measure => simp [intOf]; omega
end Go.Proofs.YtcpombepajapjaaGreatDoor
