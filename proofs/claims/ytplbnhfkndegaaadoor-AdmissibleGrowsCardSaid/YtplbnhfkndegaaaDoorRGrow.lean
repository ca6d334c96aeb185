/- The reference's Grow and Shrink: the same lists and errors as Grow's and Shrink's. -/
import Derived.Test.YtplbnhfkndegaaaDoorPartW
import Derived.Test.YtplbnhfkndegaaaDoorAwake
namespace Go.Proofs.YtplbnhfkndegaaaDoor
open Go.ChangeShapes Go.WideShapes Go.ChangeAt Go.RowKit

/-- how many numbers a slice holds -/
def lenOf : Value → Nat
  | .slice _ n _ => n
  | _ => 0
theorem nodesB_sublist {n : Nat} {p q : Nat → Bool} (h : ∀ i, p i = true → q i = true) : (nodesB n p).Sublist (nodesB n q) := by
  unfold nodesB
  refine List.Sublist.map _ ?_
  have e : (List.range n).filter p = ((List.range n).filter q).filter p := by
    rw [List.filter_filter]
    refine List.filter_congr fun i _ => ?_
    cases hp : p i
    · simp
    · simp [h i hp]
  rw [e]
  exact List.filter_sublist
theorem nodes_len {n a b : Nat} (ha : a < 2 ^ n) (hb : b < 2 ^ n) (h : sub a b) : (nodesB n a.testBit).length ≤ (nodesB n b.testBit).length ∧ ((nodesB n a.testBit).length = (nodesB n b.testBit).length → a = b) :=
  ⟨(nodesB_sublist h).length_le, fun e => nodes_inj ha hb ((nodesB_sublist h).eq_of_length e)⟩
theorem stepR_nodes {n : Nat} {l : List (Int × Int)} (hv : InR n l) {m : Nat} (hm : m < 2 ^ n) : stepR n l (nodesB n m.testBit) = nodesB n (stepN n l m).testBit := by
  rw [stepR_eq hv]
  unfold stepL
  rw [if_pos (setB_nodes n _), mask_nodes hm]

set_option maxRecDepth 100000 in
set_option maxHeartbeats 2000000 in
theorem r13Grow_any (A : Option Addr) (n : Nat) (l : List (Int × Int)) (c : Nat) (B : Option Addr) (x : List Int) (cx : Nat) (w : World) (hr : RP w A l) (hv : InR n l) (hgl : nGl n l = l) (hx : RI w B x) (hxl : x.length ≤ 100000) (hB : B = none → x = [] ∧ cx = 0) :
    Calls Tryd.prog 24 #[.agg #[.int .i64 (n : Int), .slice A l.length c], .slice B x.length cx] w (RetE (growL n l x).1 (growL n l x).2 w) := by
  have hn := hv.1; have hlen := hv.2.1
  have Hgl := Lib.hid hgl; have HB := Lib.hid hB; clear hgl hB
  go_enter Tryd.func24, Tryd.ntmps24
  go_wp2_with fail
  obtain ⟨W0, hW, c0, c1, hb0, hlt0⟩ := boxed w 27 (.int .i64 (n : Int)) (.slice A l.length c)
  rw [hW]
  have hr0 := hr.below hb0
  have hx0 := hx.below hb0
  clear hW hr hx
  go_wp2_with fail
  refine (r13Valid_any _ _ _ _ _ _ hx0 hxl).mono ?_
  rintro e w1 ⟨rfl, hb1⟩
  obtain ⟨d0, d1, hbb⟩ := keepC c0 c1 (Below.refl _ _) hb1
  cases hs : setB n x
  · go_wp2_with fail
    go_ret2
    simp only [growL, hs]
    exact RetE.nil _ (endB hb0 hbb)
  have hm := (setB_mask hn hs).2
  have Hs := Lib.hid hs; clear hs
  go_wp2_with fail
  refine (r13Admissible_any _ n l _ _ x _ w1 (hr0.below hbb) hn hlen Hgl.out (hx0.below hbb) hxl).mono ?_
  rintro e w2 ⟨rfl, hb2⟩
  obtain ⟨f0, f1, hbb2⟩ := keepC d0 d1 hbb hb2
  clear d0 d1 hb1 hb2
  have hadm : admR n l x = soundB n l (maskN x) := by rw [admR_eq hv, Hs.out, Bool.true_and]
  cases hsd : admR n l x
  · rw [hadm] at hsd
    clear hadm
    go_wp2_with fail
    go_ret2
    simp only [growL, Hs.out, hsd]
    exact RetE.nil _ (endB hb0 hbb2)
  rw [hadm] at hsd
  clear hadm
  have hsub := sub_of_sound hv hm hsd
  have Hsd := Lib.hid hsd; have Hsub := Lib.hid hsub; have Hm := Lib.hid hm; clear hsd hsub hm
  have hxw : RI (w2.alloc (.cells #[] 3)) B x := (hx0.below hbb2).below (newB _ _)
  have how := own_empty w2
  have hbw : Below W0.heap.size W0 (w2.alloc (.cells #[] 3)) := endB hbb2 (newB _ _)
  have hsz : w2.heap.size ≤ (w2.alloc (.cells #[] 3)).heap.size := by simp
  have f0' := ((newB w2 (.cells #[] 3)).cell (lt_of_cell f0)).trans f0
  have f1' := ((newB w2 (.cells #[] 3)).cell (lt_of_cell f1)).trans f1
  clear f0 f1
  have Hx := Lib.hid hxw; have Ho := Lib.hid how; clear hxw how
  go_wp2_with (at_builtin; refine wpList_appIs (by rfl) _ _ (by rfl) (w2.alloc (.cells #[] 3)) w2.heap.size _ [] B x cx Ho.out Hx.out HB.out (by rfl) (by rfl) (by simp; omega) hsz ?_; intro v' w3 hown hb3 _; rw [List.nil_append] at hown)
  have hbb3 : Below W0.heap.size W0 w3 := hbw.trans (hb3.mono (by have := hbb2.size; omega))
  have hown0 := Lib.hid (OwnI.mono hown (leB hb0 hbb2))
  clear hown Hx Ho hb3 f0' f1'
  go_loopw [6] (fun v wr => ∃ k m : Nat, itN (stepN n l) k (maskN x) = m ∧ k ≤ (nodesB n m.testBit).length ∧ m < 2 ^ n ∧ sub m (stepN n l m) ∧ OwnI wr w.heap.size v (nodesB n m.testBit) ∧ Below W0.heap.size W0 wr) (fun v _ => n - lenOf v)
  case atStart => exact ⟨0, maskN x, rfl, Nat.zero_le _, Hm.out, Hsub.out, by rw [set_nodes Hs.out]; exact hown0.out, hbb3⟩
  case round =>
    clear hown0 hbb3 hbw hsz
    obtain ⟨k, m, hit, hkm, hm, hsm, hown, hbl⟩ := hrel
    have Hit := Lib.hid hit; have Hmm := Lib.hid hm; have Hsm := Lib.hid hsm; clear hit hm hsm
    obtain ⟨VA, vc, rfl, hvr, hvn⟩ := hown.form
    have Hown := Lib.hid hown; have Hvn := Lib.hid hvn; clear hown hvn
    have d0 := (hbl.cell (lt_of_cell c0)).trans c0
    have d1 := (hbl.cell (lt_of_cell c1)).trans c1
    have hl1 : (nodesB n m.testBit).length ≤ n := nodesB_length _ _
    have hl2 : (nodesB n (stepN n l m).testBit).length ≤ n := nodesB_length _ _
    obtain ⟨hle, heq⟩ := nodes_len Hmm.out (stepN_lt n l m) Hsm.out
    have Heq := Lib.hid heq; clear heq
    go_wp2_with fail
    have H5 := r13Step_any A n l c VA (nodesB n m.testBit) vc wr (hr0.below hbl) hn hlen Hgl.out hvr (by omega)
    rw [stepR_nodes hv Hmm.out] at H5
    refine H5.mono ?_
    clear H5
    rintro e w5 hh
    obtain ⟨A5, c5, rfl, ho5, hr5, hn5, hb5⟩ := RetI.base hh (leB hb0 hbl)
    clear hh
    by_cases he : (nodesB n m.testBit).length = (nodesB n (stepN n l m).testBit).length
    · have hd : (((nodesB n (stepN n l m).testBit).length : Int) == ((nodesB n m.testBit).length : Int)) = true := by rw [beq_iff_eq]; omega
      have hfix := Heq.out he
      have Hfix := Lib.hid hfix; clear hfix he
      have ho6 := Hown.out.below hb5
      have hvr6 := hvr.below hb5
      have Ho6 := Lib.hid ho6; clear ho6 ho5
      go_wp2_with fail
      go_ret2
      have hg : growN n l (maskN x) = m := by
        unfold growN
        have h2 := Nat.lt_two_pow_self (n := n)
        rw [itN_at (k := k) (by rw [Hit.out]; exact Hfix.out.symm) (by omega), Hit.out]
      simp only [growL, Hs.out, Hsd.out, if_true]
      rw [hg]
      exact ⟨VA, vc, rfl, Ho6.out, hvr6, Hvn.out, endB hb0 (endB hbl hb5)⟩
    · have hd : (((nodesB n (stepN n l m).testBit).length : Int) == ((nodesB n m.testBit).length : Int)) = false := by rw [beq_eq_false_iff_ne]; omega
      have He := Lib.hid he; clear he
      have Ho5 := Lib.hid ho5; clear ho5
      go_wp2_with fail
      have hne := He.out
      go_roundw
      case rel => exact ⟨k + 1, stepN n l m, by show stepN n l (itN _ k (maskN x)) = _; rw [Hit.out], by omega, stepN_lt n l m, stepN_mono hv Hsm.out, Ho5.out, endB hbl hb5⟩
      case measure => simp only [lenOf]; omega
end Go.Proofs.YtplbnhfkndegaaaDoor
