/- graph.Induced: plain words and the walk. -/
import Derived.Test.YtkflanjlnbdkmaaDoorLb
namespace Go.Proofs.YtkflanjlnbdkmaaDoor
open Go.ChangeShapes Go.WideShapes Go.ChangeAt Go.RowKit

/-- the place of a number in a list, or -1 -/
def ixL (nl : List Int) (v : Int) : Int := idxP (fun y => v == y) 0 nl
def indF (nl : List Int) (p : Int × Int) : Option (Int × Int) := if 0 ≤ ixL nl p.1 ∧ 0 ≤ ixL nl p.2 then some (ixL nl p.1, ixL nl p.2) else none
/-- the pairs of the part with the nodes of a list -/
def indP (nl : List Int) (l : List (Int × Int)) : List (Int × Int) := l.filterMap (indF nl)
theorem indP_hit {nl : List Int} {l : List (Int × Int)} {k : Nat} (h : k < l.length) (h1 : 0 ≤ ixL nl l[k].1) (h2 : 0 ≤ ixL nl l[k].2) : indP nl (l.take (k + 1)) = indP nl (l.take k) ++ [(ixL nl l[k].1, ixL nl l[k].2)] := by
  unfold indP
  rw [List.take_succ_eq_append_getElem h, List.filterMap_append]
  simp [indF, h1, h2]
theorem indP_miss {nl : List Int} {l : List (Int × Int)} {k : Nat} (h : k < l.length) (h1 : ¬ (0 ≤ ixL nl l[k].1 ∧ 0 ≤ ixL nl l[k].2)) : indP nl (l.take (k + 1)) = indP nl (l.take k) := by
  unfold indP
  rw [List.take_succ_eq_append_getElem h, List.filterMap_append]
  have : indF nl l[k] = none := by unfold indF; rw [if_neg h1]
  simp [this]
theorem indP_len (nl : List Int) (l : List (Int × Int)) : (indP nl l).length ≤ l.length := List.length_filterMap_le _ _

set_option maxRecDepth 100000 in
set_option maxHeartbeats 8000000 in
theorem gInduced_any (A : Option Addr) (N : Int) (l : List (Int × Int)) (c : Nat) (X : Option Addr) (s : List Int) (cs : Nat) (w : World) (hr : RP w A l) (hlen : l.length ≤ 100000) (hx : RI w X s) (hsl : s.length ≤ 100000) :
    Calls Tryd.prog 18 #[.agg #[.int .i64 N, .slice A l.length c], .slice X s.length cs] w (RetGN ((nodesB (nGn N l).toNat fun i => inB s i).length : Nat) (indP (nodesB (nGn N l).toNat fun i => inB s i) (nGl N l)) w) := by
  go_enter Tryd.func18, Tryd.ntmps18
  go_wp2_with fail
  obtain ⟨W0, hW, k0, k1, hb0, hlt0⟩ := boxed2 w 24 24 (.int .i64 N) (.slice A l.length c) (.int .i64 0) (.slice none 0 0)
  rw [hW]
  have hr0 := hr.below hb0
  have hltA : ∀ b o, A = some ⟨b, o, none⟩ → 0 < (nGl N l).length → b < w.heap.size := fun b o hA hl => hr.lt hA (by unfold nGl at hl; split at hl <;> simp_all)
  clear hW hr
  refine (proper_any _ _ _ _ _ hr0 hlen).mono ?_
  rintro e w1 ⟨A', c', rfl, hr1, hAA, hb⟩
  have hlen' := nGl_len (N := N) hlen
  have j0 := k0.below hb k0.lt
  have j1 := k1.below hb k1.lt
  obtain ⟨a0, a1, a2, a3⟩ := j0.two
  have hbb := endB hb0 hb
  obtain ⟨n, hn, hv⟩ := vld_proper N l hlen
  have Hn := Lib.hid (show (nGn N l).toNat = n by rw [hn]; rfl)
  rw [hn]
  clear hn k0 k1
  generalize hgl : nGl N l = l' at *
  have Hgl := Lib.hid hgl
  clear hgl
  have hltA' : ∀ b o, A' = some ⟨b, o, none⟩ → 0 < l'.length → b < w.heap.size := fun b o hA hl => by
    rcases hAA with h | h
    · rw [h] at hA; exact hltA b o hA hl
    · subst h; simp at hl
  have k2 : Blk _ w.heap.size 24 #[.int .i64 (n : Int), .slice A' l'.length c'] := (j0.set_ 0 (.int .i64 (n : Int))).set_ 1 (.slice A' l'.length c')
  have k3 : Blk ((w1.setCell ⟨w.heap.size, 0, none⟩ (.int .i64 (n : Int))).setCell ⟨w.heap.size, 1, none⟩ (.slice A' l'.length c')) (w.heap.size + 1) 24 #[.int .i64 0, .slice none 0 0] := (j1.far (p := ⟨w.heap.size, 0, none⟩) (by simp) _).far (p := ⟨w.heap.size, 1, none⟩) (by simp) _
  have hr2 := hr1.far2 (g := w.heap.size) (fun b o hA hl => Nat.ne_of_lt (hltA' b o hA hl)) (.int .i64 (n : Int)) (.slice A' l'.length c')
  have hE : Below w.heap.size w ((w1.setCell ⟨w.heap.size, 0, none⟩ (.int .i64 (n : Int))).setCell ⟨w.heap.size, 1, none⟩ (.slice A' l'.length c')) := (hbb.setCell (p := ⟨w.heap.size, 0, none⟩) (Nat.le_refl _) _).setCell (p := ⟨w.heap.size, 1, none⟩) (Nat.le_refl _) _
  obtain ⟨W2, hW2⟩ : ∃ W2, (w1.setCell ⟨w.heap.size, 0, none⟩ (.int .i64 (n : Int))).setCell ⟨w.heap.size, 1, none⟩ (.slice A' l'.length c') = W2 := ⟨_, rfl⟩
  rw [hW2] at k2 k3 hr2 hE
  obtain ⟨d0, d1, _, _⟩ := k2.two
  have hGw : w.heap.size + 1 < W2.heap.size := k3.lt
  have hGw' : w.heap.size < W2.heap.size := k2.lt
  have hn40 := hv.1.1
  go_wp2_with fail
  try rw [hW2]
  clear hW2 a0 a1 a2 a3 hr1 hAA hltA j0 j1 hb0 hb hbb hr0
  go_loopw [5, 16] (fun v i wr => ∃ k : Nat, k ≤ n ∧ i = .int .i64 k ∧ OwnI wr W2.heap.size v (nodesB k fun i => inB s i) ∧ Below W2.heap.size W2 wr) (fun _ i _ => n - (intOf i).toNat)
  case atStart => exact ⟨0, Nat.zero_le _, rfl, OwnI.nil _ _, Below.refl _ _⟩
  case round =>
    obtain ⟨k, hk, rfl, hown, hbl⟩ := hrel
    have Hown := Lib.hid hown; clear hown
    have hE2 := hE.trans (hbl.mono hE.size)
    by_cases hkn : k < n
    case pos =>
      have hkn' : (k : Int) < (n : Int) := by omega
      have hkl : (nodesB k fun i => inB s i).length ≤ 1000000 := by have := nodesB_length k fun i => inB s i; omega
      go_wp2_with fail
      refine (containsI_any X s cs k wr (hx.below hE2) hsl).mono ?_
      rintro e w3 ⟨rfl, rfl⟩
      cases hb : inB s k
      · have Hb := Lib.hid hb; clear hb
        go_wp2_with fail
        go_roundw
        case rel => exact ⟨k + 1, by omega, by go_num, by rw [nodesB_succ, if_neg (by rw [Hb.out]; simp), List.append_nil]; exact Hown.out, hbl⟩
        case measure => simp [intOf]; omega
      · have Hb := Lib.hid hb; clear hb
        go_wp2_with (at_builtin; refine wpList_appI (by rfl) _ _ (by rfl) wr W2.heap.size _ _ (k : Int) Hown.out (by rfl) (by rfl) hkl hbl.size ?_; intro v' w3 hown' hb3 _)
        go_roundw
        case rel => exact ⟨k + 1, by omega, by go_num, by rw [nodesB_succ, if_pos Hb.out]; exact hown', hbl.trans hb3⟩
        case measure => simp [intOf]; omega
    case neg =>
    obtain rfl : k = n := by omega
    obtain ⟨AN, cN, rfl, hnr, _⟩ := Hown.out.form
    have k2w := k2.below hbl k2.lt
    have k3w := k3.below hbl k3.lt
    have hrw := hr2.below hbl
    have hnl : (nodesB k fun i => inB s i).length ≤ 40 := by have := nodesB_length k fun i => inB s i; omega
    obtain ⟨nl, hnl0⟩ : ∃ nl, (nodesB k fun i => inB s i) = nl := ⟨_, rfl⟩
    have Hnl0 := Lib.hid (show (nodesB (nGn N l).toNat fun i => inB s i) = nl by rw [Hn.out]; exact hnl0)
    rw [hnl0] at hnr hnl ⊢
    clear hnl0
    obtain ⟨d0', d1', _, _⟩ := k2w.two
    have Hnl := Lib.hid hnl
    clear d0 d1 k2 k3 hr2 Hown hnl
    have hlw : w.heap.size < wr.heap.size := Nat.lt_of_lt_of_le hGw' hbl.size
    go_wp2_with fail
    obtain ⟨W3, hW3, kg, hb3, hs3⟩ : ∃ W3, wr.alloc (.cells #[.int .i64 (nl.length : Int), .slice none 0 0] 24) = W3 ∧ Blk W3 wr.heap.size 24 #[.int .i64 (nl.length : Int), .slice none 0 0] ∧ Below wr.heap.size wr W3 ∧ W3.heap.size = wr.heap.size + 1 := ⟨_, rfl, Blk.new _ _ _, newB _ _, by simp⟩
    rw [hW3]
    have k2' := k2w.below hb3 k2w.lt
    have k3' := k3w.below hb3 k3w.lt
    have hr3 := hrw.below hb3
    have hnr3 := hnr.below hb3
    have hneN : ∀ b o, AN = some ⟨b, o, none⟩ → nl ≠ [] → b < wr.heap.size := fun b o h hne => by
      obtain ⟨b', o', hA, hc⟩ := hnr 0 (List.length_pos_iff.2 hne)
      rw [h] at hA; injection hA with hA; injection hA with hA; subst hA
      exact lt_of_cell hc
    have hE3 := hE2.trans (hb3.mono hE2.size)
    have hGG : w.heap.size + 1 < wr.heap.size := Nat.lt_of_lt_of_le hGw hbl.size
    clear hW3 d0' d1' k2w k3w hrw hnr hb3 hbl hE2 hE
    have hlenl := hv.1.2.1
    generalize wr.heap.size = G at *
    obtain ⟨B, hB⟩ : ∃ B, G + 1 = B := ⟨_, rfl⟩
    rw [hB] at hs3
    have hGB : G < B := by omega
    clear hv
    go_loopw [33] (fun i wr => ∃ (k : Nat) (v : Value), k ≤ l'.length ∧ i = .int .i64 k ∧ OwnP wr B v (indP nl (l'.take k)) ∧ Blk wr G 24 #[.int .i64 (nl.length : Int), v] ∧ Blk wr (w.heap.size + 1) 24 #[.int .i64 0, .slice none 0 0] ∧ B ≤ wr.heap.size ∧ Below w.heap.size w wr ∧ RP wr A' l' ∧ RI wr AN nl) (fun i _ => l'.length - (intOf i).toNat)
    case atStart => exact ⟨0, _, Nat.zero_le _, rfl, OwnP.nil _ _, kg, k3', by omega, hE3, hr3, hnr3⟩
    case round =>
      clear kg k2' k3' hE3 hr3 hnr3
      obtain ⟨q, v, hq, rfl, hown, kg, kr, hBw, hbw, hrp, hnr⟩ := hrel
      obtain ⟨f0, f1, f2, f3⟩ := kg.two
      obtain ⟨AV, cV, rfl, hrv, hnv⟩ := hown.form
      have hil := indP_len nl (l'.take q)
      have htl := List.length_take_le q l'
      have Hown := Lib.hid hown
      clear hown hnv
      by_cases hlt : q < l'.length
      case neg =>
        have hfull : l'.take q = l' := List.take_of_length_le (by omega)
        rw [hfull] at kg f1 hrv Hown
        have hlocV : ∀ b o, AV = some ⟨b, o, none⟩ → B ≤ b := fun b o h => by subst h; exact (World.ownsRow.lt Hown.out b rfl).1
        obtain ⟨r0, r1, r2, r3⟩ := kr.two
        have H1 := Lib.hid ((kr.set_ 0 (.int .i64 (nl.length : Int))).set_ 1 (.slice AV (indP nl l').length cV))
        have H2 := Lib.hid ((hbw.setCell (p := ⟨w.heap.size + 1, 0, none⟩) (Nat.le_succ _) (.int .i64 (nl.length : Int))).setCell (p := ⟨w.heap.size + 1, 1, none⟩) (Nat.le_succ _) (.slice AV (indP nl l').length cV))
        have H3 := Lib.hid (hrv.far2 (g := w.heap.size + 1) (fun b o h _ => by have := hlocV b o h; omega) (.int .i64 (nl.length : Int)) (.slice AV (indP nl l').length cV))
        clear hfull hil Hown
        go_wp2_with fail
        have E1 := H1.out
        obtain ⟨e0, e1, _, _⟩ := Blk.two E1
        refine bodyPost_ret (v := .agg #[.int .i64 (nl.length : Int), .slice AV (indP nl l').length cV]) (by simp [results, Tryd.results18, go_sem] at e0 e1 ⊢; simp [e0, e1]) rfl ?_
        rw [Hnl0.out, Hgl.out]
        exact ⟨AV, cV, rfl, H3.out, fun b o h => by have := hlocV b o h; omega, H2.out⟩
      case pos =>
      obtain ⟨b, o, rfl, hc, hd⟩ := hrp.at_ hlt
      obtain ⟨W4, hW4, e0, e1, hb4, hlt4⟩ := boxed wr 43 (.int .i64 l'[q].1) (.int .i64 l'[q].2)
      have hnr4 := hnr.below hb4
      have hi6 : (indP nl (l'.take q)).length ≤ 1000000 := by omega
      have hh := fun h1 h2 => indP_hit (nl := nl) hlt h1 h2
      have hm := fun h1 => indP_miss (nl := nl) hlt h1
      have Hh := Lib.hid hh; have Hm := Lib.hid hm
      have C1 : ∀ W, SB W4 W → Calls Tryd.prog 63 #[.slice AN nl.length cN, .int .i64 l'[q].1] W (RetB (.int .i64 (ixL nl l'[q].1)) W) := fun W h => (indexI_any AN nl cN l'[q].1 W (hnr4.below h) (by have := Hnl.out; omega)).mono fun e w' h => h.quiet.below
      have C2 : ∀ W, SB W4 W → Calls Tryd.prog 63 #[.slice AN nl.length cN, .int .i64 l'[q].2] W (RetB (.int .i64 (ixL nl l'[q].2)) W) := fun W h => (indexI_any AN nl cN l'[q].2 W (hnr4.below h) (by have := Hnl.out; omega)).mono fun e w' h => h.quiet.below
      have HC1 := Lib.hid C1; have HC2 := Lib.hid C2
      clear hh hm C1 C2 hil
      generalize ixL nl l'[q].1 = x1 at *
      generalize ixL nl l'[q].2 = x2 at *
      go_upto_region 13 with fail
      try rw [hW4]
      clear hW4
      refine wp_region_textB [3, 7] (SB W4) (RIs []) (by kernel_rfl) (by kernel_rfl) (by kernel_rfl) (Below.refl _ _).drew (RIs.nil _) ?_
      repeat (first
        | (refine TxtBL.skip (by rfl) ?_; simp only [Act.put, List.setIfInBounds_toArray, List.set_cons_zero, List.set_cons_succ])
        | (refine TxtBL.take (by rfl) (by rfl) ?_; apply Exists.intro; refine ⟨fun w1 hS1 => ?_, ?_⟩; (focus ((have g0 := (hS1.cell (lt_of_cell e0)).trans e0); (have g1 := (hS1.cell (lt_of_cell e1)).trans e1); go_simp; with_reducible rfl)); simp only [Act.put, List.setIfInBounds_toArray, List.set_cons_zero, List.set_cons_succ])
        | (refine TxtBL.takeE (by rfl) (by rfl) ?_; apply Exists.intro; refine ⟨fun w1 hS1 => ?_, ?_⟩; (focus ((have g0 := (hS1.cell (lt_of_cell e0)).trans e0); (have g1 := (hS1.cell (lt_of_cell e1)).trans e1); go_simp; with_reducible rfl)); simp only [Act.put, List.setIfInBounds_toArray, List.set_cons_zero, List.set_cons_succ]))
      refine TxtBL.callB (by rfl) (by rfl) ?_
      apply Exists.intro; apply Exists.intro
      refine ⟨fun w1 hS1 => ?_, ?_⟩
      focus (go_simp; first | with_reducible rfl | exact ⟨rfl, rfl⟩)
      refine ⟨.int .i64 x1, fun w1 hS1 hJ1 => HC1.out w1 hS1, ?_⟩
      simp only [Act.put, List.setIfInBounds_toArray, List.set_cons_zero, List.set_cons_succ]
      repeat (first
        | (refine TxtBL.skip (by rfl) ?_; simp only [Act.put, List.setIfInBounds_toArray, List.set_cons_zero, List.set_cons_succ])
        | (refine TxtBL.take (by rfl) (by rfl) ?_; apply Exists.intro; refine ⟨fun w1 hS1 => ?_, ?_⟩; (focus ((have g0 := (hS1.cell (lt_of_cell e0)).trans e0); (have g1 := (hS1.cell (lt_of_cell e1)).trans e1); go_simp; with_reducible rfl)); simp only [Act.put, List.setIfInBounds_toArray, List.set_cons_zero, List.set_cons_succ])
        | (refine TxtBL.takeE (by rfl) (by rfl) ?_; apply Exists.intro; refine ⟨fun w1 hS1 => ?_, ?_⟩; (focus ((have g0 := (hS1.cell (lt_of_cell e0)).trans e0); (have g1 := (hS1.cell (lt_of_cell e1)).trans e1); go_simp; with_reducible rfl)); simp only [Act.put, List.setIfInBounds_toArray, List.set_cons_zero, List.set_cons_succ]))
      refine TxtBL.callB (by rfl) (by rfl) ?_
      apply Exists.intro; apply Exists.intro
      refine ⟨fun w1 hS1 => ?_, ?_⟩
      focus (go_simp; first | with_reducible rfl | exact ⟨rfl, rfl⟩)
      refine ⟨.int .i64 x2, fun w1 hS1 hJ1 => HC2.out w1 hS1, ?_⟩
      simp only [Act.put, List.setIfInBounds_toArray, List.set_cons_zero, List.set_cons_succ]
      repeat (first
        | (refine TxtBL.skip (by rfl) ?_; simp only [Act.put, List.setIfInBounds_toArray, List.set_cons_zero, List.set_cons_succ])
        | (refine TxtBL.take (by rfl) (by rfl) ?_; apply Exists.intro; refine ⟨fun w1 hS1 => ?_, ?_⟩; (focus (skip; go_simp; with_reducible rfl)); simp only [Act.put, List.setIfInBounds_toArray, List.set_cons_zero, List.set_cons_succ])
        | (refine TxtBL.takeE (by rfl) (by rfl) ?_; apply Exists.intro; refine ⟨fun w1 hS1 => ?_, ?_⟩; (focus (skip; go_simp; with_reducible rfl)); simp only [Act.put, List.setIfInBounds_toArray, List.set_cons_zero, List.set_cons_succ]))
      refine TxtBL.nil (fun W5 hS5 _ => ?_)
      have hb5 := endB hb4 hS5
      have kg5 := kg.below hb5 kg.lt; have kr5 := kr.below hb5 kr.lt
      have hB5 := Nat.le_trans hBw hb5.size
      have hbw5 := hbw.trans (hb5.mono hbw.size)
      have hrp5 := hrp.below hb5; have hnr5 := hnr.below hb5
      have Hown5 := Lib.hid (ownsRow_below Hown.out hb5 : OwnP W5 B _ _)
      obtain ⟨g0, g1, g2, g3⟩ := kg5.two
      clear hb4 hS5 hb5 kg kr hBw hbw hrp hnr f0 f1 f2 f3 e0 e1 hnr4 hc hd hrv
      by_cases h1 : 0 ≤ x1
      case neg =>
        have hmiss := Hm.out (fun h => h1 h.1)
        go_wp2_with fail
        go_roundw
        case rel => exact ⟨q + 1, _, by omega, by go_num, by rw [hmiss]; exact Hown5.out, kg5, kr5, hB5, hbw5, hrp5, hnr5⟩
        case measure => simp [intOf]; omega
      case pos =>
      by_cases h2 : 0 ≤ x2
      case neg =>
        have hmiss := Hm.out (fun h => h2 h.2)
        go_wp2_with fail
        go_roundw
        case rel => exact ⟨q + 1, _, by omega, by go_num, by rw [hmiss]; exact Hown5.out, kg5, kr5, hB5, hbw5, hrp5, hnr5⟩
        case measure => simp [intOf]; omega
      case pos =>
      have hhit := Hh.out h1 h2
      have Hhit := Lib.hid hhit
      clear hhit Hh Hm
      go_wp2_with (at_builtin; go_loud (refine wpList_appP2 (by rfl) _ _ (by rfl) W5 B _ _ x1 x2 Hown5.out (by rfl) (by rfl) (by omega) hi6 hB5 ?_); intro v' w6 hown6 hb6 hg6; (obtain ⟨A6, c6, rfl, _, _⟩ := OwnP.form hown6); have kg6 := kg5.append Hown5.out hg6 hGB; (obtain ⟨b0, b1, b2, b3⟩ := kg6.two); have Hown6 := Lib.hid hown6; clear hown6)
      have hown6 := Hown6.out
      have hl1 : (indP nl (l'.take q) ++ [(x1, x2)]).length = (indP nl (l'.take q)).length + 1 := by simp
      rw [hl1, ← Hhit.out] at hown6
      go_roundw
      case rel =>
        refine ⟨q + 1, .slice A6 ((indP nl (l'.take q)).length + 1) c6, by omega, by go_num, ownsRow_setCell_below hown6 (a := ⟨G, 1, none⟩) hGB _, ?_, (kr5.append Hown5.out hg6 (by omega)).far (p := ⟨G, 1, none⟩) (by show w.heap.size + 1 ≠ G; omega) _, by simp [World.setCell]; exact Nat.le_trans hB5 hb6.size, (hbw5.trans (hb6.mono (by omega))).setCell (p := ⟨G, 1, none⟩) (by show w.heap.size ≤ G; omega) _, ?_, ?_⟩
        · exact kg6.set_ 1 _
        · intro j hj
          obtain ⟨b', o', hA, hc', hd'⟩ := hrp5 j hj
          have hlt' := hltA' b' o' hA (by omega)
          have hne : ∀ q, (⟨b', q, none⟩ : Addr).block < B := fun q => by show b' < B; omega
          exact ⟨b', o', hA, by rw [World.cell?_setCell_other _ _ _ _ (fun e => by injection e; omega), hb6.cell (hne _)]; exact hc', by rw [World.cell?_setCell_other _ _ _ _ (fun e => by injection e; omega), hb6.cell (hne _)]; exact hd'⟩
        · intro j hj
          obtain ⟨b', o', hA, hc'⟩ := hnr5 j hj
          have hlt' := hneN b' o' hA (fun e => by subst e; simp at hj)
          have hne : ∀ q, (⟨b', q, none⟩ : Addr).block < B := fun q => by show b' < B; omega
          exact ⟨b', o', hA, by rw [World.cell?_setCell_other _ _ _ _ (fun e => by injection e; omega), hb6.cell (hne _)]; exact hc'⟩
      case measure => simp [intOf]; omega
end Go.Proofs.YtkflanjlnbdkmaaDoor
