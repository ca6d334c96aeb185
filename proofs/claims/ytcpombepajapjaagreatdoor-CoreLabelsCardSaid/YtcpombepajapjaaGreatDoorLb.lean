import Derived.Test.YtcpombepajapjaaGreatDoorPl11
import Derived.Test.YtcpombepajapjaaGreatDoorRev
import Derived.Test.YtcpombepajapjaaGreatDoorGnd
/- labelling: Valid, legal, Illegal, IsComplete. -/
namespace Go.Proofs.YtcpombepajapjaaGreatDoor
open Go.ChangeShapes Go.WideShapes Go.ChangeAt Go.RowKit

/-- the first place with a property, or -1 -/
def idxP (p : Int → Bool) : Nat → List Int → Int
  | _, [] => -1
  | k, x :: l => if p x then k else idxP p (k + 1) l
theorem idxP_hit {p : Int → Bool} {l : List Int} {k : Nat} (h : k < l.length) (hp : p l[k] = true) : idxP p k (l.drop k) = k := by rw [List.drop_eq_getElem_cons h, idxP, if_pos hp]
theorem idxP_miss {p : Int → Bool} {l : List Int} {k : Nat} (h : k < l.length) (hp : p l[k] = false) : idxP p k (l.drop k) = idxP p (k + 1) (l.drop (k + 1)) := by rw [List.drop_eq_getElem_cons h, idxP, if_neg (by rw [hp]; simp)]
theorem idxP_end {p : Int → Bool} {l : List Int} {k : Nat} (h : ¬ k < l.length) : idxP p k (l.drop k) = -1 := by rw [List.drop_of_length_le (by omega)]; rfl
theorem idxP_any (p : Int → Bool) : ∀ (l : List Int) (k : Nat), decide (0 ≤ idxP p k l) = l.any p
  | [], k => by simp [idxP]
  | x :: l, k => by
    rw [idxP, List.any_cons]
    by_cases h : p x = true
    · rw [if_pos h, h]; simp
    · rw [if_neg h, idxP_any p l (k + 1)]
      simp at h; simp [h]

theorem any_bad (l : List Int) : (l.any fun v => !okL v) = !(l.all okL) := by
  induction l with
  | nil => rfl
  | cons x l ih => rw [List.any_cons, List.all_cons, ih, Bool.not_and]

theorem cntL_take {l : List (Int × Int)} {x : List Int} {i : Nat} {v : Int} {s : Nat} (h : s < (attackersL l i).length) {a : Nat} (ha : (attackersL l i)[s] = (a : Int)) :
    (((attackersL l i).take (s + 1)).filter fun b => x.getD b.toNat 0 == v).length = (((attackersL l i).take s).filter fun b => x.getD b.toNat 0 == v).length + if x.getD a 0 = v then 1 else 0 := by
  rw [List.take_succ_eq_append_getElem h, List.filter_append, List.length_append, ha]
  congr 1
  by_cases e : x.getD a 0 = v
  · have q : (x.getD (a : Int).toNat 0 == v) = true := by rw [Int.toNat_natCast]; exact beq_iff_eq.2 e
    rw [if_pos e, List.filter_cons, if_pos q]; rfl
  · have q : (x.getD (a : Int).toNat 0 == v) = false := by rw [Int.toNat_natCast]; exact beq_eq_false_iff_ne.2 e
    rw [if_neg e, List.filter_cons, if_neg (by rw [q]; simp)]; rfl

end Go.Proofs.YtcpombepajapjaaGreatDoor

/- ref11: Valid, legal; Illegal and IsComplete of labelling and of ref11; ref11's With. -/
namespace Go.Proofs.YtcpombepajapjaaGreatDoor
open Go.ChangeShapes Go.WideShapes Go.ChangeAt Go.RowKit

theorem lab_bad {N : Int} {x : List Int} {k : Nat} (h : k < x.length) (hb : okL x[k] = false) : labB N x = false := by
  cases hl : labB N x
  · rfl
  · unfold labB at hl
    rw [Bool.and_eq_true, List.all_eq_true] at hl
    rw [hl.1 _ (List.getElem_mem h)] at hb; cases hb
theorem all_take {x : List Int} {k : Nat} (h : k < x.length) (ha : (x.take k).all okL = true) (hb : okL x[k] = true) : (x.take (k + 1)).all okL = true := by
  rw [List.take_succ_eq_append_getElem h, List.all_append, ha]; simp [hb]

set_option maxHeartbeats 400000 in
theorem r11Valid_any (G : Value) (N : Int) (A : Option Addr) (l : List Int) (c : Nat) (w : World) (hr : RI w A l) (hl : l.length ≤ 100000) :
    Calls Tryz.prog 95 #[.agg #[.int .i64 N, G], .slice A l.length c] w (RetB (.bool (labB N l)) w) := by
  go_enter Tryz.func95, Tryz.ntmps95
  go_wp2_with fail
  obtain ⟨W0, hW, c0, c1, hb0, hlt0⟩ := boxed w 24 (.int .i64 N) G
  rw [hW]
  have hr0 := hr.below hb0
  clear hW hr
  go_loop [5] (fun i => ∃ k : Nat, k ≤ l.length ∧ i = .int .i64 k ∧ (l.take k).all okL = true) (fun i => l.length - (intOf i).toNat)
  case atStart => exact ⟨0, Nat.zero_le _, rfl, rfl⟩
  case round =>
    obtain ⟨k, hk, rfl, hi⟩ := hrel
    have Hi := Lib.hid hi; clear hi
    by_cases hlt : k < l.length
    case neg =>
      have hall : l.all okL = true := by have := Hi.out; rw [List.take_of_length_le (by omega)] at this; exact this
      by_cases hN : (l.length : Int) = N
      · have H := Lib.hid (show labB N l = true by unfold labB; rw [hall]; simp [hN])
        have hd : ((l.length : Int) == N) = true := by simpa using hN
        clear hall hN
        go_wp2_with fail
        go_ret
        exact ⟨rb H.out.symm, hb0⟩
      · have H := Lib.hid (show labB N l = false by unfold labB; simp [hN])
        have hd : ((l.length : Int) == N) = false := by simpa using hN
        clear hall hN
        go_wp2_with fail
        go_ret
        exact ⟨rb H.out.symm, hb0⟩
    case pos =>
    obtain ⟨b, o, rfl, hc⟩ := hr0.at_ hlt
    by_cases h1 : l[k] < 1
    · have H := Lib.hid (lab_bad (N := N) hlt (by unfold okL; simp; omega))
      go_wp2_with fail
      go_ret
      exact ⟨rb H.out.symm, hb0⟩
    by_cases h3 : 3 < l[k]
    · have H := Lib.hid (lab_bad (N := N) hlt (by unfold okL; simp; omega))
      go_wp2_with fail
      go_ret
      exact ⟨rb H.out.symm, hb0⟩
    · have H := Lib.hid (all_take hlt Hi.out (okL_iff.2 (by omega)))
      go_wp2_with fail
      go_round
      case rel => exact ⟨k + 1, by omega, by go_num, H.out⟩
      case measure => simp [intOf]; omega

/-- how many of the first attackers have a label -/
def cT (l : List (Int × Int)) (x : List Int) (i s : Nat) (v : Int) : Nat := (((attackersL l i).take s).filter fun b => x.getD b.toNat 0 == v).length
theorem cT_le (l : List (Int × Int)) (x : List Int) (i s : Nat) (v : Int) : cT l x i s v ≤ l.length := by
  have h1 := List.length_filter_le (fun b => x.getD b.toNat 0 == v) ((attackersL l i).take s); have h2 := List.length_take_le' s (attackersL l i); have h3 := attackersL_len l i
  unfold cT; omega
theorem cT_end {l : List (Int × Int)} {x : List Int} {i s : Nat} (h : ¬ s < (attackersL l i).length) (v : Int) : cT l x i s v = cntL l x i v := by unfold cT cntL; rw [List.take_of_length_le (by omega)]

set_option maxRecDepth 100000 in
set_option maxHeartbeats 4000000 in
theorem r11legal_any (A : Option Addr) (n : Nat) (l : List (Int × Int)) (c : Nat) (B : Option Addr) (x : List Int) (cx : Nat) (i : Nat) (w : World) (hr : RP w A l) (hv : Vld n l) (hx : RI w B x) (hlx : labB n x = true) (hi : i < n) (_hT : Tab w) :
    Calls Tryz.prog 96 #[.agg #[.int .i64 (n : Int), .slice A l.length c], .slice B x.length cx, .int .i64 (i : Int)] w (RetB (.bool (legB l x i)) w) := by
  have hxl := (labB_iff.1 hlx).1
  have hal := attackersL_len l i
  have hlen := hv.1.2.1
  have hgl : nGl n l = l := by unfold nGl; rw [hv.valE]; rfl
  have hatn : ∀ y ∈ attackersL l i, ∃ a : Nat, y = a ∧ a < n := fun y hy => by obtain ⟨a, h1, h2, _⟩ := attacker_nat hv.1 hy; exact ⟨a, h1, h2⟩
  have Hatn := Lib.hid hatn; have Hlx := Lib.hid hlx; have Hxl := Lib.hid hxl; have Hgl := Lib.hid hgl
  clear hatn hlx hxl hgl
  go_enter Tryz.func96, Tryz.ntmps96
  go_wp2_with fail
  obtain ⟨W0, hW, c0, c1, hb0, hlt0⟩ := boxed w 24 (.int .i64 n) (.slice A l.length c)
  rw [hW]
  refine (r10Attackers_any A n l c i W0 (hr.below hb0) hlen).mono ?_
  rintro e w1 ⟨A1, c1', rfl, _, hr1, _, hb1⟩
  rw [Hgl.out] at hr1 ⊢
  have hB1 := endB hb0 hb1
  have hx1 := hx.below hB1
  clear hW c0 c1 hb1 hb0 hx hr
  go_wp2_with fail
  go_loop [7, 8, 10] (fun o q j => ∃ s : Nat, s ≤ (attackersL l i).length ∧ o = .int .i64 (cT l x i s 2 : Nat) ∧ q = .int .i64 (cT l x i s 1 : Nat) ∧ j = .int .i64 s) (fun _ _ j => (attackersL l i).length - (intOf j).toNat)
  case atStart => exact ⟨0, Nat.zero_le _, rfl, rfl, rfl⟩
  case round =>
    obtain ⟨s, hs, rfl, rfl, rfl⟩ := hrel
    by_cases hsl : s < (attackersL l i).length
    case pos =>
      obtain ⟨b, o, rfl, hc⟩ := hr1.at_ hsl
      obtain ⟨a, ha, han⟩ := Hatn.out _ (List.getElem_mem hsl)
      rw [ha] at hc
      obtain ⟨bx, ox, hBx, hcx⟩ := hx1 a (by rw [Hxl.out]; exact han)
      subst hBx
      have hrng := labB_at Hlx.out han
      have hax : a < x.length := by rw [Hxl.out]; exact han
      have hq1 := cT_le l x i s 1
      have hq2 := cT_le l x i s 2
      have k1 := Lib.hid (show cT l x i (s + 1) 1 = cT l x i s 1 + _ from cntL_take (x := x) (v := 1) hsl ha)
      have k2 := Lib.hid (show cT l x i (s + 1) 2 = cT l x i s 2 + _ from cntL_take (x := x) (v := 2) hsl ha)
      clear ha
      by_cases e1 : x.getD a 0 = 1
      · rw [e1] at hcx
        have E1 := Lib.hid e1; clear e1
        go_wp2_with fail
        go_round
        case rel => exact ⟨s + 1, by omega, by rw [k2.out, E1.out]; rfl, by rw [k1.out, E1.out]; go_num, by go_num⟩
        case measure => simp [intOf]; omega
      by_cases e2 : x.getD a 0 = 2
      · rw [e2] at hcx
        have E1 := Lib.hid e1; have E2 := Lib.hid e2; clear e1 e2
        go_wp2_with fail
        go_round
        case rel => exact ⟨s + 1, by omega, by rw [k2.out, E2.out]; go_num, by rw [k1.out, E2.out]; rfl, by go_num⟩
        case measure => simp [intOf]; omega
      · have e3 : x.getD a 0 = 3 := by omega
        rw [e3] at hcx
        clear e3
        have E1 := Lib.hid e1; have E2 := Lib.hid e2; clear e1 e2
        go_wp2_with fail
        go_round
        case rel => exact ⟨s + 1, by omega, by rw [k2.out, if_neg E2.out]; rfl, by rw [k1.out, if_neg E1.out]; rfl, by go_num⟩
        case measure => simp [intOf]; omega
    case neg =>
    rw [cT_end hsl 1, cT_end hsl 2]
    obtain ⟨bx, ox, hBx, hcx⟩ := hx1 i (by rw [Hxl.out]; exact hi)
    subst hBx
    have hix : i < x.length := by rw [Hxl.out]; exact hi
    have hrng := labB_at Hlx.out hi
    by_cases e1 : x.getD i 0 = 1
    · rw [e1] at hcx
      by_cases t : cntL l x i 2 = (attackersL l i).length
      · have hd : ((cntL l x i 2 : Int) == ((attackersL l i).length : Int)) = true := by simp [t]
        have H := Lib.hid (show legB l x i = true by unfold legB; rw [if_pos e1, decide_eq_true_iff]; exact t)
        clear e1 t
        go_wp2_with fail
        go_ret
        exact ⟨rb H.out.symm, hB1⟩
      · have hd : ((cntL l x i 2 : Int) == ((attackersL l i).length : Int)) = false := by simp; omega
        have H := Lib.hid (show legB l x i = false by unfold legB; rw [if_pos e1, decide_eq_false_iff_not]; exact t)
        clear e1 t
        go_wp2_with fail
        go_ret
        exact ⟨rb H.out.symm, hB1⟩
    · have d1 : (x.getD i 0 == 1) = false := by simpa using e1
      by_cases e2 : x.getD i 0 = 2
      · rw [e2] at hcx
        have H := Lib.hid (show legB l x i = decide (0 < cntL l x i 1) by unfold legB; rw [if_neg e1, if_pos e2])
        by_cases t : 0 < cntL l x i 1
        · clear e1 e2 d1
          go_wp2_with fail
          go_ret
          exact ⟨rb (by rw [H.out]; simp [t]), hB1⟩
        · clear e1 e2 d1
          go_wp2_with fail
          go_ret
          exact ⟨rb (by rw [H.out]; simp [t]), hB1⟩
      · have e3 : x.getD i 0 = 3 := by omega
        rw [e3] at hcx
        have Hl := Lib.hid (show legB l x i = (decide (cntL l x i 2 < (attackersL l i).length) && decide (cntL l x i 1 = 0)) by unfold legB; rw [if_neg e1, if_neg e2])
        clear e1 e2 e3 d1
        by_cases t : cntL l x i 2 < (attackersL l i).length
        · by_cases u : cntL l x i 1 = 0
          · have hd2 : ((cntL l x i 1 : Int) == 0) = true := by simp; omega
            have H := Lib.hid (show legB l x i = true by rw [Hl.out]; simp [t, u])
            clear u
            go_wp2_with fail
            go_ret
            exact ⟨rb H.out.symm, hB1⟩
          · have hd2 : ((cntL l x i 1 : Int) == 0) = false := by simp; omega
            have H := Lib.hid (show legB l x i = false by rw [Hl.out]; simp [u])
            clear u
            go_wp2_with fail
            go_ret
            exact ⟨rb H.out.symm, hB1⟩
        · have H := Lib.hid (show legB l x i = false by rw [Hl.out]; simp [t])
          by_cases u : cntL l x i 1 = 0
          · have hd2 : ((cntL l x i 1 : Int) == 0) = true := by simp; omega
            clear u
            go_wp2_with fail
            go_ret
            exact ⟨rb H.out.symm, hB1⟩
          · have hd2 : ((cntL l x i 1 : Int) == 0) = false := by simp; omega
            clear u
            go_wp2_with fail
            go_ret
            exact ⟨rb H.out.symm, hB1⟩
end Go.Proofs.YtcpombepajapjaaGreatDoor

/- Illegal and IsComplete of labelling and of ref11; ref11's With. -/
namespace Go.Proofs.YtcpombepajapjaaGreatDoor
open Go.ChangeShapes Go.WideShapes Go.ChangeAt Go.RowKit

set_option maxRecDepth 100000 in
set_option maxHeartbeats 1000000 in
theorem r11Illegal_any (A : Option Addr) (n : Nat) (l : List (Int × Int)) (c : Nat) (B : Option Addr) (x : List Int) (cx : Nat) (w : World) (hr : RP w A l) (hv : Vld n l) (hx : RI w B x) (hxl : x.length ≤ 100000) (hT : Tab w) :
    Calls Tryz.prog 86 #[.agg #[.int .i64 (n : Int), .slice A l.length c], .slice B x.length cx] w (RetI (illL n l x) w) := by
  have hn := hv.1.1
  go_enter Tryz.func86, Tryz.ntmps86
  go_wp2_with fail
  obtain ⟨W0, hW, c0, c1, hb0, hlt0⟩ := boxed w 24 (.int .i64 n) (.slice A l.length c)
  rw [hW]
  have hx0 := hx.below hb0
  clear hW
  refine (r11Valid_any _ n B x cx W0 hx0 hxl).mono ?_
  rintro e w1 ⟨rfl, hb1⟩
  have hB1 := endB hb0 hb1
  have hr1 := hr.below hB1; have hx1 := hx.below hB1; have hT1 := hT.below hB1
  have e0 := (hb1.cell (lt_of_cell c0)).trans c0
  have e1 := (hb1.cell (lt_of_cell c1)).trans c1
  clear hr hx hx0 hT hb0 hb1 c0 c1
  cases hlx : labB n x
  · have H := Lib.hid (show illL n l x = [] by unfold illL; rw [hlx]; rfl)
    clear hlx
    go_wp2_with fail
    go_ret
    rw [H.out]; exact RetI.mk (v := .slice none 0 0) (OwnI.nil _ _) hB1
  · have H := Lib.hid (show illL n l x = nodesB n fun i => !legB l x i by unfold illL; rw [if_pos hlx])
    have Hlx := Lib.hid hlx
    have Hxl := Lib.hid (labB_iff.1 hlx).1
    clear hlx
    go_wp2_with fail
    go_loopw [5, 6] (fun v i wr => ∃ k : Nat, k ≤ n ∧ i = .int .i64 k ∧ OwnI wr w1.heap.size v (nodesB k fun i => !legB l x i) ∧ Below w1.heap.size w1 wr) (fun _ i _ => n - (intOf i).toNat)
    case atStart => exact ⟨0, Nat.zero_le _, rfl, OwnI.nil _ _, Below.refl _ _⟩
    case round =>
      obtain ⟨k, hk, rfl, hown, hbl⟩ := hrel
      have Hown := Lib.hid hown; clear hown
      have d0 := (hbl.cell (lt_of_cell e0)).trans e0
      have d1 := (hbl.cell (lt_of_cell e1)).trans e1
      by_cases hlt : k < n
      case neg =>
        have hlx : ¬ k < x.length := by rw [Hxl.out]; exact hlt
        have hlt' : ¬ (k : Int) < (n : Int) := by omega
        go_wp2_with fail
        go_ret
        obtain rfl : k = n := by omega
        rw [H.out]
        exact RetI.mk (OwnI.mono Hown.out hB1.size) (endB hB1 hbl)
      case pos =>
      have hlx : k < x.length := by rw [Hxl.out]; exact hlt
      have hlt' : (k : Int) < (n : Int) := by omega
      go_wp2_with fail
      refine (r11legal_any A n l c B x cx k wr (hr1.below hbl) hv (hx1.below hbl) Hlx.out hlt (hT1.below hbl)).mono ?_
      rintro e w2 ⟨rfl, hb2⟩
      have hbb := hbl.trans (hb2.mono hbl.size)
      have ho2 := Lib.hid (OwnI.below Hown.out hb2)
      have hkl : (nodesB k fun i => !legB l x i).length ≤ 1000000 := by have := nodesB_length k fun i => !legB l x i; omega
      cases hd : legB l x k
      · have Hd := Lib.hid hd; clear hd
        go_wp2_with (at_builtin; refine wpList_appI (by rfl) _ _ (by rfl) w2 w1.heap.size _ _ (k : Int) ho2.out (by rfl) (by rfl) hkl hbb.size ?_; intro v' w3 hown' hb3 _)
        go_roundw
        case rel => exact ⟨k + 1, by omega, by go_num, by rw [nodesB_succ, if_pos (by rw [Hd.out]; rfl)]; exact hown', hbb.trans hb3⟩
        case measure => simp [intOf]; omega
      · have Hd := Lib.hid hd; clear hd
        go_wp2_with fail
        go_roundw
        case rel => exact ⟨k + 1, by omega, by go_num, by rw [nodesB_succ, if_neg (by rw [Hd.out]; simp), List.append_nil]; exact ho2.out, hbb⟩
        case measure => simp [intOf]; omega

set_option maxHeartbeats 1000000 in
theorem r11With_any (A : Option Addr) (l : List Int) (c : Nat) (x : Int) (w : World) (hr : RI w A l) (hl : l.length ≤ 100000) :
    Calls Tryz.prog 36 #[.slice A l.length c, .int .i64 x] w (RetI (withL l x) w) := by
  go_enter Tryz.func36, Tryz.ntmps36
  go_wp2_with fail
  go_loopw [5, 6] (fun v i wr => ∃ k : Nat, k ≤ l.length ∧ i = .int .i64 k ∧ OwnI wr w.heap.size v (nodesB k fun i => l.getD i 0 == x) ∧ Below w.heap.size w wr) (fun _ i _ => l.length - (intOf i).toNat)
  case atStart => exact ⟨0, Nat.zero_le _, rfl, OwnI.nil _ _, Below.refl _ _⟩
  case round =>
    obtain ⟨k, hk, rfl, hown, hbl⟩ := hrel
    have Hown := Lib.hid hown; clear hown
    by_cases hlt : k < l.length
    case neg =>
      obtain rfl : k = l.length := by omega
      go_wp2_with fail
      go_ret
      exact RetI.mk Hown.out hbl
    case pos =>
    obtain ⟨b, o, rfl, hc⟩ := (hr.below hbl).at_ hlt
    have hg : l.getD k 0 = l[k] := by simp [List.getD, hlt]
    have hkl : (nodesB k fun i => l.getD i 0 == x).length ≤ 1000000 := by have := nodesB_length k (fun i => l.getD i 0 == x); omega
    have Hs := Lib.hid (withB_congr (l := l) (x := x) (k := k))
    have Hg := Lib.hid hg; clear hg
    by_cases hx : l[k] = x
    · have hd : (l[k] == x) = true := by simpa using hx
      have Hd := Lib.hid hd
      clear hx
      go_wp2_with (at_builtin; refine wpList_appI (by rfl) _ _ (by rfl) wr w.heap.size _ _ (k : Int) Hown.out (by rfl) (by rfl) hkl hbl.size ?_; intro v' w3 hown' hb3 _)
      go_roundw
      case rel => exact ⟨k + 1, by omega, by go_num, by rw [Hs.out, Hg.out, Hd.out]; exact hown', hbl.trans hb3⟩
      case measure => simp [intOf]; omega
    · have hd : (l[k] == x) = false := by simpa using hx
      have Hd := Lib.hid hd
      clear hx
      go_wp2_with fail
      go_roundw
      case rel => exact ⟨k + 1, by omega, by go_num, by rw [Hs.out, Hg.out, Hd.out]; simpa using Hown.out, hbl⟩
      case measure => simp [intOf]; omega
end Go.Proofs.YtcpombepajapjaaGreatDoor

/- slices.Index, slices.Contains; labelling.FromSet, ref11.FromSet. -/
namespace Go.Proofs.YtcpombepajapjaaGreatDoor
open Go.ChangeShapes Go.WideShapes Go.ChangeAt Go.RowKit

set_option maxHeartbeats 400000 in
theorem indexI_any (A : Option Addr) (l : List Int) (c : Nat) (v : Int) (w : World) (hr : RI w A l) (hl : l.length ≤ 100000) :
    Calls Tryz.prog 70 #[.slice A l.length c, .int .i64 v] w (Ret (.int .i64 (idxP (fun y => v == y) 0 l)) w) := by
  go_enter Tryz.func70, Tryz.ntmps70
  go_wp2_with fail
  go_loop [8] (fun i => ∃ k : Nat, k ≤ l.length ∧ i = .int .i64 k ∧ idxP (fun y => v == y) k (l.drop k) = idxP (fun y => v == y) 0 l) (fun i => l.length - (intOf i).toNat)
  case atStart => exact ⟨0, Nat.zero_le _, rfl, rfl⟩
  case round =>
    obtain ⟨k, hk, rfl, hi⟩ := hrel
    have Hi := Lib.hid hi; clear hi
    by_cases hlt : k < l.length
    case neg =>
      go_wp2_with fail
      go_ret
      exact ⟨ri (by rw [← Hi.out, idxP_end hlt]), rfl⟩
    case pos =>
    obtain ⟨b, o, rfl, hc⟩ := hr.at_ hlt
    cases hb : (v == l[k])
    · have Hb := Lib.hid hb
      go_wp2_with fail
      go_round
      case rel => exact ⟨k + 1, by omega, by go_num, by rw [← idxP_miss hlt Hb.out]; exact Hi.out⟩
      case measure => simp [intOf]; omega
    · have Hb := Lib.hid hb
      go_wp2_with fail
      go_ret
      exact ⟨ri (by rw [← Hi.out, idxP_hit hlt Hb.out]), rfl⟩
set_option maxHeartbeats 400000 in
theorem containsI_any (A : Option Addr) (l : List Int) (c : Nat) (v : Int) (w : World) (hr : RI w A l) (hl : l.length ≤ 100000) :
    Calls Tryz.prog 52 #[.slice A l.length c, .int .i64 v] w (Ret (.bool (inB l v)) w) := by
  have h : decide (0 ≤ idxP (fun y => v == y) 0 l) = inB l v := by
    rw [idxP_any]
    apply Bool.eq_iff_iff.2
    rw [List.any_eq_true, inB_iff]
    constructor
    · rintro ⟨y, hy, e⟩
      rw [beq_iff_eq] at e; subst e; exact hy
    · intro h; exact ⟨v, h, by simp⟩
  have H := Lib.hid h; clear h
  go_enter Tryz.func52, Tryz.ntmps52
  go_wp2_with fail
  refine (indexI_any A l c v w hr hl).mono ?_
  rintro e w1 ⟨rfl, rfl⟩
  go_wp2_with fail
  go_ret
  exact ⟨rb H.out, rfl⟩

theorem any_take {α : Type} {l : List α} {P : α → Bool} {k : Nat} (h : k < l.length) : (l.take (k + 1)).any P = ((l.take k).any P || P l[k]) := by
  rw [List.take_succ_eq_append_getElem h, List.any_append, List.any_cons, List.any_nil, Bool.or_false]
/-- after k pairs -/
def ffA (l : List (Int × Int)) (s : List Int) (k j : Nat) : Int := if (l.take k).any (fun p => inB s p.1 && p.2 == (j : Int)) then 2 else 3
theorem ffA_hit {l : List (Int × Int)} {s : List Int} {k : Nat} (h : k < l.length) (hs : inB s l[k].1 = true) {a : Nat} (ha : l[k].2 = (a : Int)) (j : Nat) : ffA l s (k + 1) j = upd (ffA l s k) a 2 j := by
  unfold ffA
  rw [any_take h, hs, ha]
  by_cases e : j = a
  · subst e; rw [upd_same, if_pos (by rw [beq_self_eq_true, Bool.and_true, Bool.or_true])]
  · have : ((a : Int) == (j : Int)) = false := beq_eq_false_iff_ne.2 (by omega)
    rw [upd_ne e, this, Bool.and_false, Bool.or_false]
theorem ffA_miss {l : List (Int × Int)} {s : List Int} {k : Nat} (h : k < l.length) (hs : inB s l[k].1 = false) (j : Nat) : ffA l s (k + 1) j = ffA l s k j := by
  unfold ffA
  rw [any_take h, hs, Bool.false_and, Bool.or_false]
/-- after k members -/
def ffB (l : List (Int × Int)) (s : List Int) (k j : Nat) : Int := if (s.take k).any (fun y => y == (j : Int)) then 1 else ffA l s l.length j
theorem ffB_hit {l : List (Int × Int)} {s : List Int} {k : Nat} (h : k < s.length) {a : Nat} (ha : s[k] = (a : Int)) (j : Nat) : ffB l s (k + 1) j = upd (ffB l s k) a 1 j := by
  unfold ffB
  rw [any_take h, ha]
  by_cases e : j = a
  · subst e; rw [upd_same, if_pos (by rw [beq_self_eq_true, Bool.or_true])]
  · have : ((a : Int) == (j : Int)) = false := beq_eq_false_iff_ne.2 (by omega)
    rw [upd_ne e, this, Bool.or_false]
theorem ffB_miss {l : List (Int × Int)} {s : List Int} {k j : Nat} (h : k < s.length) (ha : s[k] ≠ (j : Int)) : ffB l s (k + 1) j = ffB l s k j := by
  unfold ffB
  rw [any_take h, beq_eq_false_iff_ne.2 ha, Bool.or_false]
theorem ffB_end (l : List (Int × Int)) (s : List Int) (j : Nat) : ffB l s s.length j = fromF l s j := by
  unfold ffB fromF ffA
  rw [List.take_length, List.take_length]
  have e1 : (s.any fun y => y == (j : Int)) = inB s j := by
    apply Bool.eq_iff_iff.2
    rw [List.any_eq_true, inB_iff]
    constructor
    · rintro ⟨y, hy, e⟩
      rw [beq_iff_eq] at e; subst e; exact hy
    · intro h; exact ⟨_, h, by simp⟩
  have e2 : (l.any fun p => inB s p.1 && p.2 == (j : Int)) = (attackersL l j).any fun a => inB s a := by
    apply Bool.eq_iff_iff.2
    rw [any_att, List.any_eq_true]
    constructor
    · rintro ⟨⟨a, b⟩, hp, e⟩
      rw [Bool.and_eq_true, beq_iff_eq, inB_iff] at e
      obtain ⟨h1, h2⟩ := e
      simp only at h1 h2
      subst h2; exact ⟨a, hp, h1⟩
    · rintro ⟨a, h1, h2⟩
      exact ⟨(a, (j : Int)), h1, by rw [Bool.and_eq_true, beq_iff_eq, inB_iff]; exact ⟨h2, rfl⟩⟩
  rw [e1, e2]

set_option maxRecDepth 100000 in
set_option maxHeartbeats 4000000 in
theorem lFromSet_any (A : Option Addr) (n : Nat) (l : List (Int × Int)) (c : Nat) (B : Option Addr) (s : List Int) (cs : Nat) (w : World) (hr : RP w A l) (hv : Vld n l) (hx : RI w B s) (hsl : s.length ≤ 100000) :
    Calls Tryz.prog 29 #[.agg #[.int .i64 (n : Int), .slice A l.length c], .slice B s.length cs] w (RetI (fromL n l s) w) := by
  have hn := hv.1.1; have hlen := hv.1.2.1
  have hrange : ∀ k (h : k < l.length), ∃ j : Nat, l[k].2 = j ∧ j < n := fun k h => by
    have := hv.1.2.2 _ (List.getElem_mem h)
    exact ⟨l[k].2.toNat, by omega, by omega⟩
  have Hrange := Lib.hid hrange
  clear hrange
  go_enter Tryz.func29, Tryz.ntmps29
  go_wp2_with fail
  obtain ⟨W0, hW, c0, c1, hb0, hlt0⟩ := boxed w 24 (.int .i64 n) (.slice A l.length c)
  have hs0 : W0.heap.size = w.heap.size + 1 := by rw [← hW]; simp
  rw [hW]
  clear hW
  have hr0 := hr.below hb0; have hx0 := hx.below hb0
  have hwlt := hlt0
  obtain ⟨W1, hW1, hri1, hb1⟩ : ∃ W1, W0.alloc (.cells #[.int .i64 3] 3) = W1 ∧ RI W1 (some ⟨w.heap.size + 1, 0, none⟩) [3] ∧ Below W0.heap.size W0 W1 := ⟨_, rfl, by rw [← hs0]; exact new_ri1 _ _ _, newB _ _⟩
  rw [hW1]
  refine (repeat_any _ 3 1 n W1 hri1 (by omega)).mono ?_
  rintro e W2 ⟨g, rfl, hg, hrow, hb2⟩
  have hle := Nat.le_trans hb1.size hg
  have hS := endB hb1 hb2
  clear hW1 hri1 hb1 hb2
  have d0 := (hS.cell (lt_of_cell c0)).trans c0
  have d1 := (hS.cell (lt_of_cell c1)).trans c1
  have hr1 := hr0.below hS; have hx1 := hx0.below hS
  have hB1 := endB hb0 hS
  have hwg : w.heap.size < g := by omega
  have hoB : ∀ b o, B = some ⟨b, o, none⟩ → 0 < s.length → b ≠ g := fun b o h hl => by
    obtain ⟨b', o', hA, hc⟩ := hx0 0 hl
    rw [h] at hA; injection hA with hA; injection hA with hA; subst hA
    have := lt_of_cell hc; simp at this; omega
  have hoA : ∀ b o, A = some ⟨b, o, none⟩ → 0 < l.length → b ≠ g := fun b o h hl => by
    have := hr0.lt h hl; omega
  have HoA := Lib.hid hoA; have HoB := Lib.hid hoB
  clear hoA hoB hr hx hr0 hx0 c0 c1 hb0 hS
  go_wp2_with fail
  go_loopw [17] (fun i wr => ∃ k : Nat, k ≤ l.length ∧ i = .int .i64 k ∧ Row wr g n (ffA l s k) ∧ wr.cell? ⟨w.heap.size, 0, none⟩ = some (.int .i64 (n : Int)) ∧ RP wr A l ∧ RI wr B s ∧ Below w.heap.size w wr) (fun i _ => l.length - (intOf i).toNat)
  case atStart => exact ⟨0, Nat.zero_le _, rfl, hrow.congr fun _ _ => rfl, d0, hr1, hx1, hB1⟩
  case round =>
    clear hrow d0 d1 hr1 hx1 hB1
    obtain ⟨k, hk, rfl, hrow, d0, hr1, hx1, hB1⟩ := hrel
    by_cases hlt : k < l.length
    case pos =>
      obtain ⟨b, o, rfl, hc, hd⟩ := hr1.at_ hlt
      obtain ⟨j, hj, hjn⟩ := Hrange.out k hlt
      obtain ⟨W0', hW, e0, e1, hbW, hltW⟩ := boxed wr 45 (.int .i64 l[k].1) (.int .i64 l[k].2)
      rw [hj] at hd e1 hW
      have Hj := Lib.hid hj; clear hj
      have hbw := hbW.mono hB1.size
      have hrow' : Row W0' g n (ffA l s k) := rowIs_new hrow hbW
      have g0 := (hbW.cell (lt_of_cell d0)).trans d0
      have hr2 := hr1.below hbW; have hx2 := hx1.below hbW
      have hB2 := hB1.trans hbw
      have hjn' : (j : Int) < (n : Int) := by omega
      go_wp2_with fail
      refine (containsI_any B s cs l[k].1 W0' hx2 hsl).mono ?_
      rintro e w2 ⟨rfl, rfl⟩
      clear hW
      have hcj := hrow'.cell hjn
      have hfj := hrow'.frozen j
      have Hrow := Lib.hid hrow'
      clear hrow' hrow
      cases hb : inB s l[k].1
      · have Hb := Lib.hid hb; clear hb
        go_wp2_with fail
        go_roundw
        case rel => exact ⟨k + 1, by omega, by go_num, Hrow.out.congr fun q _ => (ffA_miss hlt Hb.out q).symm, g0, hr2, hx2, hB2⟩
        case measure => simp [intOf]; omega
      · have Hb := Lib.hid hb; clear hb
        go_wp2_with fail
        go_roundw
        case rel =>
          refine ⟨k + 1, by omega, by go_num, (Hrow.out.set j 2).congr fun q _ => (ffA_hit hlt Hb.out Hj.out q).symm, ?_, fun q hq => ?_, fun q hq => ?_, hB2.setCell (p := ⟨g, j, none⟩) (by show w.heap.size ≤ g; omega) _⟩
          · rw [World.cell?_setCell_other _ _ _ _ (fun e => by injection e; omega)]; exact g0
          · obtain ⟨b', o', hA, hc', hd'⟩ := hr2 q hq
            have hne := HoA.out b' o' hA (by omega)
            exact ⟨b', o', hA, by rw [World.cell?_setCell_other _ _ _ _ (fun e => by injection e; omega)]; exact hc', by rw [World.cell?_setCell_other _ _ _ _ (fun e => by injection e; omega)]; exact hd'⟩
          · obtain ⟨b', o', hA, hc'⟩ := hx2 q hq
            have hne := HoB.out b' o' hA (by omega)
            exact ⟨b', o', hA, by rw [World.cell?_setCell_other _ _ _ _ (fun e => by injection e; omega)]; exact hc'⟩
        case measure => simp [intOf]; omega
    case neg =>
    obtain rfl : k = l.length := by omega
    go_wp2_with fail
    go_loopw [32] (fun i wr => ∃ k : Nat, k ≤ s.length ∧ i = .int .i64 k ∧ Row wr g n (ffB l s k) ∧ wr.cell? ⟨w.heap.size, 0, none⟩ = some (.int .i64 (n : Int)) ∧ RI wr B s ∧ Below w.heap.size w wr) (fun i _ => s.length - (intOf i).toNat)
    case atStart => exact ⟨0, Nat.zero_le _, rfl, hrow.congr fun _ _ => rfl, d0, hx1, hB1⟩
    case round =>
      clear hrow d0 hr1 hx1 hB1
      obtain ⟨k, hk, rfl, hrow, d0, hx1, hB1⟩ := hrel
      by_cases hlt : k < s.length
      case neg =>
        go_wp2_with fail
        go_ret
        obtain rfl : k = s.length := by omega
        exact RetI.mk (by
          have := Row.own (hrow.congr fun q _ => ffB_end l s q) (base := w.heap.size) (by omega) (by omega)
          exact this) hB1
      case pos =>
      obtain ⟨b, o, rfl, hc⟩ := hx1.at_ hlt
      by_cases h0 : 0 ≤ s[k]
      case neg =>
        go_wp2_with fail
        go_roundw
        case rel => exact ⟨k + 1, by omega, by go_num, hrow.congr fun q _ => (ffB_miss hlt (by omega)).symm, d0, hx1, hB1⟩
        case measure => simp [intOf]; omega
      case pos =>
      by_cases h1 : s[k] < (n : Int)
      case neg =>
        go_wp2_with fail
        go_roundw
        case rel => exact ⟨k + 1, by omega, by go_num, hrow.congr fun q hq => (ffB_miss hlt (by omega)).symm, d0, hx1, hB1⟩
        case measure => simp [intOf]; omega
      case pos =>
      obtain ⟨j, hj⟩ := Int.eq_ofNat_of_zero_le h0
      rw [hj] at hc h1
      have Hj := Lib.hid hj
      have hjn : j < n := by omega
      have hcj := hrow.cell hjn
      have hfj := hrow.frozen j
      have Hrow := Lib.hid hrow
      clear hj h0 hrow
      go_wp2_with fail
      go_roundw
      case rel =>
        refine ⟨k + 1, by omega, by go_num, (Hrow.out.set j 1).congr fun q _ => (ffB_hit hlt Hj.out q).symm, ?_, fun q hq => ?_, hB1.setCell (p := ⟨g, j, none⟩) (by show w.heap.size ≤ g; omega) _⟩
        · rw [World.cell?_setCell_other _ _ _ _ (fun e => by injection e; omega)]; exact d0
        · obtain ⟨b', o', hA, hc'⟩ := hx1 q hq
          have hne := HoB.out b' o' hA (by omega)
          exact ⟨b', o', hA, by rw [World.cell?_setCell_other _ _ _ _ (fun e => by injection e; omega)]; exact hc'⟩
      case measure => simp [intOf]; omega
end Go.Proofs.YtcpombepajapjaaGreatDoor

/- slices.Compare, labelling.Compare, ref11.Compare; ref11.FromSet. -/
namespace Go.Proofs.YtcpombepajapjaaGreatDoor
open Go.ChangeShapes Go.WideShapes Go.ChangeAt Go.RowKit

end Go.Proofs.YtcpombepajapjaaGreatDoor

/- ref11.FromSet. -/
namespace Go.Proofs.YtcpombepajapjaaGreatDoor
open Go.ChangeShapes Go.WideShapes Go.ChangeAt Go.RowKit

/-- the label after k attackers -/
def outK (l : List (Int × Int)) (s : List Int) (i k : Nat) : Int := if ((attackersL l i).take k).any (fun a => inB s a) then 2 else 3
theorem outK_hit {l : List (Int × Int)} {s : List Int} {i k : Nat} (h : k < (attackersL l i).length) (hb : inB s (attackersL l i)[k] = true) : outK l s i (k + 1) = 2 := by
  unfold outK; rw [any_take h, hb, Bool.or_true, if_pos rfl]
theorem outK_miss {l : List (Int × Int)} {s : List Int} {i k : Nat} (h : k < (attackersL l i).length) (hb : inB s (attackersL l i)[k] = false) : outK l s i (k + 1) = outK l s i k := by
  unfold outK; rw [any_take h, hb, Bool.or_false]

set_option maxRecDepth 100000 in
set_option maxHeartbeats 2000000 in
theorem r11FromSet_any (A : Option Addr) (n : Nat) (l : List (Int × Int)) (c : Nat) (B : Option Addr) (s : List Int) (cs : Nat) (w : World) (hr : RP w A l) (hv : Vld n l) (hx : RI w B s) (hsl : s.length ≤ 100000) :
    Calls Tryz.prog 38 #[.agg #[.int .i64 (n : Int), .slice A l.length c], .slice B s.length cs] w (RetI (fromL n l s) w) := by
  have hn := hv.1.1; have hlen := hv.1.2.1
  have hgl : nGl n l = l := by unfold nGl; rw [hv.valE]; rfl
  have Hgl := Lib.hid hgl; clear hgl
  go_enter Tryz.func38, Tryz.ntmps38
  go_wp2_with fail
  obtain ⟨W0, hW, c0, c1, hb0, hlt0⟩ := boxed w 24 (.int .i64 n) (.slice A l.length c)
  rw [hW]
  have hr0 := hr.below hb0; have hx0 := hx.below hb0
  clear hW hr hx
  go_loopw [5, 6] (fun v i wr => ∃ k : Nat, k ≤ n ∧ i = .int .i64 k ∧ OwnI wr W0.heap.size v (lst k (fromF l s)) ∧ Below W0.heap.size W0 wr) (fun _ i _ => n - (intOf i).toNat)
  case atStart => exact ⟨0, Nat.zero_le _, rfl, OwnI.nil _ _, Below.refl _ _⟩
  case round =>
    obtain ⟨k, hk, rfl, hown, hbl⟩ := hrel
    have Hown := Lib.hid hown; clear hown
    have d0 := (hbl.cell (lt_of_cell c0)).trans c0
    have d1 := (hbl.cell (lt_of_cell c1)).trans c1
    by_cases hlt : k < n
    case neg =>
      have hlt' : ¬ (k : Int) < (n : Int) := by omega
      go_wp2_with fail
      go_ret
      obtain rfl : k = n := by omega
      exact RetI.mk (OwnI.mono Hown.out hb0.size) (endB hb0 hbl)
    case pos =>
    have hlt' : (k : Int) < (n : Int) := by omega
    go_wp2_with fail
    refine (r10Attackers_any A n l c k wr (hr0.below hbl) hlen).mono ?_
    rintro e w1 ⟨A1, c1', rfl, _, hr1, _, hb1⟩
    rw [Hgl.out] at hr1 ⊢
    have hal := attackersL_len l k
    have hbb := hbl.trans (hb1.mono hbl.size)
    have ho1 := Lib.hid (OwnI.below Hown.out hb1)
    have hx1 := hx0.below hbb
    clear d0 d1
    go_wp2_with fail
    go_loop [7, 20] (fun o j => ∃ q : Nat, q ≤ (attackersL l k).length ∧ j = .int .i64 q ∧ o = .int .i64 (outK l s k q)) (fun _ j => (attackersL l k).length - (intOf j).toNat)
    case atStart => exact ⟨0, Nat.zero_le _, rfl, rfl⟩
    case round =>
      obtain ⟨q, hq, rfl, rfl⟩ := hrel
      by_cases hql : q < (attackersL l k).length
      case pos =>
        obtain ⟨b, o, rfl, hc⟩ := hr1.at_ hql
        go_wp2_with fail
        refine (r11In_any B s cs (attackersL l k)[q] w1 (by omega) hx1).mono ?_
        rintro e w2 ⟨rfl, rfl⟩
        cases hb : inB s (attackersL l k)[q]
        · have H := Lib.hid (outK_miss hql hb); clear hb
          go_wp2_with fail
          go_round
          case rel => exact ⟨q + 1, by omega, by go_num, by rw [H.out]⟩
          case measure => simp [intOf]; omega
        · have H := Lib.hid (outK_hit hql hb); clear hb
          go_wp2_with fail
          go_round
          case rel => exact ⟨q + 1, by omega, by go_num, by rw [H.out]⟩
          case measure => simp [intOf]; omega
      case neg =>
      have ho : outK l s k q = if (attackersL l k).any (fun a => inB s a) then 2 else 3 := by unfold outK; rw [List.take_of_length_le (by omega)]
      obtain ⟨y, hy⟩ : ∃ y, outK l s k q = y := ⟨_, rfl⟩
      rw [hy] at ho ⊢
      have Ho := Lib.hid ho
      clear hy ho
      go_wp2_with fail
      refine (r11In_any B s cs k w1 (by omega) hx1).mono ?_
      rintro e w2 ⟨rfl, rfl⟩
      have hkl : (lst k (fromF l s)).length ≤ 1000000 := by rw [lst_length]; omega
      have Hkl := Lib.hid hkl
      clear hkl
      cases hb : inB s k
      · have H := Lib.hid (show fromF l s k = y by unfold fromF; rw [hb, Ho.out]; rfl); clear hb
        go_wp2_with (at_builtin; refine wpList_appI (by rfl) _ _ (by rfl) w1 W0.heap.size _ _ y ho1.out (by rfl) (by rfl) Hkl.out hbb.size ?_; intro v' w3 hown' hb3 _)
        go_roundw
        case rel => exact ⟨k + 1, by omega, by go_num, by rw [lst_succ, H.out]; exact hown', hbb.trans hb3⟩
        case measure => simp [intOf]; omega
      · have H := Lib.hid (show fromF l s k = 1 by unfold fromF; rw [if_pos hb]); clear hb
        go_wp2_with (at_builtin; refine wpList_appI (by rfl) _ _ (by rfl) w1 W0.heap.size _ _ 1 ho1.out (by rfl) (by rfl) Hkl.out hbb.size ?_; intro v' w3 hown' hb3 _)
        go_roundw
        case rel => exact ⟨k + 1, by omega, by go_num, by rw [lst_succ, H.out]; exact hown', hbb.trans hb3⟩
        case measure => simp [intOf]; omega
end Go.Proofs.YtcpombepajapjaaGreatDoor

/- keep's Labels. -/
namespace Go.Proofs.YtcpombepajapjaaGreatDoor
open Go.ChangeShapes Go.WideShapes Go.ChangeAt Go.RowKit

/-- the call returns a labelling of n nodes, in a new slice; the reader has gone on -/
def RetLb (p n : Nat) (w : World) : Ending → World → Prop := fun e w' => ∃ (x : List Int) (v : Value), e = .returned v ∧ OwnI w' w.heap.size v x ∧ labB n x = true ∧ SrcOk w' p ∧ w.grownBy w' (some p)
theorem labB_snoc {k : Nat} {x : List Int} {v : Int} (h : labB k x = true) (h1 : 1 ≤ v) (h2 : v ≤ 3) : labB ((k + 1 : Nat) : Int) (x ++ [v]) = true := by
  rw [labB_iff] at h ⊢
  obtain ⟨a, b⟩ := h
  refine ⟨by rw [List.length_append, a]; rfl, fun u hu => ?_⟩
  rcases List.mem_append.1 hu with hu | hu
  · exact b u hu
  · rw [List.mem_singleton] at hu; subst hu; exact ⟨h1, h2⟩

set_option maxRecDepth 100000 in
set_option maxHeartbeats 1000000 in
theorem labels_any (p : Nat) (n : Nat) (w : World) (h : SrcOk w p) (hn : n ≤ 40) :
    Calls Tryz.prog 14 #[.pointer (some ⟨p, 0, none⟩), .int .i64 (n : Int)] w (RetLb p n w) := by
  have hpl := h.lt
  go_enter Tryz.func14, Tryz.ntmps14
  go_wp2_with fail
  go_loopw [5, 6] (fun v i wr => ∃ (k : Nat) (x : List Int), k ≤ n ∧ i = .int .i64 k ∧ OwnI wr w.heap.size v x ∧ labB k x = true ∧ SrcOk wr p ∧ Near p w.heap.size w wr) (fun _ i _ => n - (intOf i).toNat)
  case atStart => exact ⟨0, [], Nat.zero_le _, rfl, OwnI.nil _ _, rfl, h, Near.refl _ _ _⟩
  case round =>
    clear h
    obtain ⟨k, x, hk, rfl, hown, hlx, hs, hne⟩ := hrel
    have Hlx := Lib.hid hlx
    have hxl := (labB_iff.1 hlx).1
    have Hxl := Lib.hid (show x.length ≤ 1000000 by omega)
    clear hlx hxl
    by_cases hkn : k < n
    case neg =>
      obtain rfl : k = n := by omega
      go_wp2_with fail
      go_ret
      exact ⟨x, _, rfl, hown, Hlx.out, hs, hne.grown⟩
    case pos =>
    have hkn' : (k : Int) < (n : Int) := by omega
    have Hown := Lib.hid hown; clear hown
    go_wp2_with fail
    refine (n_any p 3 wr hs (by omega) (by omega)).mono ?_
    rintro e w3 ⟨d, rfl, hd1, hd2, hs3, hg3⟩
    have hown3 : OwnI w3 w.heap.size _ x := ownsRow_far Hown.out hg3 hpl
    have hne3 := hne.trans (Near.of_grown hg3 hne.size)
    have Hown3 := Lib.hid hown3
    clear hown3 Hown hs hne hg3
    have hd3 : d ≤ 2 := by omega
    go_wp2_with (at_builtin; refine wpList_appI (by rfl) _ _ (by rfl) w3 w.heap.size _ _ (1 + d) Hown3.out (by rfl) (by rfl) Hxl.out hne3.size ?_; intro v' w4 hown' hb4 hg4)
    go_roundw
    case rel => exact ⟨k + 1, _, by omega, by go_num, hown', labB_snoc Hlx.out (by omega) (by omega), hs3.append Hown3.out hg4 hpl, hne3.trans (Near.of_below hb4)⟩
    case measure => simp [intOf]; omega
end Go.Proofs.YtcpombepajapjaaGreatDoor

/- The sanity check of layer 11. -/
namespace Go.Proofs.YtcpombepajapjaaGreatDoor
open Go.ChangeShapes Go.WideShapes Go.ChangeAt Go.RowKit

theorem boxed24 (w : World) (t u : TypeId) (x1 x2 x3 x4 y1 y2 : Value) : ∃ W0, (w.alloc (.cells #[y1, y2] u)).alloc (.cells #[x1, x2, x3, x4] t) = W0 ∧ Blk W0 w.heap.size u #[y1, y2] ∧ Blk W0 (w.heap.size + 1) t #[x1, x2, x3, x4] ∧ Below w.heap.size w W0 := by
  refine ⟨_, rfl, (Blk.new w u _).alloc _, ?_, ((Below.refl _ _).alloc (Nat.le_refl _) _).alloc (by simp) _⟩
  have := Blk.new (w.alloc (.cells #[y1, y2] u)) t #[x1, x2, x3, x4]
  simpa using this

theorem OwnI.cap {w : World} {b : Nat} {A : Option Addr} {c : Nat} {l : List Int} (h : OwnI w b (.slice A l.length c) l) : l.length ≤ c := by
  obtain ⟨h1, h2⟩ := h
  rcases h2 with ⟨e, hn⟩ | ⟨g', cap, cur, e, hg, hh, hn, hcap, hs, ht⟩
  · omega
  · injection e with e1 e2 e3
    subst e3
    omega
theorem ri_take {w : World} {A : Option Addr} {l : List Int} (k : Nat) (h : RI w A l) : RI w A (l.take k) := fun j hj => by
  have hj' : j < l.length := by rw [List.length_take] at hj; omega
  obtain ⟨b, o, hA, hc⟩ := h j hj'
  refine ⟨b, o, hA, ?_⟩
  have e : (l.take k).getD j 0 = l.getD j 0 := by
    have hjk : j < k := by rw [List.length_take] at hj; omega
    simp [List.getD, hjk]
  rw [hc]
  first | rw [e] | simp [e]
theorem from_chain : fromL 3 chainG [2] = [3, 3, 1] := by decide
theorem com_chain : comB 3 chainG [1, 2, 1] = true := by decide
theorem ill_chain : illL 3 chainG [3, 3, 1] = [0, 2] := by decide

end Go.Proofs.YtcpombepajapjaaGreatDoor

/- append to a slice whose capacity is its length. -/
namespace Go.Proofs.YtcpombepajapjaaGreatDoor
open Go.ChangeShapes Go.WideShapes Go.ChangeAt Go.RowKit

set_option maxRecDepth 100000 in
/-- 'append(l[:len(l):len(l)], y)' -/
theorem wpList_appCap {ops : Array Oper} {rest : List Oper} {o : Oper} {a : Act} {Q : Exit → Act → World → Prop} (hgd : o.guard = none) (s x : Operand)
    (ho : o.op = .call { callee := .builtin .append, args := #[s, x], argTypes := #[26, 26] })
    (X : World) (A : Option Addr) (l : List Int) (y : Int) (hr : RI X A l) (hA : A = none → l = []) {n : Nat} (hn : n = l.length) (hs : a.eval s = .slice A n n) {gx : Nat} (hx : a.eval x = .slice (some ⟨gx, 0, none⟩) 1 1) (hgx : gx = X.heap.size)
    (hlen : l.length ≤ 1000000)
    (h : ∀ v' w', OwnI w' X.heap.size v' (l ++ [y]) → Below X.heap.size X w' → wpList Tryz.prog ops Q rest (a.put o.dst v') w') :
    wpList Tryz.prog ops Q (o :: rest) a (X.alloc (.cells #[.int .i64 y] 3)) := by
  subst hgx hn
  obtain ⟨i0, hi, hz0, hz1, hz2⟩ := info_parts info_int
  refine wpList_append_grows (X.alloc (.cells #[.int .i64 y] 3)) hgd s x 26 ho 3 i0 (.int .i64 0) 1 8 Tryz.underlying26 hi hz0 hz1 hz2 rfl (by decide) A l.length l.length (l.map (Value.int .i64)) hs (fun e => by rw [hA e]; exact ⟨rfl, rfl⟩) (by simp) (fun b hb j u hj => ?_)
    ⟨X.heap.size, 0, none⟩ 1 1 [.int .i64 y] hx rfl (new_cell _ _ _) (by intro u hu; simp at hu; subst hu; rfl) (by omega) (by unfold maxLen; omega) (by omega) ?_
  · have hj' : j < l.length := by
      have := (List.getElem?_eq_some_iff.1 hj).1
      simpa using this
    obtain ⟨b', o', hA', hc⟩ := (hr.below (newB X (.cells #[.int .i64 y] 3))) j hj'
    rw [hb] at hA'
    injection hA' with hA'
    subst hA'
    have e : u = .int .i64 (l.getD j 0) := by
      rw [List.getElem?_map, List.getElem?_eq_getElem hj'] at hj
      simp at hj
      rw [← hj]; simp [List.getD, hj']
    rw [e, Addr.add_lit]; exact hc
  · intro v' w1 hown' hg
    have hsz : X.heap.size + 1 = (X.alloc (.cells #[.int .i64 y] 3)).heap.size := by simp
    have ho' : OwnI w1 (X.alloc (.cells #[.int .i64 y] 3)).heap.size v' (l ++ [y]) := by unfold OwnI; rw [List.length_append, List.map_append]; exact hown'
    exact h v' w1 (ho'.mono (by omega)) (((Below.refl X.heap.size X).alloc (Nat.le_refl _) _).grown hg (by simp) (fun k hk => by cases hk))
end Go.Proofs.YtcpombepajapjaaGreatDoor
