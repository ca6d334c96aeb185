/- The walk of the statement LabellingOrders. -/
import Derived.Test.YtiljbfeipfdmdaaDoorLc
import Derived.Test.YtiljbfeipfdmdaaDoorLb
import Derived.Test.YtiljbfeipfdmdaaDoorTxtE
namespace Go.Proofs.YtiljbfeipfdmdaaDoor
open Go.ChangeShapes Go.WideShapes Go.ChangeAt Go.RowKit

theorem anyO_argO {p : Nat} {w : World} {R : Option Addr} {raw : List Int} {rc : Nat} (hraw : RI w R raw) (hl : raw.length ≤ 100000) (hrn : R = none → raw = [] ∧ rc = 0) (hp : w.heap.size ≤ p) : AnyO p w (.slice R raw.length rc) :=
  ⟨R, raw, rc, rfl, hraw, hl, hrn, fun b o h hne e => by
    obtain ⟨b', o', hA, hcc⟩ := hraw 0 (List.length_pos_iff.2 hne)
    rw [h] at hA
    injection hA with hA
    injection hA with hA
    subst hA
    have := lt_of_cell hcc
    simp at this; omega⟩

set_option maxRecDepth 100000 in
set_option maxHeartbeats 8000000 in
theorem orders_law_any (R : Option Addr) (raw : List Int) (rc : Nat) (Z : Option Addr) (set : List Int) (zc : Nat) (A : Option Addr) (arg : List Int) (c : Nat) (w : World)
    (hrl : raw.length ≤ 9223372036854775807) (hraw : RI w R raw) (hrn : R = none → raw = [] ∧ rc = 0) (hzl : set.length ≤ 9223372036854775807) (hset : RI w Z set) (hzn : Z = none → set = [] ∧ zc = 0)
    (hlc : arg.length ≤ c) (hc : c ≤ 9223372036854775807) (hr : RI w A arg) (hx : ∀ x ∈ arg, -9223372036854775808 ≤ x ∧ x ≤ 9223372036854775807) (hT : Tab w) :
    Calls Tryd.prog 7 #[.slice R raw.length rc, .slice Z set.length zc, .slice A arg.length c] w (RetB (.bool true) w) := by
  by_cases h60 : 60 < raw.length
  · have hd : decide ((60 : Int) < (raw.length : Int)) = true := by rw [decide_eq_true_eq]; omega
    have H60 := Lib.hid h60; clear h60
    go_enter Tryd.func7, Tryd.ntmps7
    go_wp2_with fail
    go_ret
    exact ⟨rfl, Below.refl _ _⟩
  have hd : decide ((60 : Int) < (raw.length : Int)) = false := by rw [decide_eq_false_iff_not]; omega
  have hrl2 : raw.length ≤ 100000 := by omega
  clear h60 hrl
  by_cases h60 : 60 < set.length
  · have hd2 : decide ((60 : Int) < (set.length : Int)) = true := by rw [decide_eq_true_eq]; omega
    have H60 := Lib.hid h60; clear h60
    go_enter Tryd.func7, Tryd.ntmps7
    go_wp2_with fail
    go_ret
    exact ⟨rfl, Below.refl _ _⟩
  have hd2 : decide ((60 : Int) < (set.length : Int)) = false := by rw [decide_eq_false_iff_not]; omega
  have hzl2 : set.length ≤ 100000 := by omega
  clear h60 hzl
  go_enter Tryd.func7, Tryd.ntmps7
  go_wp2_with fail
  refine (new_any A arg c w hlc hc hr hx).mono ?_
  rintro e w1 ⟨p, rfl, hp, hs1, hb1⟩
  have hany : AnyO p w (.slice R raw.length rc) := anyO_argO hraw hrl2 hrn hp
  have hanz : AnyO p w (.slice Z set.length zc) := anyO_argO hset hzl2 hzn hp
  have hp1 := hs1.lt
  clear hr hx hd hd2 hraw hrn hset hzn
  go_wp2_with fail
  have L8 := labels_any p 6 w1 hs1 (by omega)
  refine L8.mono ?_
  clear L8
  rintro e w3 ⟨x, v1, rfl, ho1, hlx, hs3, hg3⟩
  have hB3 : Below w.heap.size w w3 := hb1.trans (below_of_grownBy hg3 hp hb1.size)
  have hp3 : p < w3.heap.size := hs3.lt
  have Ho1 := Lib.hid ho1; have Hlx := Lib.hid hlx
  clear hs1 hb1 hg3 ho1 hlx
  go_wp2_with fail
  have L8 := labels_any p 6 w3 hs3 (by omega)
  refine L8.mono ?_
  clear L8
  rintro e w4 ⟨y, v2, rfl, ho2, hly, hs4, hg4⟩
  have hB4 : Below w.heap.size w w4 := hB3.trans (below_of_grownBy hg4 hp hB3.size)
  have ho14 : OwnI w4 w1.heap.size v1 x := ownsRow_far Ho1.out hg4 hp1
  have Ho14 := Lib.hid ho14; have Ho2 := Lib.hid ho2; have Hly := Lib.hid hly
  clear hs3 hB3 hg4 ho14 ho2 hly Ho1
  go_wp2_with fail
  refine (n_any p 7 w4 hs4 (by omega) (by omega)).mono ?_
  rintro e w5 ⟨d, rfl, hd1, hd2, hs5, hg5⟩
  have hB5 : Below w.heap.size w w5 := hB4.trans (below_of_grownBy hg5 hp hB4.size)
  have ho15 : OwnI w5 w1.heap.size v1 x := ownsRow_far Ho14.out hg5 hp1
  have ho25 : OwnI w5 w3.heap.size v2 y := ownsRow_far Ho2.out hg5 hp3
  have lx := (labB_iff.1 Hlx.out).1
  have ly := (labB_iff.1 Hly.out).1
  have hax : AnyO p w5 v1 := AnyO.own ho15 (by omega) hp1
  have hay : AnyO p w5 v2 := AnyO.own ho25 (by omega) hp3
  obtain ⟨A1, c1, rfl, hri1, _⟩ := ho15.form
  obtain ⟨A2, k2, c2, rfl⟩ := hay.shape
  have hcap := OwnI.cap ho15
  obtain ⟨g1, o1, rfl, _⟩ := hri1 0 (by omega)
  obtain ⟨m, rfl⟩ := Int.eq_ofNat_of_zero_le hd1
  have hm6 : m ≤ x.length := by omega
  have hat : AnyO p w5 (.slice (some ⟨g1, o1, none⟩) m c1) := by
    have hl : (x.take m).length = m := by rw [List.length_take]; omega
    refine ⟨some ⟨g1, o1, none⟩, x.take m, c1, by rw [hl], ri_take m hri1, by omega, (fun e => by cases e), fun b o h hne => ?_⟩
    obtain ⟨A', x', c', e, _, _, _, hq⟩ := hax
    injection e with e1 e2 e3
    subst e1
    exact hq b o h (fun e => by rw [e, List.length_nil] at e2; omega)
  have haR := hany.below hB5
  have haZ := hanz.below hB5
  have hTw := hT.below hB5
  have hmc : (m : Int) ≤ (c1 : Int) := by omega
  have hmc2 : m ≤ c1 := by omega
  have hm0 : (0 : Int) ≤ (m : Int) := by omega
  rw [lx] at hax ⊢
  clear hs4 hg5 hB4 Ho14 Ho2 ho15 ho25 hri1 hcap hd1 hd2 hany hanz hT Hlx Hly lx ly hs5 hp1 hp3
  obtain ⟨B, hB, hblk, hbB⟩ : ∃ B, w5.alloc (.cells #[.slice R raw.length rc, .slice (some ⟨g1, o1, none⟩) 6 c1, .slice (some ⟨g1, o1, none⟩) m c1] 22) = B ∧ Blk B w5.heap.size 22 #[.slice R raw.length rc, .slice (some ⟨g1, o1, none⟩) 6 c1, .slice (some ⟨g1, o1, none⟩) m c1] ∧ Below w5.heap.size w5 B := ⟨_, rfl, Blk.new _ _ _, newB _ _⟩
  have hel : ∀ j, j < 3 → ∃ v, B.cell? ⟨w5.heap.size, j, none⟩ = some v ∧ AnyO p B v := fun j hj => by
    rw [hblk.cell]
    match j, hj with
    | 0, _ => exact ⟨_, rfl, haR.below hbB⟩
    | 1, _ => exact ⟨_, rfl, hax.below hbB⟩
    | 2, _ => exact ⟨_, rfl, hat.below hbB⟩
  have hayB := hay.below hbB
  have haZB := haZ.below hbB
  have hTB := hTw.below hbB
  have hBw := endB hB5 hbB
  clear hblk hbB haR hax hat hay haZ hTw hB5
  go_wp2_with fail
  clear hB
  go_loopw [36] (fun i wr => ∃ k : Nat, k ≤ 3 ∧ i = .int .i64 k ∧ Below B.heap.size B wr) (fun i _ => 3 - (intOf i).toNat)
  case atStart => exact ⟨0, Nat.zero_le _, rfl, Below.refl _ _⟩
  case round =>
    obtain ⟨k, hk, rfl, hbl⟩ := hrel
    by_cases hlt : k < 3
    case neg =>
      obtain rfl : k = 3 := by omega
      go_wp2_with fail
      refine (awake11_any wr (hTB.below hbl)).mono ?_
      rintro e w9 ⟨rfl, hb9⟩
      go_wp2_with fail
      go_ret
      exact ⟨rfl, hBw.trans ((endB hbl hb9).mono hBw.size)⟩
    case pos =>
    obtain ⟨v, hcv, hav⟩ := hel k hlt
    have hav1 := hav.below hbl
    obtain ⟨XP, q1, pc, rfl, hpr, hpl, _, _⟩ := hav
    have hk0 : (0 : Int) ≤ (k : Int) := by omega
    have hk1 : (k : Int) < 3 := by omega
    have e2 := (hbl.cell (lt_of_cell hcv)).trans hcv
    have hay1 := hayB.below hbl
    have haz1 := haZB.below hbl
    obtain ⟨A2', y', c2', hye, hyr, hyl, _, _⟩ := hay1
    injection hye with hye1 hye2 hye3
    subst hye1 hye2 hye3
    have hp1 := hpr.below hbl
    have hml : (meetL q1 y').length ≤ 100000 := by unfold meetL; rw [lst_length]; omega
    obtain ⟨W1, hW1⟩ : ∃ W1, W1 = wr := ⟨_, rfl⟩
    subst hW1
    go_wp2_with fail
    refine (r11Meet_any XP A2 q1 y' pc c2 W1 hp1 hyr hpl hyl).mono ?_
    rintro e W2 ⟨A45, c45, rfl, ho45, hr45, _, hb2⟩
    clear e2
    have hpW1 : p < W1.heap.size ∨ True := .inr trivial
    have ha45 : ∃ (A : Option Addr) (z : List Int) (c : Nat), Value.slice A45 (meetL q1 y').length c45 = .slice A z.length c ∧ RI W2 A z ∧ z.length ≤ 100000 := ⟨A45, _, c45, rfl, hr45, hml⟩
    have hpv : ∃ (A : Option Addr) (z : List Int) (c : Nat), Value.slice XP q1.length pc = .slice A z.length c ∧ RI W2 A z ∧ z.length ≤ 100000 := ⟨XP, _, pc, rfl, hp1.below hb2, hpl⟩
    have hyv : ∃ (A : Option Addr) (z : List Int) (c : Nat), Value.slice A2 y'.length c2 = .slice A z.length c ∧ RI W2 A z ∧ z.length ≤ 100000 := ⟨A2, _, c2, rfl, hyr.below hb2, hyl⟩
    have hzv : ∃ (A : Option Addr) (z : List Int) (c : Nat), Value.slice Z set.length zc = .slice A z.length c ∧ RI W2 A z ∧ z.length ≤ 100000 := by
      obtain ⟨A9, x9, c9, e, h1, h2, _, _⟩ := haz1
      exact ⟨A9, x9, c9, e, h1.below hb2, h2⟩
    obtain ⟨B2, hB2, hblk2, hbB2⟩ : ∃ B2, W2.alloc (.cells #[.slice Z set.length zc, .slice A2 y'.length c2, .slice XP q1.length pc, .slice A45 (meetL q1 y').length c45] 22) = B2 ∧ Blk B2 W2.heap.size 22 #[.slice Z set.length zc, .slice A2 y'.length c2, .slice XP q1.length pc, .slice A45 (meetL q1 y').length c45] ∧ Below W2.heap.size W2 B2 := ⟨_, rfl, Blk.new _ _ _, newB _ _⟩
    have hel2 : ∀ j, j < 4 → ∃ v, B2.cell? ⟨W2.heap.size, j, none⟩ = some v ∧ ∃ (A : Option Addr) (z : List Int) (c : Nat), v = .slice A z.length c ∧ RI W2 A z ∧ z.length ≤ 100000 := fun j hj => by
      rw [hblk2.cell]
      match j, hj with
      | 0, _ => exact ⟨_, rfl, hzv⟩
      | 1, _ => exact ⟨_, rfl, hyv⟩
      | 2, _ => exact ⟨_, rfl, hpv⟩
      | 3, _ => exact ⟨_, rfl, ha45⟩
    have hbl2 := endB (endB hbl hb2) hbB2
    have hp2 := hp1.below (endB hb2 hbB2)
    clear hblk2 hzv hyv hpv ha45 hpW1 ho45 hr45 haz1 hyr hav1 hcv
    generalize (meetL q1 y').length = km at *
    go_wp2_with fail
    clear hB2
    go_loopw [48] (fun i wr => ∃ j : Nat, j ≤ 4 ∧ i = .int .i64 j ∧ Below B2.heap.size B2 wr) (fun i _ => 4 - (intOf i).toNat)
    case atStart => exact ⟨0, Nat.zero_le _, rfl, Below.refl _ _⟩
    case round =>
      obtain ⟨j, hj, rfl, hbj⟩ := hrel
      by_cases hj4 : j < 4
      case neg =>
        obtain rfl : j = 4 := by omega
        go_wp2_with fail
        go_roundw
        case rel => exact ⟨k + 1, by omega, by go_num, endB hbl2 hbj⟩
        case measure => simp [intOf]; omega
      case pos =>
      obtain ⟨v, hcz, XQ, q2, qc, rfl, hqr, hql⟩ := hel2 j hj4
      have hj0 : (0 : Int) ≤ (j : Int) := by omega
      have hj1 : (j : Int) < 4 := by omega
      obtain ⟨W3, hW3⟩ : ∃ W3, W3 = wr := ⟨_, rfl⟩
      subst hW3
      have e3 := (hbj.cell (lt_of_cell hcz)).trans hcz
      have hp3 := hp2.below hbj
      have hq3 := hqr.below (endB hbB2 hbj)
      have hneg := cmpLs_neg q1 q2
      have hrng := cmpLs_rng q1 q2
      have L1 := lLess_any XP XQ q1 q2 pc qc W3 hp3 hq3 hpl hql
      have hbj3 := hbj
      clear hcz hqr
      obtain ⟨b0, hb0⟩ : ∃ b0, lessB q1 q2 = b0 := ⟨_, rfl⟩
      rw [hb0] at L1
      have L2 : ∀ W, RI W XP q1 → RI W XQ q2 → Calls Tryd.prog 37 #[.slice XP q1.length pc, .slice XQ q2.length qc] W (RetQ (.bool b0) W) := fun W h1 h2 => by
        have := r11Less_any XP XQ q1 q2 pc qc W h1 h2 hpl hql
        rw [hb0] at this; exact this
      have hmm : (meetL q1 q2).length ≤ 100000 := by unfold meetL; rw [lst_length]; omega
      obtain ⟨c0, hc0⟩ : ∃ c0, cmpLs q1 q2 = c0 := ⟨_, rfl⟩
      rw [hc0] at hneg hrng
      have C1 : ∀ W, RI W XP q1 → RI W XQ q2 → Calls Tryd.prog 39 #[.slice XP q1.length pc, .slice XQ q2.length qc] W (Ret (.int .i64 c0) W) := fun W h1 h2 => by
        have := lCompare_any XP XQ q1 q2 pc qc W h1 h2 hpl hql
        rw [hc0] at this; exact this
      have C2 : ∀ W, RI W XP q1 → RI W XQ q2 → Calls Tryd.prog 40 #[.slice XP q1.length pc, .slice XQ q2.length qc] W (RetQ (.int .i64 c0) W) := fun W h1 h2 => by
        have := r11Compare_any XP XQ q1 q2 pc qc W h1 h2 hpl hql
        rw [hc0] at this; exact this
      have C3 : ∀ W, RI W XP q1 → RI W XQ q2 → Calls Tryd.prog 39 #[.slice XQ q2.length qc, .slice XP q1.length pc] W (Ret (.int .i64 (-c0)) W) := fun W h1 h2 => by
        have := lCompare_any XQ XP q2 q1 qc pc W h2 h1 hql hpl
        rw [hneg] at this; exact this
      have hwr : IntKind.i64.wrap (-c0) = -c0 := by rw [IntKind.wrap_i64]; omega
      have HL2 := Lib.hid L2; have HC1 := Lib.hid C1; have HC2 := Lib.hid C2; have HC3 := Lib.hid C3
      clear hneg hrng hb0 hc0 L2 C1 C2 C3
      go_wp2_with fail
      refine L1.mono ?_
      clear L1
      rintro e W4 ⟨rfl, rfl⟩
      go_wp2_with fail
      refine (HL2.out W3 hp3 hq3).mono ?_
      rintro e W4 hh
      obtain ⟨rfl, hb4⟩ := hh.below
      clear hh
      have hp4 := hp3.below hb4; have hq4 := hq3.below hb4; have hbj4 := endB hbj3 hb4
      clear hp3 hq3 hb4 e3
      cases b0
      all_goals
        go_wp2_with fail
        refine (lMeet_any XP XQ q1 q2 pc qc W4 hp4 hq4 hpl hql).mono ?_
        rintro e W5 ⟨A5, c5, rfl, _, hr5, _, hb5⟩
        have hp5 := hp4.below hb5; have hq5 := hq4.below hb5; have hbj5 := endB hbj4 hb5
        go_wp2_with fail
        refine (r11Meet_any XP XQ q1 q2 pc qc W5 hp5 hq5 hpl hql).mono ?_
        rintro e W6 ⟨A6, c6, rfl, _, hr6, _, hb6⟩
        have hp6 := hp5.below hb6; have hq6 := hq5.below hb6; have hbj6 := endB hbj5 hb6
        go_wp2_with fail
        have H9 := ints_any A5 A6 (meetL q1 q2) (meetL q1 q2) c5 c6 W6 (by omega) (by omega) (hr5.below hb6) hr6
        rw [(eqB_iff _ _).2 rfl] at H9
        refine H9.mono ?_
        clear H9
        rintro e W7 hh
        obtain ⟨rfl, hb7⟩ := hh.below
        clear hh
        have hp7 := hp6.below hb7; have hq7 := hq6.below hb7; have hbj7 := endB hbj6 hb7
        clear hp4 hq4 hp5 hq5 hp6 hq6 hr5 hr6 hb5 hb6 hb7
        go_wp2_with fail
        refine (HC1.out W7 hp7 hq7).mono ?_
        rintro e W8 ⟨rfl, rfl⟩
        go_wp2_with fail
        refine (HC2.out W7 hp7 hq7).mono ?_
        rintro e W8 hh
        obtain ⟨rfl, hb8⟩ := hh.below
        clear hh
        have hp8 := hp7.below hb8; have hq8 := hq7.below hb8; have hbj8 := endB hbj7 hb8
        clear hp7 hq7 hb8
        go_wp2_with fail
        refine (HC3.out W8 hp8 hq8).mono ?_
        rintro e W9 ⟨rfl, rfl⟩
        go_wp2_with fail
        refine (HC2.out W8 hp8 hq8).mono ?_
        rintro e W9 hh
        obtain ⟨rfl, hb9⟩ := hh.below
        clear hh
        have hbj9 := endB hbj8 hb9
        clear hp8 hq8 hb9
        go_wp2_with fail
        go_roundw
        case rel => exact ⟨j + 1, by omega, by go_num, hbj9⟩
        case measure => simp [intOf]; omega
end Go.Proofs.YtiljbfeipfdmdaaDoor
