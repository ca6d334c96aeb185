/- The walk of the statement LabellingLattice. -/
import Derived.Test.YtiljbfeipfdmdaaDoorLc
import Derived.Test.YtiljbfeipfdmdaaDoorLb
import Derived.Test.YtiljbfeipfdmdaaDoorGst
namespace Go.Proofs.YtiljbfeipfdmdaaDoor
open Go.ChangeShapes Go.WideShapes Go.ChangeAt Go.RowKit

theorem OwnI.ri2 {w : World} {b : Nat} {A : Option Addr} {l : List Int} {c : Nat} (h : OwnI w b (.slice A l.length c) l) : RI w A l := h.ri

set_option maxRecDepth 100000 in
set_option maxHeartbeats 8000000 in
theorem lattice_law_any (A : Option Addr) (arg : List Int) (c : Nat) (w : World)
    (hlc : arg.length ≤ c) (hc : c ≤ 9223372036854775807) (hr : RI w A arg) (hx : ∀ x ∈ arg, -9223372036854775808 ≤ x ∧ x ≤ 9223372036854775807) (hT : Tab w) :
    Calls Tryd.prog 8 #[.slice A arg.length c] w (RetB (.bool true) w) := by
  go_enter Tryd.func8, Tryd.ntmps8
  go_wp2_with fail
  refine (new_any A arg c w hlc hc hr hx).mono ?_
  rintro e w1 ⟨p, rfl, hp, hs1, hb1⟩
  clear hr hx
  go_wp2_with fail
  refine (n_any p 6 w1 hs1 (by omega) (by omega)).mono ?_
  rintro e w2 ⟨d, rfl, hd1, hd2, hs2, hg2⟩
  have hB2 : Below w.heap.size w w2 := hb1.trans (below_of_grownBy hg2 hp hb1.size)
  obtain ⟨n, rfl⟩ := Int.eq_ofNat_of_zero_le hd1
  have hn : n ≤ 5 := by omega
  clear hs1 hb1 hg2 hd1 hd2
  go_wp2_with fail
  refine (labels_any p n w2 hs2 (by omega)).mono ?_
  rintro e w3 ⟨x, vx, rfl, hox, hlx, hs3, hg3⟩
  have hp2 : p < w2.heap.size := hs2.lt
  have hB3 : Below w.heap.size w w3 := hB2.trans (below_of_grownBy hg3 hp hB2.size)
  have Hox := Lib.hid hox; have Hlx := Lib.hid hlx
  clear hs2 hg3 hB2 hox hlx
  go_wp2_with fail
  refine (labels_any p n w3 hs3 (by omega)).mono ?_
  rintro e w4 ⟨y, vy, rfl, hoy, hly, hs4, hg4⟩
  have hp3 : p < w3.heap.size := hs3.lt
  have hB4 : Below w.heap.size w w4 := hB3.trans (below_of_grownBy hg4 hp hB3.size)
  have Hox4 : Hid (OwnI w4 w2.heap.size vx x) := Lib.hid (ownsRow_far Hox.out hg4 hp2)
  have Hoy := Lib.hid hoy; have Hly := Lib.hid hly
  clear hs3 hg4 hB3 Hox hoy hly
  go_wp2_with fail
  refine (labels_any p n w4 hs4 (by omega)).mono ?_
  rintro e w5 ⟨z, vz, rfl, hoz, hlz, hs5, hg5⟩
  have hB5 : Below w.heap.size w w5 := hB4.trans (below_of_grownBy hg5 hp hB4.size)
  have hox5 : OwnI w5 w2.heap.size vx x := ownsRow_far Hox4.out hg5 hp2
  have hoy5 : OwnI w5 w3.heap.size vy y := ownsRow_far Hoy.out hg5 hp3
  obtain ⟨Ax, cx, rfl, hrx, _⟩ := hox5.form
  obtain ⟨Ay, cy, rfl, hry, _⟩ := hoy5.form
  obtain ⟨Az, cz, rfl, hrz, _⟩ := hoz.form
  have hlx := Hlx.out; have hly := Hly.out
  have lx := (labB_iff.1 hlx).1
  have ly := (labB_iff.1 hly).1
  have lz := (labB_iff.1 hlz).1
  have Lx := Lib.hid lx; have Ly := Lib.hid ly; have Lz := Lib.hid lz
  have lm := meetL_len lx ly
  have ll := meetL_len lz lm
  have F1 := Lib.hid (meet_left lx ly)
  have F2 := Lib.hid (meet_right lx ly)
  have F3 := Lib.hid (lessB_trans (meet_right lz lm) (meet_left lx ly))
  have F4 : Hid (lessB z x = true → lessB z y = true → lessB z (meetL x y) = true) := Lib.hid fun h1 h2 => meet_great h1 h2
  have F5 := Lib.hid (less_both hlx hly)
  have F6 : Hid (lessB z x = true → lessB x y = true → lessB z y = true) := Lib.hid fun h1 h2 => lessB_trans h1 h2
  have sx : x.length ≤ 5 := by omega
  have sy : y.length ≤ 5 := by omega
  have sz : z.length ≤ 5 := by omega
  have sm : (meetL x y).length ≤ 5 := by omega
  have sl : (meetL z (meetL x y)).length ≤ 5 := by omega
  clear hs4 hg5 hB4 Hox4 Hoy hox5 hoy5 hoz hlx hly hlz Hlx Hly lx ly lz lm ll Lx Ly Lz hs5 hp2 hp3
  have hT5 := hT.below hB5
  clear hT
  go_wp2_with fail
  refine (lMeet_any Ax Ay x y cx cy w5 hrx hry (by omega) (by omega)).mono ?_
  rintro e w6 ⟨Am, cm, rfl, _, hrm, _, hb6⟩
  go_wp2_with fail
  refine (lMeet_any Az Am z (meetL x y) cz cm w6 (hrz.below hb6) hrm (by omega) (by omega)).mono ?_
  rintro e w7 ⟨Al, cl, rfl, _, hrl, _, hb7⟩
  have hb57 := endB hb6 hb7
  have hB7 := endB hB5 hb57
  have hT7 := hT5.below hb57
  have hrx7 := hrx.below hb57; have hry7 := hry.below hb57; have hrz7 := hrz.below hb57; have hrm7 := hrm.below hb7
  clear hrx hry hrz hrm hb6 hb7 hb57 hB5 hT5
  obtain ⟨P, hP⟩ : ∃ P, lessB z x = P := ⟨_, rfl⟩
  obtain ⟨Q, hQ⟩ : ∃ Q, lessB z y = Q := ⟨_, rfl⟩
  obtain ⟨M, hM⟩ : ∃ M, lessB z (meetL x y) = M := ⟨_, rfl⟩
  obtain ⟨X, hX⟩ : ∃ X, lessB x y = X := ⟨_, rfl⟩
  obtain ⟨Y, hY⟩ : ∃ Y, lessB y x = Y := ⟨_, rfl⟩
  have hE : eqB x y = (X && Y) := by rw [← F5.out, hX, hY]
  have f4 : P = true → Q = true → M = true := by have := F4.out; rw [hP, hQ, hM] at this; exact this
  have f6 : P = true → X = true → Q = true := by have := F6.out; rw [hP, hQ, hX] at this; exact this
  have L : ∀ W, Below w7.heap.size w7 W →
      Calls Tryd.prog 36 #[.slice Am (meetL x y).length cm, .slice Ax x.length cx] W (Ret (.bool true) W) ∧
      Calls Tryd.prog 36 #[.slice Am (meetL x y).length cm, .slice Ay y.length cy] W (Ret (.bool true) W) ∧
      Calls Tryd.prog 36 #[.slice Ax x.length cx, .slice Ax x.length cx] W (Ret (.bool true) W) ∧
      Calls Tryd.prog 36 #[.slice Al (meetL z (meetL x y)).length cl, .slice Ax x.length cx] W (Ret (.bool true) W) ∧
      Calls Tryd.prog 36 #[.slice Az z.length cz, .slice Ax x.length cx] W (Ret (.bool P) W) ∧
      Calls Tryd.prog 36 #[.slice Az z.length cz, .slice Ay y.length cy] W (Ret (.bool Q) W) ∧
      Calls Tryd.prog 36 #[.slice Az z.length cz, .slice Am (meetL x y).length cm] W (Ret (.bool M) W) ∧
      Calls Tryd.prog 36 #[.slice Ax x.length cx, .slice Ay y.length cy] W (Ret (.bool X) W) ∧
      Calls Tryd.prog 36 #[.slice Ay y.length cy, .slice Ax x.length cx] W (Ret (.bool Y) W) ∧
      Calls Tryd.prog 21 #[.slice Ax x.length cx, .slice Ay y.length cy] W (RetQ (.bool (X && Y)) W) := fun W hb => by
    have qx := hrx7.below hb; have qy := hry7.below hb; have qz := hrz7.below hb; have qm := hrm7.below hb; have ql := hrl.below hb
    refine ⟨?_, ?_, ?_, ?_, ?_, ?_, ?_, ?_, ?_, ?_⟩
    · have := lLess_any Am Ax (meetL x y) x cm cx W qm qx (by omega) (by omega); rw [F1.out] at this; exact this
    · have := lLess_any Am Ay (meetL x y) y cm cy W qm qy (by omega) (by omega); rw [F2.out] at this; exact this
    · have := lLess_any Ax Ax x x cx cx W qx qx (by omega) (by omega); rw [lessB_refl] at this; exact this
    · have := lLess_any Al Ax (meetL z (meetL x y)) x cl cx W ql qx (by omega) (by omega); rw [F3.out] at this; exact this
    · have := lLess_any Az Ax z x cz cx W qz qx (by omega) (by omega); rw [hP] at this; exact this
    · have := lLess_any Az Ay z y cz cy W qz qy (by omega) (by omega); rw [hQ] at this; exact this
    · have := lLess_any Az Am z (meetL x y) cz cm W qz qm (by omega) (by omega); rw [hM] at this; exact this
    · have := lLess_any Ax Ay x y cx cy W qx qy (by omega) (by omega); rw [hX] at this; exact this
    · have := lLess_any Ay Ax y x cy cx W qy qx (by omega) (by omega); rw [hY] at this; exact this
    · have := ints_any Ax Ay x y cx cy W (by omega) (by omega) qx qy; rw [hE] at this; exact this
  have L' := Lib.hid L
  clear hP hQ hM hX hY hE L F1 F2 F3 F4 F5 F6 hrx7 hry7 hrz7 hrm7 hrl
  generalize (meetL z (meetL x y)).length = kl at *
  generalize (meetL x y).length = km at *
  have hq : ∀ W, Below w7.heap.size w7 W → Below w.heap.size w W := fun W h => endB hB7 h
  have hall : (P = true ∧ Q = true ∧ M = true ∨ (P && Q) = false) ∧ (Q || !P || !X) = true := by
    cases P <;> cases Q <;> cases M <;> cases X <;> simp_all
  clear f4 f6
  have Hq := Lib.hid hq; clear hq
  cases P <;> cases Q <;> cases M <;> cases X <;> cases Y <;> first
    | (exfalso; revert hall; decide)
    | (clear hall
       go_wp2_with (go_at_call 36; first
        | ((with_reducible refine ((L'.out w7 (Below.refl _ _)).1).mono ?_); rintro e w8 ⟨rfl, rfl⟩)
        | ((with_reducible refine ((L'.out w7 (Below.refl _ _)).2.1).mono ?_); rintro e w8 ⟨rfl, rfl⟩)
        | ((with_reducible refine ((L'.out w7 (Below.refl _ _)).2.2.1).mono ?_); rintro e w8 ⟨rfl, rfl⟩)
        | ((with_reducible refine ((L'.out w7 (Below.refl _ _)).2.2.2.1).mono ?_); rintro e w8 ⟨rfl, rfl⟩)
        | ((with_reducible refine ((L'.out w7 (Below.refl _ _)).2.2.2.2.1).mono ?_); rintro e w8 ⟨rfl, rfl⟩)
        | ((with_reducible refine ((L'.out w7 (Below.refl _ _)).2.2.2.2.2.1).mono ?_); rintro e w8 ⟨rfl, rfl⟩)
        | ((with_reducible refine ((L'.out w7 (Below.refl _ _)).2.2.2.2.2.2.1).mono ?_); rintro e w8 ⟨rfl, rfl⟩)
        | ((with_reducible refine ((L'.out w7 (Below.refl _ _)).2.2.2.2.2.2.2.1).mono ?_); rintro e w8 ⟨rfl, rfl⟩)
        | ((with_reducible refine ((L'.out w7 (Below.refl _ _)).2.2.2.2.2.2.2.2.1).mono ?_); rintro e w8 ⟨rfl, rfl⟩))
       refine ((L'.out w7 (Below.refl _ _)).2.2.2.2.2.2.2.2.2).mono ?_
       rintro e w8 hh
       obtain ⟨rfl, hbW⟩ := hh.below
       clear hh
       go_wp2_with (go_at_call 36; first
        | ((with_reducible refine ((L'.out w8 hbW).2.2.2.2.1).mono ?_); rintro e w9 ⟨rfl, rfl⟩)
        | ((with_reducible refine ((L'.out w8 hbW).2.2.2.2.2.1).mono ?_); rintro e w9 ⟨rfl, rfl⟩)
        | ((with_reducible refine ((L'.out w8 hbW).2.2.2.2.2.2.2.1).mono ?_); rintro e w9 ⟨rfl, rfl⟩))
       refine (awake11_any w8 (hT7.below hbW)).mono ?_
       rintro e w9 ⟨rfl, hb9⟩
       go_wp2_with fail
       go_ret
       exact ⟨rfl, Hq.out _ (endB hbW hb9)⟩)
end Go.Proofs.YtiljbfeipfdmdaaDoor
