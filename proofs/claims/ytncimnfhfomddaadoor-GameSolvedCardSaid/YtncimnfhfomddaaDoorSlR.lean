import Derived.Test.YtncimnfhfomddaaDoorGd
import Derived.Test.YtncimnfhfomddaaDoorSvA
/- Package game: the errors of Solve. Printed by gen_sole.py. -/
namespace Go.Proofs.YtncimnfhfomddaaDoor
open Go.ChangeShapes Go.WideShapes Go.ChangeAt Go.RowKit

/-- the error of Solve: the graph's, the game's, the root's, the size's -/
def solE (N : Int) (l : List (Int × Int)) (k root : Int) : Int :=
  if valE N l ≠ 0 then valE N l else if ¬ (k = 1 ∨ k = 2) then 4 else if root < 0 ∨ N ≤ root then 1 else if k = 2 ∧ 10 < N then 2 else 0

set_option maxRecDepth 100000 in
set_option maxHeartbeats 8000000 in
theorem gSolveE_any (A : Option Addr) (N : Int) (l : List (Int × Int)) (c : Nat) (k root : Int) (w : World) (hr : RP w A l) (hlen : l.length ≤ 100000) (hbad : solE N l k root ≠ 0) :
    Calls Tryd.prog 35 #[.agg #[.int .i64 N, .slice A l.length c], .int .i64 k, .int .i64 root] w (RetB (.tuple #[.agg #[.int .i64 0, .int .i64 0, .int .i64 0, .slice none 0 0], .int .i64 (solE N l k root)]) w) := by
  have hmf : ∀ fn first cap w, (Instr.makeFunc fn first cap).run Tryd.prog w = .ok (.func fn first cap) w := fun _ _ _ _ => rfl
  have Hbad := Lib.hid hbad
  obtain ⟨ve, hve⟩ : ∃ ve, valE N l = ve := ⟨_, rfl⟩
  obtain ⟨se, hse⟩ : ∃ se, solE N l k root = se := ⟨_, rfl⟩
  rw [hse] at hbad ⊢
  have Hse := Lib.hid hse; have Hve := Lib.hid hve
  clear hbad hse
  go_enter Tryd.func35, Tryd.ntmps35
  go_wp2_with fail
  obtain ⟨W0, hW, k0, k1, hb0, hs0⟩ : ∃ W0, (w.alloc (.cells #[.int .i64 N, .slice A l.length c] 24)).alloc (.cells #[.int .i64 0, .int .i64 0, .int .i64 0, .slice none 0 0] 64) = W0 ∧ Blk W0 w.heap.size 24 #[.int .i64 N, .slice A l.length c] ∧ Blk W0 (w.heap.size + 1) 64 #[.int .i64 0, .int .i64 0, .int .i64 0, .slice none 0 0] ∧ Below w.heap.size w W0 ∧ W0.heap.size = w.heap.size + 2 :=
    ⟨_, rfl, (Blk.new _ _ _).alloc _, by have := Blk.new (w.alloc (.cells #[.int .i64 N, .slice A l.length c] 24)) 64 #[.int .i64 0, .int .i64 0, .int .i64 0, .slice none 0 0]; rw [World.size_alloc] at this; exact this, ((Below.refl _ _).alloc (Nat.le_refl _) _).alloc (by simp) _, by simp⟩
  rw [hW]
  have hr0 := hr.below hb0
  clear hW hr
  refine (gValidate_any A N l c W0 hr0 hlen).mono ?_
  rintro e w1 ⟨rfl, hb1⟩
  rw [hve]
  obtain ⟨c0, c1, -, -⟩ := (k0.below hb1 k0.lt).two
  have k5 := k1.below hb1 k1.lt
  have hb01 := endB hb0 hb1
  clear k0 k1 hr0 hb0 hb1 hs0 hve
  by_cases hv0 : ve = 0
  case neg =>
    have he : se = ve := by rw [← Hse.out]; unfold solE; rw [Hve.out, if_pos hv0]
    subst he
    have hv1 : (se != 0) = true := by simpa using hv0
    clear hv0
    have z0 := k5.frozen 0; have z1 := k5.frozen 1; have z2 := k5.frozen 2; have z3 := k5.frozen 3
    have y0 : w1.cell? ⟨w.heap.size + 1, 0, none⟩ = some (.int .i64 0) := k5.cell 0
    have y1 : w1.cell? ⟨w.heap.size + 1, 1, none⟩ = some (.int .i64 0) := k5.cell 1
    have y2 : w1.cell? ⟨w.heap.size + 1, 2, none⟩ = some (.int .i64 0) := k5.cell 2
    have y3 : w1.cell? ⟨w.heap.size + 1, 3, none⟩ = some (.slice none 0 0) := k5.cell 3
    have k6 := (((k5.set_ 0 (.int .i64 0)).set_ 1 (.int .i64 0)).set_ 2 (.int .i64 0)).set_ 3 (.slice none 0 0)
    have u0 := k6.cell 0; have u1 := k6.cell 1; have u2 := k6.cell 2; have u3 := k6.cell 3
    simp at u0 u1 u2 u3
    have hE := (((hb01.setCell (p := ⟨w.heap.size + 1, 0, none⟩) (Nat.le_succ _) (.int .i64 0)).setCell (p := ⟨w.heap.size + 1, 1, none⟩) (Nat.le_succ _) (.int .i64 0)).setCell (p := ⟨w.heap.size + 1, 2, none⟩) (Nat.le_succ _) (.int .i64 0)).setCell (p := ⟨w.heap.size + 1, 3, none⟩) (Nat.le_succ _) (.slice none 0 0)
    have HE := Lib.hid hE
    clear k6 k5 hE hb01
    go_wp2_with fail
    refine bodyPost_ret (v := .tuple #[.agg #[.int .i64 0, .int .i64 0, .int .i64 0, .slice none 0 0], .int .i64 (se)]) (by simp [results, Tryd.results35, go_sem, u0, u1, u2, u3]) rfl ?_
    exact ⟨rfl, HE.out⟩
  case pos =>
  subst hv0
  go_wp2_with fail
  refine (gExists_any k w1).mono ?_
  rintro e w2 ⟨rfl, rfl⟩
  by_cases hk : k = 1 ∨ k = 2
  case neg =>
    have he : se = 4 := by rw [← Hse.out]; unfold solE; rw [Hve.out, if_neg (by simp), if_pos hk]
    subst he
    have hkb : (k == 1 || k == 2) = false := by
      rw [Bool.or_eq_false_iff, beq_eq_false_iff_ne, beq_eq_false_iff_ne]
      exact ⟨fun e => hk (.inl e), fun e => hk (.inr e)⟩
    rw [hkb]
    clear hk hkb
    have z0 := k5.frozen 0; have z1 := k5.frozen 1; have z2 := k5.frozen 2; have z3 := k5.frozen 3
    have y0 : w1.cell? ⟨w.heap.size + 1, 0, none⟩ = some (.int .i64 0) := k5.cell 0
    have y1 : w1.cell? ⟨w.heap.size + 1, 1, none⟩ = some (.int .i64 0) := k5.cell 1
    have y2 : w1.cell? ⟨w.heap.size + 1, 2, none⟩ = some (.int .i64 0) := k5.cell 2
    have y3 : w1.cell? ⟨w.heap.size + 1, 3, none⟩ = some (.slice none 0 0) := k5.cell 3
    have k6 := (((k5.set_ 0 (.int .i64 0)).set_ 1 (.int .i64 0)).set_ 2 (.int .i64 0)).set_ 3 (.slice none 0 0)
    have u0 := k6.cell 0; have u1 := k6.cell 1; have u2 := k6.cell 2; have u3 := k6.cell 3
    simp at u0 u1 u2 u3
    have hE := (((hb01.setCell (p := ⟨w.heap.size + 1, 0, none⟩) (Nat.le_succ _) (.int .i64 0)).setCell (p := ⟨w.heap.size + 1, 1, none⟩) (Nat.le_succ _) (.int .i64 0)).setCell (p := ⟨w.heap.size + 1, 2, none⟩) (Nat.le_succ _) (.int .i64 0)).setCell (p := ⟨w.heap.size + 1, 3, none⟩) (Nat.le_succ _) (.slice none 0 0)
    have HE := Lib.hid hE
    clear k6 k5 hE hb01
    go_wp2_with fail
    refine bodyPost_ret (v := .tuple #[.agg #[.int .i64 0, .int .i64 0, .int .i64 0, .slice none 0 0], .int .i64 (4)]) (by simp [results, Tryd.results35, go_sem, u0, u1, u2, u3]) rfl ?_
    exact ⟨rfl, HE.out⟩
  case pos =>
  have hkb : (k == 1 || k == 2) = true := by rw [Bool.or_eq_true, beq_iff_eq, beq_iff_eq]; exact hk
  rw [hkb]
  by_cases hrt : root < 0 ∨ N ≤ root
  case pos =>
    have he : se = 1 := by rw [← Hse.out]; unfold solE; rw [Hve.out, if_neg (by simp), if_neg (fun h => h hk), if_pos hrt]
    subst he
    clear hk hkb
    by_cases hr1 : root < 0
    · have hr2 : decide (root < 0) = true := decide_eq_true hr1
      clear hrt
      have z0 := k5.frozen 0; have z1 := k5.frozen 1; have z2 := k5.frozen 2; have z3 := k5.frozen 3
      have y0 : w1.cell? ⟨w.heap.size + 1, 0, none⟩ = some (.int .i64 0) := k5.cell 0
      have y1 : w1.cell? ⟨w.heap.size + 1, 1, none⟩ = some (.int .i64 0) := k5.cell 1
      have y2 : w1.cell? ⟨w.heap.size + 1, 2, none⟩ = some (.int .i64 0) := k5.cell 2
      have y3 : w1.cell? ⟨w.heap.size + 1, 3, none⟩ = some (.slice none 0 0) := k5.cell 3
      have k6 := (((k5.set_ 0 (.int .i64 0)).set_ 1 (.int .i64 0)).set_ 2 (.int .i64 0)).set_ 3 (.slice none 0 0)
      have u0 := k6.cell 0; have u1 := k6.cell 1; have u2 := k6.cell 2; have u3 := k6.cell 3
      simp at u0 u1 u2 u3
      have hE := (((hb01.setCell (p := ⟨w.heap.size + 1, 0, none⟩) (Nat.le_succ _) (.int .i64 0)).setCell (p := ⟨w.heap.size + 1, 1, none⟩) (Nat.le_succ _) (.int .i64 0)).setCell (p := ⟨w.heap.size + 1, 2, none⟩) (Nat.le_succ _) (.int .i64 0)).setCell (p := ⟨w.heap.size + 1, 3, none⟩) (Nat.le_succ _) (.slice none 0 0)
      have HE := Lib.hid hE
      clear k6 k5 hE hb01
      go_wp2_with fail
      refine bodyPost_ret (v := .tuple #[.agg #[.int .i64 0, .int .i64 0, .int .i64 0, .slice none 0 0], .int .i64 (1)]) (by simp [results, Tryd.results35, go_sem, u0, u1, u2, u3]) rfl ?_
      exact ⟨rfl, HE.out⟩
    · have hr2 : decide (root < 0) = false := decide_eq_false hr1
      have hr3 : decide (N ≤ root) = true := decide_eq_true (by omega)
      clear hrt
      have z0 := k5.frozen 0; have z1 := k5.frozen 1; have z2 := k5.frozen 2; have z3 := k5.frozen 3
      have y0 : w1.cell? ⟨w.heap.size + 1, 0, none⟩ = some (.int .i64 0) := k5.cell 0
      have y1 : w1.cell? ⟨w.heap.size + 1, 1, none⟩ = some (.int .i64 0) := k5.cell 1
      have y2 : w1.cell? ⟨w.heap.size + 1, 2, none⟩ = some (.int .i64 0) := k5.cell 2
      have y3 : w1.cell? ⟨w.heap.size + 1, 3, none⟩ = some (.slice none 0 0) := k5.cell 3
      have k6 := (((k5.set_ 0 (.int .i64 0)).set_ 1 (.int .i64 0)).set_ 2 (.int .i64 0)).set_ 3 (.slice none 0 0)
      have u0 := k6.cell 0; have u1 := k6.cell 1; have u2 := k6.cell 2; have u3 := k6.cell 3
      simp at u0 u1 u2 u3
      have hE := (((hb01.setCell (p := ⟨w.heap.size + 1, 0, none⟩) (Nat.le_succ _) (.int .i64 0)).setCell (p := ⟨w.heap.size + 1, 1, none⟩) (Nat.le_succ _) (.int .i64 0)).setCell (p := ⟨w.heap.size + 1, 2, none⟩) (Nat.le_succ _) (.int .i64 0)).setCell (p := ⟨w.heap.size + 1, 3, none⟩) (Nat.le_succ _) (.slice none 0 0)
      have HE := Lib.hid hE
      clear k6 k5 hE hb01
      go_wp2_with fail
      refine bodyPost_ret (v := .tuple #[.agg #[.int .i64 0, .int .i64 0, .int .i64 0, .slice none 0 0], .int .i64 (1)]) (by simp [results, Tryd.results35, go_sem, u0, u1, u2, u3]) rfl ?_
      exact ⟨rfl, HE.out⟩
  case neg =>
  have hr1 : decide (root < 0) = false := decide_eq_false (by omega)
  have hr2 : decide (N ≤ root) = false := decide_eq_false (by omega)
  have hk2 : k = 2 ∧ 10 < N := by
    refine Classical.byContradiction fun hn => Hbad.out ?_
    unfold solE
    rw [Hve.out, if_neg (by simp), if_neg (fun h => h hk), if_neg hrt, if_neg hn]
  have he : se = 2 := by rw [← Hse.out]; unfold solE; rw [Hve.out, if_neg (by simp), if_neg (fun h => h hk), if_neg hrt, if_pos hk2]
  subst he
  obtain ⟨rfl, h10⟩ := hk2
  have hn1 : decide (10 < N) = true := decide_eq_true h10
  clear hk hkb hrt
  have z0 := k5.frozen 0; have z1 := k5.frozen 1; have z2 := k5.frozen 2; have z3 := k5.frozen 3
  have y0 : w1.cell? ⟨w.heap.size + 1, 0, none⟩ = some (.int .i64 0) := k5.cell 0
  have y1 : w1.cell? ⟨w.heap.size + 1, 1, none⟩ = some (.int .i64 0) := k5.cell 1
  have y2 : w1.cell? ⟨w.heap.size + 1, 2, none⟩ = some (.int .i64 0) := k5.cell 2
  have y3 : w1.cell? ⟨w.heap.size + 1, 3, none⟩ = some (.slice none 0 0) := k5.cell 3
  have k6 := (((k5.set_ 0 (.int .i64 0)).set_ 1 (.int .i64 0)).set_ 2 (.int .i64 0)).set_ 3 (.slice none 0 0)
  have u0 := k6.cell 0; have u1 := k6.cell 1; have u2 := k6.cell 2; have u3 := k6.cell 3
  simp at u0 u1 u2 u3
  have hE := (((hb01.setCell (p := ⟨w.heap.size + 1, 0, none⟩) (Nat.le_succ _) (.int .i64 0)).setCell (p := ⟨w.heap.size + 1, 1, none⟩) (Nat.le_succ _) (.int .i64 0)).setCell (p := ⟨w.heap.size + 1, 2, none⟩) (Nat.le_succ _) (.int .i64 0)).setCell (p := ⟨w.heap.size + 1, 3, none⟩) (Nat.le_succ _) (.slice none 0 0)
  have HE := Lib.hid hE
  clear k6 k5 hE hb01
  go_wp2_with fail
  refine bodyPost_ret (v := .tuple #[.agg #[.int .i64 0, .int .i64 0, .int .i64 0, .slice none 0 0], .int .i64 (2)]) (by simp [results, Tryd.results35, go_sem, u0, u1, u2, u3]) rfl ?_
  exact ⟨rfl, HE.out⟩
end Go.Proofs.YtncimnfhfomddaaDoor

/- Package game: the errors of arguments at a line of one node. -/
namespace Go.Proofs.YtncimnfhfomddaaDoor
open Go.ChangeShapes Go.WideShapes Go.ChangeAt Go.RowKit

/-- the first error of a graph, a game and a line of one node, but for ErrState -/
def argE (N : Int) (l : List (Int × Int)) (k root : Int) : Int :=
  if valE N l ≠ 0 then valE N l else if ¬ (k = 1 ∨ k = 2) then 4 else if root < 0 ∨ N ≤ root then 1 else 0

set_option maxRecDepth 100000 in
set_option maxHeartbeats 8000000 in
theorem gArgsE_any (A : Option Addr) (N : Int) (l : List (Int × Int)) (c : Nat) (k root : Int) (AL : Option Addr) (cl : Nat) (w : World) (hr : RP w A l) (hlen : l.length ≤ 100000) (hrl : RI w AL [root]) (hbad : argE N l k root ≠ 0) :
    Calls Tryd.prog 89 #[.agg #[.int .i64 N, .slice A l.length c], .int .i64 k, .slice AL 1 cl] w (RetB (.int .i64 (argE N l k root)) w) := by
  have Hbad := Lib.hid hbad
  obtain ⟨ve, hve⟩ : ∃ ve, valE N l = ve := ⟨_, rfl⟩
  obtain ⟨se, hse⟩ : ∃ se, argE N l k root = se := ⟨_, rfl⟩
  rw [hse] at hbad ⊢
  have Hse := Lib.hid hse; have Hve := Lib.hid hve
  clear hbad hse
  obtain ⟨bb, oo, rfl, hc⟩ := hrl.at_ (k := 0) (by simp)
  rw [List.getElem_cons_zero, Nat.add_zero] at hc
  go_enter Tryd.func89, Tryd.ntmps89
  go_upto_region 1 with fail
  obtain ⟨W0, hW, kn, hb0, hs0⟩ : ∃ W0, w.alloc (.cells #[.int .i64 N, .slice A l.length c] 24) = W0 ∧ Blk W0 w.heap.size 24 #[.int .i64 N, .slice A l.length c] ∧ Below w.heap.size w W0 ∧ W0.heap.size = w.heap.size + 1 := ⟨_, rfl, Blk.new _ _ _, newB _ _, by simp⟩
  rw [hW]
  obtain ⟨c0, c1, -, -⟩ := kn.two
  have hr0 := hr.below hb0
  have hc0 := (hb0.cell (lt_of_cell hc)).trans hc
  clear hW hr hrl hc
  go_wp2_with fail
  refine (gValidate_any A N l c W0 hr0 hlen).mono ?_
  rintro e w1 ⟨rfl, hb1⟩
  rw [hve]
  obtain ⟨d0, d1, -, -⟩ := (kn.below hb1 kn.lt).two
  have hc1 := (hb1.cell (lt_of_cell hc0)).trans hc0
  have hb01 := endB hb0 hb1
  have Hb := Lib.hid hb01
  clear kn c0 c1 hr0 hc0 hb0 hb1 hs0 hve hb01
  by_cases hv0 : ve = 0
  case neg =>
    have he : se = ve := by rw [← Hse.out]; unfold argE; rw [Hve.out, if_pos hv0]
    subst he
    have hv1 : (se != 0) = true := by simpa using hv0
    clear hv0
    go_wp2_with fail
    go_ret
    exact ⟨rfl, Hb.out⟩
  case pos =>
  subst hv0
  go_wp2_with fail
  refine (gExists_any k w1).mono ?_
  rintro e w2 ⟨rfl, rfl⟩
  by_cases hk : k = 1 ∨ k = 2
  case neg =>
    have he : se = 4 := by rw [← Hse.out]; unfold argE; rw [Hve.out, if_neg (by simp), if_pos hk]
    subst he
    have hkb : (k == 1 || k == 2) = false := by
      rw [Bool.or_eq_false_iff, beq_eq_false_iff_ne, beq_eq_false_iff_ne]
      exact ⟨fun e => hk (.inl e), fun e => hk (.inr e)⟩
    rw [hkb]
    clear hk hkb
    go_wp2_with fail
    go_ret
    exact ⟨rfl, Hb.out⟩
  case pos =>
  have hkb : (k == 1 || k == 2) = true := by rw [Bool.or_eq_true, beq_iff_eq, beq_iff_eq]; exact hk
  rw [hkb]
  have hrt : root < 0 ∨ N ≤ root := by
    refine Classical.byContradiction fun hn => Hbad.out ?_
    unfold argE
    rw [Hve.out, if_neg (by simp), if_neg (fun h => h hk), if_neg hn]
  have he : se = 1 := by rw [← Hse.out]; unfold argE; rw [Hve.out, if_neg (by simp), if_neg (fun h => h hk), if_pos hrt]
  subst he
  clear hk hkb
  go_wp2_with fail
  go_loopw [20] (fun t20 wx => t20 = .int .i64 0 ∧ wx = w1) (fun _ _ => 0)
  case atStart => exact ⟨rfl, rfl⟩
  case round =>
    obtain ⟨rfl, rfl⟩ := hrel
    by_cases hr1 : root < 0
    · have hr2 : decide (root < 0) = true := decide_eq_true hr1
      clear hrt
      go_wp2_with fail
      go_ret
      exact ⟨rfl, Hb.out⟩
    · have hr2 : decide (root < 0) = false := decide_eq_false hr1
      have hr3 : decide (N ≤ root) = true := decide_eq_true (by omega)
      clear hrt
      go_wp2_with fail
      go_ret
      exact ⟨rfl, Hb.out⟩

set_option maxRecDepth 100000 in
set_option maxHeartbeats 8000000 in
theorem gMovesE_any (A : Option Addr) (N : Int) (l : List (Int × Int)) (c : Nat) (k root : Int) (AL : Option Addr) (cl : Nat) (w : World) (hr : RP w A l) (hlen : l.length ≤ 100000) (hrl : RI w AL [root]) (hbad : argE N l k root ≠ 0) :
    Calls Tryd.prog 39 #[.agg #[.int .i64 N, .slice A l.length c], .int .i64 k, .slice AL 1 cl] w (RetB (.tuple #[.slice none 0 0, .int .i64 (argE N l k root)]) w) := by
  have hb1 : (argE N l k root != 0) = true := by simpa using hbad
  have hargs := fun W (hb : Below w.heap.size w W) => gArgsE_any A N l c k root AL cl W (hr.below hb) hlen (hrl.below hb) hbad
  obtain ⟨se, hse⟩ : ∃ se, argE N l k root = se := ⟨_, rfl⟩
  rw [hse] at hb1 hargs ⊢
  have Hargs := Lib.hid hargs
  clear hargs hbad hr hrl hse
  go_enter Tryd.func39, Tryd.ntmps39
  go_upto_region 1 with fail
  obtain ⟨W0, hW, kn, hb0, hs0⟩ : ∃ W0, w.alloc (.cells #[.int .i64 N, .slice A l.length c] 24) = W0 ∧ Blk W0 w.heap.size 24 #[.int .i64 N, .slice A l.length c] ∧ Below w.heap.size w W0 ∧ W0.heap.size = w.heap.size + 1 := ⟨_, rfl, Blk.new _ _ _, newB _ _, by simp⟩
  rw [hW]
  obtain ⟨c0, c1, -, -⟩ := kn.two
  have Ha := Lib.hid (Hargs.out W0 hb0)
  clear hW kn
  go_wp2_with fail
  refine Ha.out.mono ?_
  rintro e w1 ⟨rfl, hb1'⟩
  have Hb := Lib.hid (endB hb0 hb1')
  clear hb0 hb1' c0 c1 Ha
  go_wp2_with fail
  go_ret2
  exact ⟨rfl, Hb.out⟩
end Go.Proofs.YtncimnfhfomddaaDoor

/- Package game: ErrState; Solve and Moves at a line of one node, at any graph. Printed by gen_slr.py. -/
namespace Go.Proofs.YtncimnfhfomddaaDoor
open Go.ChangeShapes Go.WideShapes Go.ChangeAt Go.RowKit

set_option maxRecDepth 100000 in
set_option maxHeartbeats 8000000 in
theorem gPlayedS_any {n : Nat} {l : List (Int × Int)} (hv : InR n l) (gB gO : Nat) (A : Option Addr) (line : List Nat) (c : Nat) (w : World) (hne : line ≠ []) (hx : ∀ x ∈ line, x < n) (hl : line.length ≤ 1000) (hcp : line.length ≤ c) (hself : attQ l (line.headD 0) (line.headD 0) = true) (hr : RI w A (line.map Int.ofNat)) (hnr : NetR w n l (some ⟨gB, 0, none⟩) (some ⟨gO, 0, none⟩)) (hT : Tab w) :
    Calls Tryd.prog 124 #[.agg #[.int .u64 ((allN n : Nat) : Int), .slice (some ⟨gB, 0, none⟩) n n, .slice (some ⟨gO, 0, none⟩) n n], .int .i64 2, .slice A line.length c] w (RetB (.bool false) w) := by
  have hn := hv.1
  have hpos : 0 < line.length := List.length_pos_iff.2 hne
  obtain ⟨x, hxe⟩ : ∃ x, line.headD 0 = x := ⟨_, rfl⟩
  have hx0e : line[0] = x := by rw [← hxe]; cases line with | nil => exact absurd rfl hne | cons a r => rfl
  rw [hxe] at hself
  have hxn : x < n := by rw [← hx0e]; exact hx _ (List.getElem_mem _)
  obtain ⟨bb, oo, rfl, hc⟩ := hr.at_ (k := 0) (by rw [List.length_map]; exact hpos)
  rw [List.getElem_map, hx0e, Int.ofNat_eq_natCast, Nat.add_zero] at hc
  obtain ⟨b2, o2, hB2, hcb⟩ := hnr.b x (by rw [byL_length]; exact hxn)
  injection hB2 with hB2; injection hB2 with ea eb _; subst ea; subst eb
  rw [Nat.zero_add] at hcb
  have hbu : (byL n l).getD x 0 < 18446744073709551616 := by rw [byL_at hxn]; exact u64_of hn (mk_pow (inR_flip hv) x)
  have hbt := by_testBit hv hxn x
  generalize (byL n l).getD x 0 = bx at *
  have hhas := fun W => netHas_any bx x hbu (by omega) W
  rw [hbt] at hhas
  have hx0 : (0 : Int) ≤ (x : Int) := by omega
  have hx1 : (x : Int) < (n : Int) := by omega
  have hposI : (0 : Int) < (line.length : Int) := by omega
  have Hv := Lib.hid hv; have Hx := Lib.hid hx; have Hne := Lib.hid hne; have Hpos := Lib.hid hpos; have Hself := Lib.hid hself
  clear hv hx hne hx0e hxe hbu hbt hpos hself
  go_enter Tryd.func124, Tryd.ntmps124
  go_upto_region 1 with fail
  obtain ⟨W0, hW, kn, hb0, hs0⟩ := boxedN w 97 (.int .u64 ((allN n : Nat) : Int)) (.slice (some ⟨gB, 0, none⟩) n n) (.slice (some ⟨gO, 0, none⟩) n n)
  rw [hW]
  have d0 : W0.cell? ⟨w.heap.size, 0, none⟩ = some (.int .u64 ((allN n : Nat) : Int)) := kn.cell 0
  have d1 : W0.cell? ⟨w.heap.size, 1, none⟩ = some (.slice (some ⟨gB, 0, none⟩) n n) := kn.cell 1
  have d2 : W0.cell? ⟨w.heap.size, 2, none⟩ = some (.slice (some ⟨gO, 0, none⟩) n n) := kn.cell 2
  have hc' := (hb0.cell (lt_of_cell hc)).trans hc
  have hcb' := (hb0.cell (lt_of_cell hcb)).trans hcb
  have hr0 := hr.below hb0
  have hnr0 := hnr.below hb0
  have hT0 := hT.below hb0
  clear hW kn hc hcb hr hnr hT
  rw [Hself.out] at hhas
  go_cut [22] (fun t22 wx => t22 = .bool true ∧ Below W0.heap.size W0 wx)
  case first =>
    go_quiet ((refine (hhas _).mono ?_; rintro e w' ⟨rfl, rfl⟩; exact ⟨rfl, _, rfl⟩))
    go_wp2_with fail
    go_meet
    exact ⟨rfl, below_drewN (Below.refl _ _) _⟩
  obtain ⟨rfl, hd⟩ := hcut
  have Hb1 := Lib.hid (endB hb0 hd)
  clear d0 d1 d2 hc' hcb' hr0 hnr0 hT0 hb0 hd hhas
  go_wp2_with fail
  go_ret
  exact ⟨rfl, Hb1.out⟩
set_option maxRecDepth 100000 in
set_option maxHeartbeats 8000000 in
theorem gArgsS_any (A : Option Addr) {n : Nat} {l : List (Int × Int)} (c : Nat) (hv : Vld n l) (AL : Option Addr) (line : List Nat) (cl : Nat) (w : World) (hne : line ≠ []) (hx : ∀ x ∈ line, x < n) (hl : line.length ≤ 1000) (hcp : line.length ≤ cl) (hself : attQ l (line.headD 0) (line.headD 0) = true) (hrg : RP w A l) (hr : RI w AL (line.map Int.ofNat)) (hT : Tab w) :
    Calls Tryd.prog 89 #[.agg #[.int .i64 (n : Int), .slice A l.length c], .int .i64 2, .slice AL line.length cl] w (RetB (.int .i64 7) w) := by
  have hval := hv.valE
  have hlen := hv.1.2.1
  have hpos : 0 < line.length := List.length_pos_iff.2 hne
  have hex : ∀ w, Calls Tryd.prog 75 #[.int .i64 2] w (Ret (.bool true) w) := fun w => gExists_any 2 w
  have hz : ((line.length : Int) == 0) = false := by rw [beq_eq_false_iff_ne]; omega
  have Hv := Lib.hid hv; have Hval := Lib.hid hval; have Hex := Lib.hid hex; have Hx := Lib.hid hx; have Hne := Lib.hid hne; have Hself := Lib.hid hself; have Hz := Lib.hid hz
  clear hv hval hex hx hne hself hz
  go_enter Tryd.func89, Tryd.ntmps89
  go_upto_region 1 with fail
  obtain ⟨W0, hW, kn, hb0, hs0⟩ : ∃ W0, w.alloc (.cells #[.int .i64 (n : Int), .slice A l.length c] 24) = W0 ∧ Blk W0 w.heap.size 24 #[.int .i64 (n : Int), .slice A l.length c] ∧ Below w.heap.size w W0 ∧ W0.heap.size = w.heap.size + 1 := ⟨_, rfl, Blk.new _ _ _, newB _ _, by simp⟩
  rw [hW]
  obtain ⟨c0, c1, -, -⟩ := kn.two
  have hrg0 := hrg.below hb0; have hr0 := hr.below hb0; have hT0 := hT.below hb0
  have hgl := kn.lt
  clear hW hrg hr hT
  go_wp2_with fail
  refine (gValidate_any A n l c W0 hrg0 hlen).mono ?_
  rintro e w1 ⟨rfl, hb1⟩
  rw [Hval.out]
  have k1 := kn.below hb1 kn.lt
  obtain ⟨d0, d1, -, -⟩ := k1.two
  have hrg1 := hrg0.below hb1; have hr1 := hr0.below hb1; have hT1 := hT0.below hb1
  have hb01 := endB hb0 hb1
  have hgl1 := k1.lt
  clear kn c0 c1 hrg0 hr0 hT0 hb0 hb1 hs0 hgl
  go_wp2_with fail
  refine (Hex.out w1).mono ?_
  rintro e w2 ⟨rfl, rfl⟩
  go_wp2_with fail
  go_loopw [20] (fun t20 wx => ∃ q : Nat, q ≤ line.length ∧ t20 = .int .i64 (q : Int) ∧ wx = w1) (fun t20 _ => line.length - (intOf t20).toNat)
  case atStart => exact ⟨0, Nat.zero_le _, rfl, rfl⟩
  case round =>
    obtain ⟨q, hq, rfl, rfl⟩ := hrel
    by_cases hqy : q < line.length
    case pos =>
      obtain ⟨y, hye⟩ : ∃ y, line[q] = y := ⟨_, rfl⟩
      have hyn : y < n := by rw [← hye]; exact Hx.out _ (List.getElem_mem _)
      obtain ⟨b7, o7, rfl, hcy⟩ := hr1.at_ (k := q) (by rw [List.length_map]; exact hqy)
      rw [List.getElem_map, hye, Int.ofNat_eq_natCast] at hcy
      have hy0 : decide ((y : Int) < 0) = false := by rw [decide_eq_false_iff_not]; omega
      have hy1 : decide ((n : Int) ≤ (y : Int)) = false := by rw [decide_eq_false_iff_not]; omega
      clear hye
      go_wp2_with fail
      go_roundw
      case rel => exact ⟨q + 1, by omega, by go_num, trivial⟩
      case measure => simp [intOf]; omega
    case neg =>
    have hqe : q = line.length := by omega
    clear hq
    subst hqe
    have hz := Hz.out
    go_wp2_with fail
    refine (netNew_any A n l c wr hrg1 Hv.out.1).mono ?_
    rintro e w3 ⟨gB, gO, rfl, hgB, hgO, hrB, hrO, hb3⟩
    have hpl := gPlayedS_any Hv.out.1 gB gO AL line cl w3 Hne.out Hx.out hl hcp Hself.out (hr1.below hb3) ⟨hrB, hrO⟩ (hT1.below hb3)
    have Hpl := Lib.hid hpl
    have hb03 := endB hb01 hb3
    clear hpl hrB hrO hb3 hrg1 hr1 hT1 d0 d1 hb01
    go_wp2_with fail
    refine Hpl.out.mono ?_
    rintro e w4 ⟨rfl, hb4⟩
    have Hb := Lib.hid (endB hb03 hb4)
    clear hb03 hb4
    go_wp2_with fail
    go_ret
    exact ⟨rfl, Hb.out⟩
set_option maxRecDepth 100000 in
set_option maxHeartbeats 8000000 in
theorem gMovesS_any (A : Option Addr) {n : Nat} {l : List (Int × Int)} (c : Nat) (hv : Vld n l) (AL : Option Addr) (x : Nat) (cl : Nat) (w : World) (hx : x < n) (hcp : 1 ≤ cl) (hself : attQ l x x = true) (hrg : RP w A l) (hr : RI w AL [(x : Int)]) (hT : Tab w) :
    Calls Tryd.prog 39 #[.agg #[.int .i64 (n : Int), .slice A l.length c], .int .i64 2, .slice AL 1 cl] w (RetB (.tuple #[.slice none 0 0, .int .i64 7]) w) := by
  have hargs : ∀ W, Below w.heap.size w W → Calls Tryd.prog 89 #[.agg #[.int .i64 (n : Int), .slice A l.length c], .int .i64 2, .slice AL 1 cl] W (RetB (.int .i64 7) W) := fun W hb =>
    gArgsS_any A c hv AL [x] cl W (by simp) (fun y hy => by rw [List.mem_singleton] at hy; rw [hy]; exact hx) (by simp) hcp hself (hrg.below hb) (hr.below hb) (hT.below hb)
  have Hargs := Lib.hid hargs
  clear hargs hv hself hrg hr hT
  go_enter Tryd.func39, Tryd.ntmps39
  go_upto_region 1 with fail
  obtain ⟨W0, hW, kn, hb0, hs0⟩ : ∃ W0, w.alloc (.cells #[.int .i64 (n : Int), .slice A l.length c] 24) = W0 ∧ Blk W0 w.heap.size 24 #[.int .i64 (n : Int), .slice A l.length c] ∧ Below w.heap.size w W0 ∧ W0.heap.size = w.heap.size + 1 := ⟨_, rfl, Blk.new _ _ _, newB _ _, by simp⟩
  rw [hW]
  obtain ⟨c0, c1, -, -⟩ := kn.two
  have Ha := Lib.hid (Hargs.out W0 hb0)
  clear hW kn
  go_wp2_with fail
  refine Ha.out.mono ?_
  rintro e w1 ⟨rfl, hb1'⟩
  have Hb := Lib.hid (endB hb0 hb1')
  clear hb0 hb1' c0 c1 Ha
  go_wp2_with fail
  go_ret2
  exact ⟨rfl, Hb.out⟩
/-- Solve at any graph: some strategy, and the error -/
def RetSaw (E : Int) (w : World) : Ending → World → Prop := fun e w' => ∃ (a b d : Int) (A : Option Addr) (m c : Nat), e = .returned (.tuple #[.agg #[.int .i64 a, .int .i64 b, .int .i64 d, .slice A m c], .int .i64 E]) ∧ Below w.heap.size w w'
theorem gSolveR_any (A : Option Addr) (N : Int) (l : List (Int × Int)) (c : Nat) (k root : Int) (w : World) (hr : RP w A l) (hlen : l.length ≤ 100000) (hT : Tab w) :
    Calls Tryd.prog 35 #[.agg #[.int .i64 N, .slice A l.length c], .int .i64 k, .int .i64 root] w (RetSaw (solE N l k root) w) := by
  by_cases hbad : solE N l k root = 0
  · have h := hbad
    unfold solE at h
    by_cases h1 : valE N l = 0
    · rw [if_neg (fun e => e h1)] at h
      obtain ⟨n, rfl, hv⟩ := vld_of_valE h1 hlen
      by_cases h2 : k = 1 ∨ k = 2
      · rw [if_neg (fun e => e h2)] at h
        by_cases h3 : root < 0 ∨ (n : Int) ≤ root
        · rw [if_pos h3] at h; cases h
        · rw [if_neg h3] at h
          obtain ⟨r, rfl⟩ := Int.eq_ofNat_of_zero_le (by omega : 0 ≤ root)
          rcases h2 with rfl | rfl
          · refine (gSolveG_any A c r hv (by omega) w hr hT).mono ?_
            rintro e w' ⟨hb, R, OO, A', c', -, -, -, ⟨-, rfl, -⟩ | ⟨-, rfl, -⟩⟩
            · exact ⟨_, _, _, A', OO.length, c', by rw [hbad], hb⟩
            · exact ⟨_, _, _, A', OO.length, c', by rw [hbad], hb⟩
          · have h4 : ¬ (10 : Int) < n := fun e => by rw [if_pos ⟨rfl, e⟩] at h; cases h
            refine (gSolveC_any A c r hv (by omega) (by omega) w hr hT).mono ?_
            rintro e w' ⟨hb, h5⟩
            cases hs : srS n (attQ l) (n + 1) (1 <<< r) with
            | none => rw [hs] at h5; exact ⟨_, _, _, none, 0, 0, by rw [hbad]; exact h5, hb⟩
            | some s =>
              rw [hs] at h5
              obtain ⟨R, OO, A', c', rfl, -⟩ := h5
              exact ⟨_, _, _, A', OO.length, c', by rw [hbad], hb⟩
      · rw [if_pos h2] at h; cases h
    · rw [if_pos h1] at h; exact absurd h h1
  · refine (gSolveE_any A N l c k root w hr hlen hbad).mono ?_
    rintro e w' ⟨rfl, hb⟩
    exact ⟨0, 0, 0, none, 0, 0, rfl, hb⟩
/-- the error of Moves at a line of one node -/
def movE (N : Int) (l : List (Int × Int)) (k root : Int) : Int := if argE N l k root ≠ 0 then argE N l k root else if k = 2 ∧ attQ l root.toNat root.toNat = true then 7 else 0
def RetMaw (E : Int) (w : World) : Ending → World → Prop := fun e w' => ∃ (A : Option Addr) (m c : Nat), e = .returned (.tuple #[.slice A m c, .int .i64 E]) ∧ Below w.heap.size w w'
theorem gMovesR_any (A : Option Addr) (N : Int) (l : List (Int × Int)) (c : Nat) (k root : Int) (AL : Option Addr) (cl : Nat) (w : World) (hr : RP w A l) (hlen : l.length ≤ 100000) (hrl : RI w AL [root]) (hcl : 1 ≤ cl) (hT : Tab w) :
    Calls Tryd.prog 39 #[.agg #[.int .i64 N, .slice A l.length c], .int .i64 k, .slice AL 1 cl] w (RetMaw (movE N l k root) w) := by
  by_cases hbad : argE N l k root = 0
  · have h := hbad
    unfold argE at h
    by_cases h1 : valE N l = 0
    · rw [if_neg (fun e => e h1)] at h
      obtain ⟨n, rfl, hv⟩ := vld_of_valE h1 hlen
      by_cases h2 : k = 1 ∨ k = 2
      · rw [if_neg (fun e => e h2)] at h
        by_cases h3 : root < 0 ∨ (n : Int) ≤ root
        · rw [if_pos h3] at h; cases h
        · obtain ⟨r, rfl⟩ := Int.eq_ofNat_of_zero_le (by omega : 0 ≤ root)
          by_cases h4 : k = 2 ∧ attQ l r r = true
          · have hm : movE (n : Int) l k (r : Int) = 7 := by unfold movE; rw [if_neg (fun e => e hbad), if_pos (by rw [Int.toNat_natCast]; exact h4)]
            obtain ⟨rfl, h5⟩ := h4
            rw [hm]
            refine (gMovesS_any A c hv AL r cl w (by omega) hcl h5 hr hrl hT).mono ?_
            rintro e w' ⟨rfl, hb⟩
            exact ⟨none, 0, 0, rfl, hb⟩
          · have hm : movE (n : Int) l k (r : Int) = 0 := by unfold movE; rw [if_neg (fun e => e hbad), if_neg (by rw [Int.toNat_natCast]; exact h4)]
            rw [hm]
            obtain ⟨kn, rfl⟩ : ∃ kn : Nat, k = kn := by rcases h2 with rfl | rfl; exact ⟨1, rfl⟩; exact ⟨2, rfl⟩
            refine (gMoves_any A c hv kn (by omega) AL [r] cl w (by simp) (fun y hy => by rw [List.mem_singleton] at hy; rw [hy]; omega) (by simp) hcl (PlOk.one r) (fun e => by
              cases ha : attQ l r r
              · exact ha
              · exact absurd ⟨by omega, ha⟩ h4) hr hrl hT).mono ?_
            rintro e w' ⟨A', c', rfl, -, hb, -⟩
            exact ⟨A', _, c', rfl, hb⟩
      · rw [if_pos h2] at h; cases h
    · rw [if_pos h1] at h; exact absurd h h1
  · have hm : movE N l k root = argE N l k root := by unfold movE; rw [if_pos hbad]
    rw [hm]
    refine (gMovesE_any A N l c k root AL cl w hr hlen hrl hbad).mono ?_
    rintro e w' ⟨rfl, hb⟩
    exact ⟨none, 0, 0, rfl, hb⟩
theorem scan_ne7 (N : Int) : ∀ (l : List (Int × Int)) (o : Option (Int × Int)), scanV N o l ≠ 7
  | [], none => by show (0 : Int) ≠ 7; decide
  | [], some _ => by show (0 : Int) ≠ 7; decide
  | p :: r, none => by
    have ih := scan_ne7 N r (some p)
    show (if okP N p then scanV N (some p) r else 1) ≠ 7
    by_cases h : okP N p
    · rw [if_pos h]; exact ih
    · rw [if_neg h]; decide
  | p :: r, some q => by
    have ih := scan_ne7 N r (some p)
    show (if okP N p then if ltP q p then scanV N (some p) r else 8 else 1) ≠ 7
    by_cases h : okP N p
    · rw [if_pos h]
      by_cases h2 : ltP q p
      · rw [if_pos h2]; exact ih
      · rw [if_neg h2]; decide
    · rw [if_neg h]; decide
theorem valE_ne7 (N : Int) (l : List (Int × Int)) : valE N l ≠ 7 := by
  unfold valE
  by_cases h : N < 0 ∨ 40 < N
  · rw [if_pos h]; decide
  · rw [if_neg h]; exact scan_ne7 N l none
theorem argE_ne7 (N : Int) (l : List (Int × Int)) (k root : Int) : argE N l k root ≠ 7 := by
  have hv := valE_ne7 N l
  unfold argE
  by_cases h1 : valE N l = 0
  · by_cases h2 : k = 1 ∨ k = 2
    · by_cases h3 : root < 0 ∨ N ≤ root <;> simp [h1, h2, h3]
    · simp [h1, h2]
  · simp [h1, hv]
theorem mov_arg (N : Int) (l : List (Int × Int)) (k root : Int) : (if movE N l k root = 7 then 0 else movE N l k root) = argE N l k root := by
  have h7 := argE_ne7 N l k root
  unfold movE
  by_cases ha : argE N l k root = 0
  · have hb : (if argE N l k root ≠ 0 then argE N l k root else if k = 2 ∧ attQ l root.toNat root.toNat = true then (7 : Int) else 0) = if k = 2 ∧ attQ l root.toNat root.toNat = true then 7 else 0 := if_neg (fun e => e ha)
    rw [hb, ha]
    by_cases hs : k = 2 ∧ attQ l root.toNat root.toNat = true
    · rw [if_pos hs]; simp
    · rw [if_neg hs]; simp
  · simp [ha, h7]
/-- the error of Solve is that of Moves, but for the limit -/
theorem sol_arg (N : Int) (l : List (Int × Int)) (k root : Int) : solE N l k root = if argE N l k root = 0 ∧ k = 2 ∧ 10 < N then 2 else argE N l k root := by
  unfold solE argE
  by_cases h1 : valE N l = 0
  · by_cases h2 : k = 1 ∨ k = 2
    · by_cases h3 : root < 0 ∨ N ≤ root <;> simp [h1, h2, h3]
    · simp [h1, h2]
  · simp [h1]
end Go.Proofs.YtncimnfhfomddaaDoor
