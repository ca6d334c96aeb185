/- The styles of participants; slices.MinFunc at moves. -/
import Derived.Test.YthkknlnfdckdfaaPn2
namespace Go.Proofs.Ythkknlnfdckdfaa
open Go.ChangeShapes Go.WideShapes Go.ChangeAt Go.RowKit

/-- the call returns a number that is negative exactly if b -/
def RetLt (b : Bool) (w : World) : Ending → World → Prop := fun e w' => ∃ v : Int, e = .returned (.int .i64 v) ∧ decide (v < 0) = b ∧ Below w.heap.size w w'
theorem cmpI_neg (a b : Int) : decide (cmpI a b < 0) = decide (a < b) := by
  unfold cmpI
  by_cases h : a < b
  · simp [h]
  · by_cases h2 : b < a <;> simp [h, h2]
theorem cntA_snoc {l : List (Int × Int)} {x : Int} {q : Nat} (h : q < l.length) : cntA (l.take (q + 1)) x = cntA (l.take q) x + if l[q].2 == x then 1 else 0 := by
  unfold cntA
  rw [List.take_succ_eq_append_getElem h, List.countP_append]
  simp [List.countP_cons]
theorem cntA_le (l : List (Int × Int)) (x : Int) (q : Nat) : cntA (l.take q) x ≤ q := by
  unfold cntA
  have := List.countP_le_length (p := fun p : Int × Int => p.2 == x) (l := l.take q)
  rw [List.length_take] at this; omega
set_option maxRecDepth 100000 in
set_option maxHeartbeats 1000000 in
theorem attackers_any (d : Nat) (A : Option Addr) (l : List (Int × Int)) (c : Nat) (x : Int) (w : World) (hc : w.cell? ⟨d, 1, none⟩ = some (.slice A l.length c)) (hr : RP w A l) (hl : l.length ≤ 100000) :
    Calls Try.prog 64 #[.int .i64 x, .pointer (some ⟨d, 0, none⟩)] w (RetB (.int .i64 (cntA l x : Nat)) w) := by
  go_enter Try.func64, Try.ntmps64
  go_wp2_with fail
  go_loopw [4, 11] (fun s t wr => ∃ q : Nat, q ≤ l.length ∧ t = .int .i64 q ∧ s = .int .i64 (cntA (l.take q) x : Nat) ∧ Below w.heap.size w wr) (fun _ t _ => l.length - (intOf t).toNat)
  case atStart => exact ⟨0, Nat.zero_le _, rfl, rfl, Below.refl _ _⟩
  case round =>
    obtain ⟨q, hq, rfl, rfl, hbl⟩ := hrel
    by_cases hlt : q < l.length
    case neg =>
      obtain rfl : q = l.length := by omega
      go_wp2_with fail
      go_ret
      exact ⟨ri (by rw [List.take_length]), hbl⟩
    case pos =>
    obtain ⟨b, o, rfl, e0, e1⟩ := (hr.below hbl).at_ hlt
    have hlt' : (q : Int) < (l.length : Int) := by omega
    have hst := cntA_snoc (x := x) hlt
    have hle := cntA_le l x q
    have hbs := hbl.size
    cases hx : (l[q].2 == x)
    · rw [hx] at hst
      have Hs := Lib.hid hst; clear hst
      go_wp2_with fail
      go_roundw
      case rel => exact ⟨q + 1, by omega, by go_num, by rw [Hs.out]; rfl, hbl.alloc hbs _⟩
      case measure => simp [intOf]; omega
    · rw [hx] at hst
      have Hs := Lib.hid hst; clear hst
      go_wp2_with fail
      go_roundw
      case rel => exact ⟨q + 1, by omega, by go_num, by rw [Hs.out]; go_num, hbl.alloc hbs _⟩
      case measure => simp [intOf]; omega
set_option maxRecDepth 100000 in
theorem sty1_any (l : List (Int × Int)) (x y : Mv) (w : World) : Calls Try.prog 67 #[.agg #[.int .i64 x.1, .int .i64 x.2.1, .int .i64 x.2.2.1, .int .i64 x.2.2.2], .agg #[.int .i64 y.1, .int .i64 y.2.1, .int .i64 y.2.2.1, .int .i64 y.2.2.2]] w (RetLt (decide (keyF l 1 x < keyF l 1 y)) w) := by
  go_enter Try.func67, Try.ntmps67
  go_upto_region 1 with fail
  obtain ⟨W0, hW, k0, k1, hb0, hs0⟩ := boxed2A w 46 46 #[.int .i64 x.1, .int .i64 x.2.1, .int .i64 x.2.2.1, .int .i64 x.2.2.2] #[.int .i64 y.1, .int .i64 y.2.1, .int .i64 y.2.2.1, .int .i64 y.2.2.2]
  rw [hW]
  clear hW k0 k1 hs0
  go_wp2_with fail
  go_ret
  exact ⟨0, rfl, by simp [keyF], hb0⟩
set_option maxRecDepth 100000 in
theorem sty2_any (l : List (Int × Int)) (x y : Mv) (w : World) : Calls Try.prog 65 #[.agg #[.int .i64 x.1, .int .i64 x.2.1, .int .i64 x.2.2.1, .int .i64 x.2.2.2], .agg #[.int .i64 y.1, .int .i64 y.2.1, .int .i64 y.2.2.1, .int .i64 y.2.2.2]] w (RetLt (decide (keyF l 2 x < keyF l 2 y)) w) := by
  go_enter Try.func65, Try.ntmps65
  go_upto_region 1 with fail
  obtain ⟨W0, hW, k0, k1, hb0, hs0⟩ := boxed2A w 46 46 #[.int .i64 x.1, .int .i64 x.2.1, .int .i64 x.2.2.1, .int .i64 x.2.2.2] #[.int .i64 y.1, .int .i64 y.2.1, .int .i64 y.2.2.1, .int .i64 y.2.2.2]
  rw [hW]
  obtain ⟨_, _, _, x3, _, _, _, _⟩ := mvC k0
  obtain ⟨_, _, _, y3, _, _, _, _⟩ := mvC k1
  clear hW k0 k1 hs0
  go_wp2_with fail
  refine (cmpc_any y.2.2.2 x.2.2.2 W0).mono ?_
  rintro e w1 ⟨rfl, rfl⟩
  go_wp2_with fail
  go_ret
  refine ⟨_, rfl, ?_, hb0⟩
  rw [cmpI_neg]
  have : keyF l 2 x < keyF l 2 y ↔ y.2.2.2 < x.2.2.2 := by unfold keyF; simp only [if_true]; omega
  simp [this]
set_option maxRecDepth 100000 in
set_option maxHeartbeats 1000000 in
theorem sty3_any (q d : Nat) (A : Option Addr) (l : List (Int × Int)) (c : Nat) (x y : Mv) (w : World) (hq : w.cell? ⟨q, 0, none⟩ = some (.func (.func 64) #[] #[.pointer (some ⟨d, 0, none⟩)])) (hc : w.cell? ⟨d, 1, none⟩ = some (.slice A l.length c)) (hr : RP w A l) (hl : l.length ≤ 100000) :
    Calls Try.prog 66 #[.agg #[.int .i64 x.1, .int .i64 x.2.1, .int .i64 x.2.2.1, .int .i64 x.2.2.2], .agg #[.int .i64 y.1, .int .i64 y.2.1, .int .i64 y.2.2.1, .int .i64 y.2.2.2], .pointer (some ⟨q, 0, none⟩)] w (RetLt (decide (keyF l 3 x < keyF l 3 y)) w) := by
  go_enter Try.func66, Try.ntmps66
  go_upto_region 1 with fail
  obtain ⟨W0, hW, k0, k1, hb0, hs0⟩ := boxed2A w 46 46 #[.int .i64 x.1, .int .i64 x.2.1, .int .i64 x.2.2.1, .int .i64 x.2.2.2] #[.int .i64 y.1, .int .i64 y.2.1, .int .i64 y.2.2.1, .int .i64 y.2.2.2]
  rw [hW]
  obtain ⟨_, _, x2, _, _, _, _, _⟩ := mvC k0
  obtain ⟨_, _, y2, _, _, _, _, _⟩ := mvC k1
  have q0 := (hb0.cell (lt_of_cell hq)).trans hq
  have d0 := (hb0.cell (lt_of_cell hc)).trans hc
  have hr0 := hr.below hb0
  clear hW k0 k1 hs0 hq hc hr
  refine wp_region_textB [3, 7, 8] (fun w' => Below W0.heap.size W0 w') (fun _ => True) (by kernel_rfl) (by kernel_rfl) (by kernel_rfl) (Below.refl _ _).drew trivial ?_
  repeat (first
    | (refine TxtBL.skip (by rfl) ?_; simp only [Act.put, List.setIfInBounds_toArray, List.set_cons_zero, List.set_cons_succ])
    | (refine TxtBL.take (by rfl) (by rfl) ?_; apply Exists.intro; refine ⟨fun w1 hS1 => ?_, ?_⟩; (focus ((have g0 := (hS1.cell (lt_of_cell q0)).trans q0); (have g1 := (hS1.cell (lt_of_cell x2)).trans x2); go_simp; with_reducible rfl)); simp only [Act.put, List.setIfInBounds_toArray, List.set_cons_zero, List.set_cons_succ])
    | (refine TxtBL.takeE (by rfl) (by rfl) ?_; apply Exists.intro; refine ⟨fun w1 hS1 => ?_, ?_⟩; (focus ((have g0 := (hS1.cell (lt_of_cell q0)).trans q0); (have g1 := (hS1.cell (lt_of_cell x2)).trans x2); go_simp; with_reducible rfl)); simp only [Act.put, List.setIfInBounds_toArray, List.set_cons_zero, List.set_cons_succ]))
  refine TxtBL.call (f := 64) (args := #[.int .i64 x.2.2.1, .pointer (some ⟨d, 0, none⟩)]) (fun u => u = .int .i64 (cntA l x.2.2.1 : Nat)) (fun _ _ => True) (by rfl) (by rfl) ⟨_, rfl⟩ (fun w2 hS1 hJ1 => by go_simp) (fun w2 hS1 hJ1 => ?_) ?_
  · refine (attackers_any d A l c x.2.2.1 w2 ((hS1.cell (lt_of_cell d0)).trans d0) (hr0.below hS1) hl).mono ?_
    rintro e w' ⟨rfl, hb⟩
    exact ⟨_, rfl, hS1.trans (hb.mono hS1.size), rfl, trivial⟩
  rintro u rfl
  simp only [Act.put, List.setIfInBounds_toArray, List.set_cons_zero, List.set_cons_succ]
  repeat (first
    | (refine TxtBL.skip (by rfl) ?_; simp only [Act.put, List.setIfInBounds_toArray, List.set_cons_zero, List.set_cons_succ])
    | (refine TxtBL.take (by rfl) (by rfl) ?_; apply Exists.intro; refine ⟨fun w1 hS1 => ?_, ?_⟩; (focus ((have g0 := (hS1.cell (lt_of_cell q0)).trans q0); (have g1 := (hS1.cell (lt_of_cell y2)).trans y2); go_simp; with_reducible rfl)); simp only [Act.put, List.setIfInBounds_toArray, List.set_cons_zero, List.set_cons_succ])
    | (refine TxtBL.takeE (by rfl) (by rfl) ?_; apply Exists.intro; refine ⟨fun w1 hS1 => ?_, ?_⟩; (focus ((have g0 := (hS1.cell (lt_of_cell q0)).trans q0); (have g1 := (hS1.cell (lt_of_cell y2)).trans y2); go_simp; with_reducible rfl)); simp only [Act.put, List.setIfInBounds_toArray, List.set_cons_zero, List.set_cons_succ]))
  refine TxtBL.call (f := 64) (args := #[.int .i64 y.2.2.1, .pointer (some ⟨d, 0, none⟩)]) (fun u => u = .int .i64 (cntA l y.2.2.1 : Nat)) (fun _ _ => True) (by rfl) (by rfl) ⟨_, rfl⟩ (fun w2 hS1 hJ1 => by go_simp) (fun w2 hS1 hJ1 => ?_) ?_
  · refine (attackers_any d A l c y.2.2.1 w2 ((hS1.cell (lt_of_cell d0)).trans d0) (hr0.below hS1) hl).mono ?_
    rintro e w' ⟨rfl, hb⟩
    exact ⟨_, rfl, hS1.trans (hb.mono hS1.size), rfl, trivial⟩
  rintro u rfl
  simp only [Act.put, List.setIfInBounds_toArray, List.set_cons_zero, List.set_cons_succ]
  refine TxtBL.call (f := 58) (args := #[.int .i64 (cntA l x.2.2.1 : Nat), .int .i64 (cntA l y.2.2.1 : Nat)]) (fun u => u = .int .i64 (cmpI (cntA l x.2.2.1 : Nat) (cntA l y.2.2.1 : Nat))) (fun _ _ => True) (by rfl) (by rfl) ⟨_, rfl⟩ (fun w2 hS1 hJ1 => by go_simp) (fun w2 hS1 hJ1 => ?_) ?_
  · refine (cmpc_any (cntA l x.2.2.1 : Nat) (cntA l y.2.2.1 : Nat) w2).mono ?_
    rintro e w' ⟨rfl, rfl⟩
    exact ⟨_, rfl, hS1, rfl, trivial⟩
  rintro u rfl
  simp only [Act.put, List.setIfInBounds_toArray, List.set_cons_zero, List.set_cons_succ]
  repeat (first
    | (refine TxtBL.skip (by rfl) ?_; simp only [Act.put, List.setIfInBounds_toArray, List.set_cons_zero, List.set_cons_succ])
    | (refine TxtBL.take (by rfl) (by rfl) ?_; apply Exists.intro; refine ⟨fun w1 hS1 => ?_, ?_⟩; (focus (skip; go_simp; with_reducible rfl)); simp only [Act.put, List.setIfInBounds_toArray, List.set_cons_zero, List.set_cons_succ])
    | (refine TxtBL.takeE (by rfl) (by rfl) ?_; apply Exists.intro; refine ⟨fun w1 hS1 => ?_, ?_⟩; (focus (skip; go_simp; with_reducible rfl)); simp only [Act.put, List.setIfInBounds_toArray, List.set_cons_zero, List.set_cons_succ]))
  refine TxtBL.nil (fun w2 hS hJ => ?_)
  have Hb := Lib.hid (hb0.trans (hS.mono hb0.size))
  clear hS
  go_wp2_with fail
  go_ret
  refine ⟨_, rfl, ?_, Hb.out⟩
  rw [cmpI_neg]
  have : keyF l 3 x < keyF l 3 y ↔ ((cntA l x.2.2.1 : Nat) : Int) < (cntA l y.2.2.1 : Nat) := by unfold keyF; simp
  simp [this]
theorem minF_snoc (l : List (Int × Int)) (s : Int) {a : List Mv} (h : a ≠ []) (x : Mv) : minF l s (a ++ [x]) = minS l s (minF l s a) x := by
  cases a with
  | nil => exact absurd rfl h
  | cons m r => simp [minF, List.foldl_append]
/-- the call returns the first of the least moves -/
def RetMv (m : Mv) (w : World) : Ending → World → Prop := fun e w' => e = .returned (.agg #[.int .i64 m.1, .int .i64 m.2.1, .int .i64 m.2.2.1, .int .i64 m.2.2.2]) ∧ Below w.heap.size w w'
set_option maxRecDepth 100000 in
set_option maxHeartbeats 2000000 in
theorem minMF1_any (l : List (Int × Int)) (cc : Nat) (M : Option Addr) (ms : List Mv) (w : World)  (hr : RM w M ms) (h0 : ms ≠ []) (hml : ms.length ≤ 1000000) :
    Calls Try.prog 50 #[.slice M ms.length cc, .func (.func 67) #[] #[]] w (RetMv (minF l 1 ms) w) := by
  have hpos : 0 < ms.length := List.length_pos_iff.2 h0
  have hcmp : ∀ w1, Below w.heap.size w w1 → ∀ x y : Mv, Calls Try.prog 67 (#[.agg #[.int .i64 x.1, .int .i64 x.2.1, .int .i64 x.2.2.1, .int .i64 x.2.2.2], .agg #[.int .i64 y.1, .int .i64 y.2.1, .int .i64 y.2.2.1, .int .i64 y.2.2.2]] ++ #[]) w1 (RetLt (decide (keyF l 1 x < keyF l 1 y)) w1) := fun w1 _ x y => sty1_any l x y w1
  simp only [List.append_toArray, List.cons_append, List.nil_append] at hcmp
  have Hc := Lib.hid hcmp
  have hnl : decide ((ms.length : Int) < 1) = false := decide_eq_false (by omega)
  have hn0 : (0 : Int) < (ms.length : Int) := by omega
  clear hcmp
  obtain ⟨b, o, rfl, e0, e1, e2, e3⟩ := hr 0 hpos
  simp only [Nat.zero_mul, Nat.add_zero] at e0 e1 e2 e3
  go_enter Try.func50, Try.ntmps50
  go_upto_region 1 with fail
  obtain ⟨W1, hW1, j0, hb1, hs1⟩ := boxedA w 46 #[.int .i64 0, .int .i64 0, .int .i64 0, .int .i64 0]
  rw [hW1]
  have e0 := (hb1.cell (lt_of_cell e0)).trans e0
  have e1 := (hb1.cell (lt_of_cell e1)).trans e1
  have e2 := (hb1.cell (lt_of_cell e2)).trans e2
  have e3 := (hb1.cell (lt_of_cell e3)).trans e3
  go_upto_region 4 with fail
  obtain ⟨W0, hW, k1, hb2, hs2⟩ := boxedA W1 46 #[.int .i64 (mv ms 0).1, .int .i64 (mv ms 0).2.1, .int .i64 (mv ms 0).2.2.1, .int .i64 (mv ms 0).2.2.2]
  rw [hW]
  have k0 := j0.below hb2 (by omega)
  have hb0 := endB hb1 hb2
  rw [hs1] at k1
  have hs0 : W0.heap.size = w.heap.size + 2 := by omega
  have hk1 : Blk W0 (w.heap.size + 1) 46 #[.int .i64 (minF l 1 (ms.take 1)).1, .int .i64 (minF l 1 (ms.take 1)).2.1, .int .i64 (minF l 1 (ms.take 1)).2.2.1, .int .i64 (minF l 1 (ms.take 1)).2.2.2] := by
    have : minF l 1 (ms.take 1) = mv ms 0 := by
      cases ms with
      | nil => exact absurd rfl h0
      | cons m r => rfl
    rw [this]; exact k1
  have Hk0 := Lib.hid k0
  have Hs0 := Lib.hid hs0
  have Hb0 := Lib.hid hb0
  clear hW hW1 j0 hb1 hs1 hb2 hs2 k0 k1 hb0 hs0 e0 e1 e2 e3 hnl
  go_wp2_with fail
  go_loopw [6] (fun t wr => ∃ j : Nat, 1 ≤ j ∧ j ≤ ms.length ∧ t = .int .i64 j ∧ Blk wr (w.heap.size + 1) 46 #[.int .i64 (minF l 1 (ms.take j)).1, .int .i64 (minF l 1 (ms.take j)).2.1, .int .i64 (minF l 1 (ms.take j)).2.2.1, .int .i64 (minF l 1 (ms.take j)).2.2.2] ∧ Below (w.heap.size + 1) W0 wr) (fun t _ => ms.length - (intOf t).toNat)
  case atStart => exact ⟨1, Nat.le_refl _, hpos, rfl, hk1, Below.refl _ _⟩
  case round =>
    clear hk1
    obtain ⟨j, hj1, hj, rfl, hk, hbl⟩ := hrel
    have hbw : Below w.heap.size w wr := Hb0.out.trans (hbl.mono (Nat.le_succ _))
    by_cases hlt : j < ms.length
    case neg =>
      obtain rfl : j = ms.length := by omega
      rw [List.take_length] at hk
      obtain ⟨u0, u1, u2, u3, _, _, _, _⟩ := mvC hk
      have hkz := Hk0.out.below hbl (Nat.lt_succ_self _)
      obtain ⟨q0, q1, q2, q3, f0, f1, f2, f3⟩ := mvC hkz
      have Hkz := Lib.hid hkz; have Hbw := Lib.hid hbw
      clear hkz hbw hbl hk
      go_wp2_with fail
      have hk4 := set4 Hkz.out (.int .i64 (minF l 1 ms).1) (.int .i64 (minF l 1 ms).2.1) (.int .i64 (minF l 1 ms).2.2.1) (.int .i64 (minF l 1 ms).2.2.2)
      obtain ⟨r0, r1, r2, r3, _, _, _, _⟩ := mvC hk4
      refine bodyPost_ret (v := .agg #[.int .i64 (minF l 1 ms).1, .int .i64 (minF l 1 ms).2.1, .int .i64 (minF l 1 ms).2.2.1, .int .i64 (minF l 1 ms).2.2.2]) (by simp [results, Try.results50, go_sem, r0, r1, r2, r3]) rfl ?_
      exact ⟨rfl, below_set4 Hbw.out (Nat.le_refl _) _ _ _ _⟩
    case pos =>
    have htk : ms.take j ≠ [] := fun e => by
      have := congrArg List.length e
      rw [List.length_take, List.length_nil] at this; omega
    have hmin : minF l 1 (ms.take (j + 1)) = minS l 1 (minF l 1 (ms.take j)) (mv ms j) := by
      rw [List.take_succ_eq_append_getElem hlt, minF_snoc _ _ htk, mv_at hlt]
    have Hmin := Lib.hid hmin
    clear hmin htk
    obtain ⟨mk, hmk⟩ : ∃ x, minF l 1 (ms.take j) = x := ⟨_, rfl⟩
    rw [hmk] at hk
    have Hmk := Lib.hid hmk
    clear hmk
    obtain ⟨u0, u1, u2, u3, f0, f1, f2, f3⟩ := mvC hk
    obtain ⟨e0, e1, e2, e3⟩ := (hr.below hbw).cells hlt
    have hj0 : (0 : Int) ≤ (j : Int) := by omega
    have hjl : (j : Int) < (ms.length : Int) := by omega
    have hwr : w.heap.size + 1 < wr.heap.size := hk.lt
    go_upto_region 7 with fail
    refine wp_region_textB [6] (fun w' => Below wr.heap.size wr w') (fun _ => True) (by kernel_rfl) (by kernel_rfl) (by kernel_rfl) (Below.refl _ _).drew trivial ?_
    repeat (first
      | (refine TxtBL.skip (by rfl) ?_; simp only [Act.put, List.setIfInBounds_toArray, List.set_cons_zero, List.set_cons_succ])
      | (refine TxtBL.take (by rfl) (by rfl) ?_; apply Exists.intro; refine ⟨fun w1 hS1 => ?_, ?_⟩; (focus ((have g0 := (hS1.cell (lt_of_cell u0)).trans u0); (have h0 := (hS1.cell (lt_of_cell e0)).trans e0); (have g1 := (hS1.cell (lt_of_cell u1)).trans u1); (have h1 := (hS1.cell (lt_of_cell e1)).trans e1); (have g2 := (hS1.cell (lt_of_cell u2)).trans u2); (have h2 := (hS1.cell (lt_of_cell e2)).trans e2); (have g3 := (hS1.cell (lt_of_cell u3)).trans u3); (have h3 := (hS1.cell (lt_of_cell e3)).trans e3); go_simp; with_reducible rfl)); simp only [Act.put, List.setIfInBounds_toArray, List.set_cons_zero, List.set_cons_succ])
      | (refine TxtBL.takeE (by rfl) (by rfl) ?_; apply Exists.intro; refine ⟨fun w1 hS1 => ?_, ?_⟩; (focus ((have g0 := (hS1.cell (lt_of_cell u0)).trans u0); (have h0 := (hS1.cell (lt_of_cell e0)).trans e0); (have g1 := (hS1.cell (lt_of_cell u1)).trans u1); (have h1 := (hS1.cell (lt_of_cell e1)).trans e1); (have g2 := (hS1.cell (lt_of_cell u2)).trans u2); (have h2 := (hS1.cell (lt_of_cell e2)).trans e2); (have g3 := (hS1.cell (lt_of_cell u3)).trans u3); (have h3 := (hS1.cell (lt_of_cell e3)).trans e3); go_simp; with_reducible rfl)); simp only [Act.put, List.setIfInBounds_toArray, List.set_cons_zero, List.set_cons_succ]))
    refine TxtBL.call (f := 67) (args := #[.agg #[.int .i64 (mv ms j).1, .int .i64 (mv ms j).2.1, .int .i64 (mv ms j).2.2.1, .int .i64 (mv ms j).2.2.2], .agg #[.int .i64 mk.1, .int .i64 mk.2.1, .int .i64 mk.2.2.1, .int .i64 mk.2.2.2]]) (fun u => ∃ v : Int, u = .int .i64 v ∧ decide (v < 0) = decide (keyF l 1 (mv ms j) < keyF l 1 mk)) (fun _ _ => True) (by rfl) (by rfl) ⟨.int .i64 (if keyF l 1 (mv ms j) < keyF l 1 mk then -1 else 0), _, rfl, by split <;> simp [*]⟩ (fun w2 hS1 hJ1 => by go_simp) (fun w2 hS1 hJ1 => ?_) ?_
    · refine (Hc.out w2 (endB hbw hS1) (mv ms j) mk).mono ?_
      rintro e w' ⟨v, rfl, hd, hb⟩
      exact ⟨_, rfl, endB hS1 hb, ⟨v, rfl, hd⟩, trivial⟩
    rintro u ⟨v, rfl, hd⟩
    simp only [Act.put, List.setIfInBounds_toArray, List.set_cons_zero, List.set_cons_succ]
    repeat (first
      | (refine TxtBL.skip (by rfl) ?_; simp only [Act.put, List.setIfInBounds_toArray, List.set_cons_zero, List.set_cons_succ])
      | (refine TxtBL.take (by rfl) (by rfl) ?_; apply Exists.intro; refine ⟨fun w1 hS1 => ?_, ?_⟩; (focus (skip; go_simp; with_reducible rfl)); simp only [Act.put, List.setIfInBounds_toArray, List.set_cons_zero, List.set_cons_succ])
      | (refine TxtBL.takeE (by rfl) (by rfl) ?_; apply Exists.intro; refine ⟨fun w1 hS1 => ?_, ?_⟩; (focus (skip; go_simp; with_reducible rfl)); simp only [Act.put, List.setIfInBounds_toArray, List.set_cons_zero, List.set_cons_succ]))
    clear hd
    refine TxtBL.nil (fun w2 hS hJ => ?_)
    have hk2 := hk.below hS hk.lt
    have hb2 : Below (w.heap.size + 1) W0 w2 := hbl.trans (hS.mono (by omega))
    have hb2w := endB hbw hS
    clear u0 u1 u2 u3 f0 f1 f2 f3 e0 e1 e2 e3 hk hbl hbw hS hJ
    obtain ⟨_, _, _, _, f0, f1, f2, f3⟩ := mvC hk2
    obtain ⟨u0, u1, u2, u3, _, _, _, _⟩ := mvC hk2
    obtain ⟨e0, e1, e2, e3⟩ := (hr.below hb2w).cells hlt
    cases hle : decide (keyF l 1 (mv ms j) < keyF l 1 mk)
    case true =>
      have Hle := Lib.hid (of_decide_eq_true hle)
      have Hk3 := Lib.hid (set4 hk2 (.int .i64 (mv ms j).1) (.int .i64 (mv ms j).2.1) (.int .i64 (mv ms j).2.2.1) (.int .i64 (mv ms j).2.2.2))
      have Hb3 := Lib.hid (below_set4 hb2 (Nat.le_refl _) (.int .i64 (mv ms j).1) (.int .i64 (mv ms j).2.1) (.int .i64 (mv ms j).2.2.1) (.int .i64 (mv ms j).2.2.2))
      clear hle hk2 hb2 hb2w
      go_wp2_with fail
      go_roundw
      case rel => exact ⟨j + 1, by omega, by omega, by go_num, by rw [Hmin.out, Hmk.out]; unfold minS; rw [if_pos Hle.out]; exact Hk3.out, Hb3.out⟩
      case measure => simp [intOf]; omega
    case false =>
      have Hle := Lib.hid (of_decide_eq_false hle)
      have Hk3 := Lib.hid hk2; have Hb3 := Lib.hid hb2
      clear hle hk2 hb2 hb2w
      go_wp2_with fail
      go_roundw
      case rel => exact ⟨j + 1, by omega, by omega, by go_num, by rw [Hmin.out, Hmk.out]; unfold minS; rw [if_neg Hle.out]; exact Hk3.out, Hb3.out⟩
      case measure => simp [intOf]; omega
set_option maxRecDepth 100000 in
set_option maxHeartbeats 2000000 in
theorem minMF2_any (l : List (Int × Int)) (cc : Nat) (M : Option Addr) (ms : List Mv) (w : World)  (hr : RM w M ms) (h0 : ms ≠ []) (hml : ms.length ≤ 1000000) :
    Calls Try.prog 50 #[.slice M ms.length cc, .func (.func 65) #[] #[]] w (RetMv (minF l 2 ms) w) := by
  have hpos : 0 < ms.length := List.length_pos_iff.2 h0
  have hcmp : ∀ w1, Below w.heap.size w w1 → ∀ x y : Mv, Calls Try.prog 65 (#[.agg #[.int .i64 x.1, .int .i64 x.2.1, .int .i64 x.2.2.1, .int .i64 x.2.2.2], .agg #[.int .i64 y.1, .int .i64 y.2.1, .int .i64 y.2.2.1, .int .i64 y.2.2.2]] ++ #[]) w1 (RetLt (decide (keyF l 2 x < keyF l 2 y)) w1) := fun w1 _ x y => sty2_any l x y w1
  simp only [List.append_toArray, List.cons_append, List.nil_append] at hcmp
  have Hc := Lib.hid hcmp
  have hnl : decide ((ms.length : Int) < 1) = false := decide_eq_false (by omega)
  have hn0 : (0 : Int) < (ms.length : Int) := by omega
  clear hcmp
  obtain ⟨b, o, rfl, e0, e1, e2, e3⟩ := hr 0 hpos
  simp only [Nat.zero_mul, Nat.add_zero] at e0 e1 e2 e3
  go_enter Try.func50, Try.ntmps50
  go_upto_region 1 with fail
  obtain ⟨W1, hW1, j0, hb1, hs1⟩ := boxedA w 46 #[.int .i64 0, .int .i64 0, .int .i64 0, .int .i64 0]
  rw [hW1]
  have e0 := (hb1.cell (lt_of_cell e0)).trans e0
  have e1 := (hb1.cell (lt_of_cell e1)).trans e1
  have e2 := (hb1.cell (lt_of_cell e2)).trans e2
  have e3 := (hb1.cell (lt_of_cell e3)).trans e3
  go_upto_region 4 with fail
  obtain ⟨W0, hW, k1, hb2, hs2⟩ := boxedA W1 46 #[.int .i64 (mv ms 0).1, .int .i64 (mv ms 0).2.1, .int .i64 (mv ms 0).2.2.1, .int .i64 (mv ms 0).2.2.2]
  rw [hW]
  have k0 := j0.below hb2 (by omega)
  have hb0 := endB hb1 hb2
  rw [hs1] at k1
  have hs0 : W0.heap.size = w.heap.size + 2 := by omega
  have hk1 : Blk W0 (w.heap.size + 1) 46 #[.int .i64 (minF l 2 (ms.take 1)).1, .int .i64 (minF l 2 (ms.take 1)).2.1, .int .i64 (minF l 2 (ms.take 1)).2.2.1, .int .i64 (minF l 2 (ms.take 1)).2.2.2] := by
    have : minF l 2 (ms.take 1) = mv ms 0 := by
      cases ms with
      | nil => exact absurd rfl h0
      | cons m r => rfl
    rw [this]; exact k1
  have Hk0 := Lib.hid k0
  have Hs0 := Lib.hid hs0
  have Hb0 := Lib.hid hb0
  clear hW hW1 j0 hb1 hs1 hb2 hs2 k0 k1 hb0 hs0 e0 e1 e2 e3 hnl
  go_wp2_with fail
  go_loopw [6] (fun t wr => ∃ j : Nat, 1 ≤ j ∧ j ≤ ms.length ∧ t = .int .i64 j ∧ Blk wr (w.heap.size + 1) 46 #[.int .i64 (minF l 2 (ms.take j)).1, .int .i64 (minF l 2 (ms.take j)).2.1, .int .i64 (minF l 2 (ms.take j)).2.2.1, .int .i64 (minF l 2 (ms.take j)).2.2.2] ∧ Below (w.heap.size + 1) W0 wr) (fun t _ => ms.length - (intOf t).toNat)
  case atStart => exact ⟨1, Nat.le_refl _, hpos, rfl, hk1, Below.refl _ _⟩
  case round =>
    clear hk1
    obtain ⟨j, hj1, hj, rfl, hk, hbl⟩ := hrel
    have hbw : Below w.heap.size w wr := Hb0.out.trans (hbl.mono (Nat.le_succ _))
    by_cases hlt : j < ms.length
    case neg =>
      obtain rfl : j = ms.length := by omega
      rw [List.take_length] at hk
      obtain ⟨u0, u1, u2, u3, _, _, _, _⟩ := mvC hk
      have hkz := Hk0.out.below hbl (Nat.lt_succ_self _)
      obtain ⟨q0, q1, q2, q3, f0, f1, f2, f3⟩ := mvC hkz
      have Hkz := Lib.hid hkz; have Hbw := Lib.hid hbw
      clear hkz hbw hbl hk
      go_wp2_with fail
      have hk4 := set4 Hkz.out (.int .i64 (minF l 2 ms).1) (.int .i64 (minF l 2 ms).2.1) (.int .i64 (minF l 2 ms).2.2.1) (.int .i64 (minF l 2 ms).2.2.2)
      obtain ⟨r0, r1, r2, r3, _, _, _, _⟩ := mvC hk4
      refine bodyPost_ret (v := .agg #[.int .i64 (minF l 2 ms).1, .int .i64 (minF l 2 ms).2.1, .int .i64 (minF l 2 ms).2.2.1, .int .i64 (minF l 2 ms).2.2.2]) (by simp [results, Try.results50, go_sem, r0, r1, r2, r3]) rfl ?_
      exact ⟨rfl, below_set4 Hbw.out (Nat.le_refl _) _ _ _ _⟩
    case pos =>
    have htk : ms.take j ≠ [] := fun e => by
      have := congrArg List.length e
      rw [List.length_take, List.length_nil] at this; omega
    have hmin : minF l 2 (ms.take (j + 1)) = minS l 2 (minF l 2 (ms.take j)) (mv ms j) := by
      rw [List.take_succ_eq_append_getElem hlt, minF_snoc _ _ htk, mv_at hlt]
    have Hmin := Lib.hid hmin
    clear hmin htk
    obtain ⟨mk, hmk⟩ : ∃ x, minF l 2 (ms.take j) = x := ⟨_, rfl⟩
    rw [hmk] at hk
    have Hmk := Lib.hid hmk
    clear hmk
    obtain ⟨u0, u1, u2, u3, f0, f1, f2, f3⟩ := mvC hk
    obtain ⟨e0, e1, e2, e3⟩ := (hr.below hbw).cells hlt
    have hj0 : (0 : Int) ≤ (j : Int) := by omega
    have hjl : (j : Int) < (ms.length : Int) := by omega
    have hwr : w.heap.size + 1 < wr.heap.size := hk.lt
    go_upto_region 7 with fail
    refine wp_region_textB [6] (fun w' => Below wr.heap.size wr w') (fun _ => True) (by kernel_rfl) (by kernel_rfl) (by kernel_rfl) (Below.refl _ _).drew trivial ?_
    repeat (first
      | (refine TxtBL.skip (by rfl) ?_; simp only [Act.put, List.setIfInBounds_toArray, List.set_cons_zero, List.set_cons_succ])
      | (refine TxtBL.take (by rfl) (by rfl) ?_; apply Exists.intro; refine ⟨fun w1 hS1 => ?_, ?_⟩; (focus ((have g0 := (hS1.cell (lt_of_cell u0)).trans u0); (have h0 := (hS1.cell (lt_of_cell e0)).trans e0); (have g1 := (hS1.cell (lt_of_cell u1)).trans u1); (have h1 := (hS1.cell (lt_of_cell e1)).trans e1); (have g2 := (hS1.cell (lt_of_cell u2)).trans u2); (have h2 := (hS1.cell (lt_of_cell e2)).trans e2); (have g3 := (hS1.cell (lt_of_cell u3)).trans u3); (have h3 := (hS1.cell (lt_of_cell e3)).trans e3); go_simp; with_reducible rfl)); simp only [Act.put, List.setIfInBounds_toArray, List.set_cons_zero, List.set_cons_succ])
      | (refine TxtBL.takeE (by rfl) (by rfl) ?_; apply Exists.intro; refine ⟨fun w1 hS1 => ?_, ?_⟩; (focus ((have g0 := (hS1.cell (lt_of_cell u0)).trans u0); (have h0 := (hS1.cell (lt_of_cell e0)).trans e0); (have g1 := (hS1.cell (lt_of_cell u1)).trans u1); (have h1 := (hS1.cell (lt_of_cell e1)).trans e1); (have g2 := (hS1.cell (lt_of_cell u2)).trans u2); (have h2 := (hS1.cell (lt_of_cell e2)).trans e2); (have g3 := (hS1.cell (lt_of_cell u3)).trans u3); (have h3 := (hS1.cell (lt_of_cell e3)).trans e3); go_simp; with_reducible rfl)); simp only [Act.put, List.setIfInBounds_toArray, List.set_cons_zero, List.set_cons_succ]))
    refine TxtBL.call (f := 65) (args := #[.agg #[.int .i64 (mv ms j).1, .int .i64 (mv ms j).2.1, .int .i64 (mv ms j).2.2.1, .int .i64 (mv ms j).2.2.2], .agg #[.int .i64 mk.1, .int .i64 mk.2.1, .int .i64 mk.2.2.1, .int .i64 mk.2.2.2]]) (fun u => ∃ v : Int, u = .int .i64 v ∧ decide (v < 0) = decide (keyF l 2 (mv ms j) < keyF l 2 mk)) (fun _ _ => True) (by rfl) (by rfl) ⟨.int .i64 (if keyF l 2 (mv ms j) < keyF l 2 mk then -1 else 0), _, rfl, by split <;> simp [*]⟩ (fun w2 hS1 hJ1 => by go_simp) (fun w2 hS1 hJ1 => ?_) ?_
    · refine (Hc.out w2 (endB hbw hS1) (mv ms j) mk).mono ?_
      rintro e w' ⟨v, rfl, hd, hb⟩
      exact ⟨_, rfl, endB hS1 hb, ⟨v, rfl, hd⟩, trivial⟩
    rintro u ⟨v, rfl, hd⟩
    simp only [Act.put, List.setIfInBounds_toArray, List.set_cons_zero, List.set_cons_succ]
    repeat (first
      | (refine TxtBL.skip (by rfl) ?_; simp only [Act.put, List.setIfInBounds_toArray, List.set_cons_zero, List.set_cons_succ])
      | (refine TxtBL.take (by rfl) (by rfl) ?_; apply Exists.intro; refine ⟨fun w1 hS1 => ?_, ?_⟩; (focus (skip; go_simp; with_reducible rfl)); simp only [Act.put, List.setIfInBounds_toArray, List.set_cons_zero, List.set_cons_succ])
      | (refine TxtBL.takeE (by rfl) (by rfl) ?_; apply Exists.intro; refine ⟨fun w1 hS1 => ?_, ?_⟩; (focus (skip; go_simp; with_reducible rfl)); simp only [Act.put, List.setIfInBounds_toArray, List.set_cons_zero, List.set_cons_succ]))
    clear hd
    refine TxtBL.nil (fun w2 hS hJ => ?_)
    have hk2 := hk.below hS hk.lt
    have hb2 : Below (w.heap.size + 1) W0 w2 := hbl.trans (hS.mono (by omega))
    have hb2w := endB hbw hS
    clear u0 u1 u2 u3 f0 f1 f2 f3 e0 e1 e2 e3 hk hbl hbw hS hJ
    obtain ⟨_, _, _, _, f0, f1, f2, f3⟩ := mvC hk2
    obtain ⟨u0, u1, u2, u3, _, _, _, _⟩ := mvC hk2
    obtain ⟨e0, e1, e2, e3⟩ := (hr.below hb2w).cells hlt
    cases hle : decide (keyF l 2 (mv ms j) < keyF l 2 mk)
    case true =>
      have Hle := Lib.hid (of_decide_eq_true hle)
      have Hk3 := Lib.hid (set4 hk2 (.int .i64 (mv ms j).1) (.int .i64 (mv ms j).2.1) (.int .i64 (mv ms j).2.2.1) (.int .i64 (mv ms j).2.2.2))
      have Hb3 := Lib.hid (below_set4 hb2 (Nat.le_refl _) (.int .i64 (mv ms j).1) (.int .i64 (mv ms j).2.1) (.int .i64 (mv ms j).2.2.1) (.int .i64 (mv ms j).2.2.2))
      clear hle hk2 hb2 hb2w
      go_wp2_with fail
      go_roundw
      case rel => exact ⟨j + 1, by omega, by omega, by go_num, by rw [Hmin.out, Hmk.out]; unfold minS; rw [if_pos Hle.out]; exact Hk3.out, Hb3.out⟩
      case measure => simp [intOf]; omega
    case false =>
      have Hle := Lib.hid (of_decide_eq_false hle)
      have Hk3 := Lib.hid hk2; have Hb3 := Lib.hid hb2
      clear hle hk2 hb2 hb2w
      go_wp2_with fail
      go_roundw
      case rel => exact ⟨j + 1, by omega, by omega, by go_num, by rw [Hmin.out, Hmk.out]; unfold minS; rw [if_neg Hle.out]; exact Hk3.out, Hb3.out⟩
      case measure => simp [intOf]; omega
set_option maxRecDepth 100000 in
set_option maxHeartbeats 2000000 in
theorem minMF3_any (A : Option Addr) (l : List (Int × Int)) (c q d cc : Nat) (M : Option Addr) (ms : List Mv) (w : World) (hq : w.cell? ⟨q, 0, none⟩ = some (.func (.func 64) #[] #[.pointer (some ⟨d, 0, none⟩)])) (hc : w.cell? ⟨d, 1, none⟩ = some (.slice A l.length c)) (hp : RP w A l) (hll : l.length ≤ 100000) (hr : RM w M ms) (h0 : ms ≠ []) (hml : ms.length ≤ 1000000) :
    Calls Try.prog 50 #[.slice M ms.length cc, .func (.func 66) #[] #[.pointer (some ⟨q, 0, none⟩)]] w (RetMv (minF l 3 ms) w) := by
  have hpos : 0 < ms.length := List.length_pos_iff.2 h0
  have hcmp : ∀ w1, Below w.heap.size w w1 → ∀ x y : Mv, Calls Try.prog 66 (#[.agg #[.int .i64 x.1, .int .i64 x.2.1, .int .i64 x.2.2.1, .int .i64 x.2.2.2], .agg #[.int .i64 y.1, .int .i64 y.2.1, .int .i64 y.2.2.1, .int .i64 y.2.2.2]] ++ #[.pointer (some ⟨q, 0, none⟩)]) w1 (RetLt (decide (keyF l 3 x < keyF l 3 y)) w1) := fun w1 hb x y => sty3_any q d A l c x y w1 ((hb.cell (lt_of_cell hq)).trans hq) ((hb.cell (lt_of_cell hc)).trans hc) (hp.below hb) hll
  simp only [List.append_toArray, List.cons_append, List.nil_append] at hcmp
  have Hc := Lib.hid hcmp
  have hnl : decide ((ms.length : Int) < 1) = false := decide_eq_false (by omega)
  have hn0 : (0 : Int) < (ms.length : Int) := by omega
  clear hcmp
  obtain ⟨b, o, rfl, e0, e1, e2, e3⟩ := hr 0 hpos
  simp only [Nat.zero_mul, Nat.add_zero] at e0 e1 e2 e3
  go_enter Try.func50, Try.ntmps50
  go_upto_region 1 with fail
  obtain ⟨W1, hW1, j0, hb1, hs1⟩ := boxedA w 46 #[.int .i64 0, .int .i64 0, .int .i64 0, .int .i64 0]
  rw [hW1]
  have e0 := (hb1.cell (lt_of_cell e0)).trans e0
  have e1 := (hb1.cell (lt_of_cell e1)).trans e1
  have e2 := (hb1.cell (lt_of_cell e2)).trans e2
  have e3 := (hb1.cell (lt_of_cell e3)).trans e3
  go_upto_region 4 with fail
  obtain ⟨W0, hW, k1, hb2, hs2⟩ := boxedA W1 46 #[.int .i64 (mv ms 0).1, .int .i64 (mv ms 0).2.1, .int .i64 (mv ms 0).2.2.1, .int .i64 (mv ms 0).2.2.2]
  rw [hW]
  have k0 := j0.below hb2 (by omega)
  have hb0 := endB hb1 hb2
  rw [hs1] at k1
  have hs0 : W0.heap.size = w.heap.size + 2 := by omega
  have hk1 : Blk W0 (w.heap.size + 1) 46 #[.int .i64 (minF l 3 (ms.take 1)).1, .int .i64 (minF l 3 (ms.take 1)).2.1, .int .i64 (minF l 3 (ms.take 1)).2.2.1, .int .i64 (minF l 3 (ms.take 1)).2.2.2] := by
    have : minF l 3 (ms.take 1) = mv ms 0 := by
      cases ms with
      | nil => exact absurd rfl h0
      | cons m r => rfl
    rw [this]; exact k1
  have Hk0 := Lib.hid k0
  have Hs0 := Lib.hid hs0
  have Hb0 := Lib.hid hb0
  clear hW hW1 j0 hb1 hs1 hb2 hs2 k0 k1 hb0 hs0 e0 e1 e2 e3 hnl
  go_wp2_with fail
  go_loopw [6] (fun t wr => ∃ j : Nat, 1 ≤ j ∧ j ≤ ms.length ∧ t = .int .i64 j ∧ Blk wr (w.heap.size + 1) 46 #[.int .i64 (minF l 3 (ms.take j)).1, .int .i64 (minF l 3 (ms.take j)).2.1, .int .i64 (minF l 3 (ms.take j)).2.2.1, .int .i64 (minF l 3 (ms.take j)).2.2.2] ∧ Below (w.heap.size + 1) W0 wr) (fun t _ => ms.length - (intOf t).toNat)
  case atStart => exact ⟨1, Nat.le_refl _, hpos, rfl, hk1, Below.refl _ _⟩
  case round =>
    clear hk1
    obtain ⟨j, hj1, hj, rfl, hk, hbl⟩ := hrel
    have hbw : Below w.heap.size w wr := Hb0.out.trans (hbl.mono (Nat.le_succ _))
    by_cases hlt : j < ms.length
    case neg =>
      obtain rfl : j = ms.length := by omega
      rw [List.take_length] at hk
      obtain ⟨u0, u1, u2, u3, _, _, _, _⟩ := mvC hk
      have hkz := Hk0.out.below hbl (Nat.lt_succ_self _)
      obtain ⟨q0, q1, q2, q3, f0, f1, f2, f3⟩ := mvC hkz
      have Hkz := Lib.hid hkz; have Hbw := Lib.hid hbw
      clear hkz hbw hbl hk
      go_wp2_with fail
      have hk4 := set4 Hkz.out (.int .i64 (minF l 3 ms).1) (.int .i64 (minF l 3 ms).2.1) (.int .i64 (minF l 3 ms).2.2.1) (.int .i64 (minF l 3 ms).2.2.2)
      obtain ⟨r0, r1, r2, r3, _, _, _, _⟩ := mvC hk4
      refine bodyPost_ret (v := .agg #[.int .i64 (minF l 3 ms).1, .int .i64 (minF l 3 ms).2.1, .int .i64 (minF l 3 ms).2.2.1, .int .i64 (minF l 3 ms).2.2.2]) (by simp [results, Try.results50, go_sem, r0, r1, r2, r3]) rfl ?_
      exact ⟨rfl, below_set4 Hbw.out (Nat.le_refl _) _ _ _ _⟩
    case pos =>
    have htk : ms.take j ≠ [] := fun e => by
      have := congrArg List.length e
      rw [List.length_take, List.length_nil] at this; omega
    have hmin : minF l 3 (ms.take (j + 1)) = minS l 3 (minF l 3 (ms.take j)) (mv ms j) := by
      rw [List.take_succ_eq_append_getElem hlt, minF_snoc _ _ htk, mv_at hlt]
    have Hmin := Lib.hid hmin
    clear hmin htk
    obtain ⟨mk, hmk⟩ : ∃ x, minF l 3 (ms.take j) = x := ⟨_, rfl⟩
    rw [hmk] at hk
    have Hmk := Lib.hid hmk
    clear hmk
    obtain ⟨u0, u1, u2, u3, f0, f1, f2, f3⟩ := mvC hk
    obtain ⟨e0, e1, e2, e3⟩ := (hr.below hbw).cells hlt
    have hj0 : (0 : Int) ≤ (j : Int) := by omega
    have hjl : (j : Int) < (ms.length : Int) := by omega
    have hwr : w.heap.size + 1 < wr.heap.size := hk.lt
    go_upto_region 7 with fail
    refine wp_region_textB [6] (fun w' => Below wr.heap.size wr w') (fun _ => True) (by kernel_rfl) (by kernel_rfl) (by kernel_rfl) (Below.refl _ _).drew trivial ?_
    repeat (first
      | (refine TxtBL.skip (by rfl) ?_; simp only [Act.put, List.setIfInBounds_toArray, List.set_cons_zero, List.set_cons_succ])
      | (refine TxtBL.take (by rfl) (by rfl) ?_; apply Exists.intro; refine ⟨fun w1 hS1 => ?_, ?_⟩; (focus ((have g0 := (hS1.cell (lt_of_cell u0)).trans u0); (have h0 := (hS1.cell (lt_of_cell e0)).trans e0); (have g1 := (hS1.cell (lt_of_cell u1)).trans u1); (have h1 := (hS1.cell (lt_of_cell e1)).trans e1); (have g2 := (hS1.cell (lt_of_cell u2)).trans u2); (have h2 := (hS1.cell (lt_of_cell e2)).trans e2); (have g3 := (hS1.cell (lt_of_cell u3)).trans u3); (have h3 := (hS1.cell (lt_of_cell e3)).trans e3); go_simp; with_reducible rfl)); simp only [Act.put, List.setIfInBounds_toArray, List.set_cons_zero, List.set_cons_succ])
      | (refine TxtBL.takeE (by rfl) (by rfl) ?_; apply Exists.intro; refine ⟨fun w1 hS1 => ?_, ?_⟩; (focus ((have g0 := (hS1.cell (lt_of_cell u0)).trans u0); (have h0 := (hS1.cell (lt_of_cell e0)).trans e0); (have g1 := (hS1.cell (lt_of_cell u1)).trans u1); (have h1 := (hS1.cell (lt_of_cell e1)).trans e1); (have g2 := (hS1.cell (lt_of_cell u2)).trans u2); (have h2 := (hS1.cell (lt_of_cell e2)).trans e2); (have g3 := (hS1.cell (lt_of_cell u3)).trans u3); (have h3 := (hS1.cell (lt_of_cell e3)).trans e3); go_simp; with_reducible rfl)); simp only [Act.put, List.setIfInBounds_toArray, List.set_cons_zero, List.set_cons_succ]))
    refine TxtBL.call (f := 66) (args := #[.agg #[.int .i64 (mv ms j).1, .int .i64 (mv ms j).2.1, .int .i64 (mv ms j).2.2.1, .int .i64 (mv ms j).2.2.2], .agg #[.int .i64 mk.1, .int .i64 mk.2.1, .int .i64 mk.2.2.1, .int .i64 mk.2.2.2], .pointer (some ⟨q, 0, none⟩)]) (fun u => ∃ v : Int, u = .int .i64 v ∧ decide (v < 0) = decide (keyF l 3 (mv ms j) < keyF l 3 mk)) (fun _ _ => True) (by rfl) (by rfl) ⟨.int .i64 (if keyF l 3 (mv ms j) < keyF l 3 mk then -1 else 0), _, rfl, by split <;> simp [*]⟩ (fun w2 hS1 hJ1 => by go_simp) (fun w2 hS1 hJ1 => ?_) ?_
    · refine (Hc.out w2 (endB hbw hS1) (mv ms j) mk).mono ?_
      rintro e w' ⟨v, rfl, hd, hb⟩
      exact ⟨_, rfl, endB hS1 hb, ⟨v, rfl, hd⟩, trivial⟩
    rintro u ⟨v, rfl, hd⟩
    simp only [Act.put, List.setIfInBounds_toArray, List.set_cons_zero, List.set_cons_succ]
    repeat (first
      | (refine TxtBL.skip (by rfl) ?_; simp only [Act.put, List.setIfInBounds_toArray, List.set_cons_zero, List.set_cons_succ])
      | (refine TxtBL.take (by rfl) (by rfl) ?_; apply Exists.intro; refine ⟨fun w1 hS1 => ?_, ?_⟩; (focus (skip; go_simp; with_reducible rfl)); simp only [Act.put, List.setIfInBounds_toArray, List.set_cons_zero, List.set_cons_succ])
      | (refine TxtBL.takeE (by rfl) (by rfl) ?_; apply Exists.intro; refine ⟨fun w1 hS1 => ?_, ?_⟩; (focus (skip; go_simp; with_reducible rfl)); simp only [Act.put, List.setIfInBounds_toArray, List.set_cons_zero, List.set_cons_succ]))
    clear hd
    refine TxtBL.nil (fun w2 hS hJ => ?_)
    have hk2 := hk.below hS hk.lt
    have hb2 : Below (w.heap.size + 1) W0 w2 := hbl.trans (hS.mono (by omega))
    have hb2w := endB hbw hS
    clear u0 u1 u2 u3 f0 f1 f2 f3 e0 e1 e2 e3 hk hbl hbw hS hJ
    obtain ⟨_, _, _, _, f0, f1, f2, f3⟩ := mvC hk2
    obtain ⟨u0, u1, u2, u3, _, _, _, _⟩ := mvC hk2
    obtain ⟨e0, e1, e2, e3⟩ := (hr.below hb2w).cells hlt
    cases hle : decide (keyF l 3 (mv ms j) < keyF l 3 mk)
    case true =>
      have Hle := Lib.hid (of_decide_eq_true hle)
      have Hk3 := Lib.hid (set4 hk2 (.int .i64 (mv ms j).1) (.int .i64 (mv ms j).2.1) (.int .i64 (mv ms j).2.2.1) (.int .i64 (mv ms j).2.2.2))
      have Hb3 := Lib.hid (below_set4 hb2 (Nat.le_refl _) (.int .i64 (mv ms j).1) (.int .i64 (mv ms j).2.1) (.int .i64 (mv ms j).2.2.1) (.int .i64 (mv ms j).2.2.2))
      clear hle hk2 hb2 hb2w
      go_wp2_with fail
      go_roundw
      case rel => exact ⟨j + 1, by omega, by omega, by go_num, by rw [Hmin.out, Hmk.out]; unfold minS; rw [if_pos Hle.out]; exact Hk3.out, Hb3.out⟩
      case measure => simp [intOf]; omega
    case false =>
      have Hle := Lib.hid (of_decide_eq_false hle)
      have Hk3 := Lib.hid hk2; have Hb3 := Lib.hid hb2
      clear hle hk2 hb2 hb2w
      go_wp2_with fail
      go_roundw
      case rel => exact ⟨j + 1, by omega, by omega, by go_num, by rw [Hmin.out, Hmk.out]; unfold minS; rw [if_neg Hle.out]; exact Hk3.out, Hb3.out⟩
      case measure => simp [intOf]; omega
end Go.Proofs.Ythkknlnfdckdfaa
