import Derived.Test.YtncimnfhfomddaaDoorTgT
import Derived.Test.YtncimnfhfomddaaDoorGam
import Derived.Test.YtncimnfhfomddaaDoorAdm
/- network: Ascending, Of, Stable, Admissible; enforce: arguments, hopeless. -/
namespace Go.Proofs.YtncimnfhfomddaaDoor
open Go.ChangeShapes Go.WideShapes Go.ChangeAt Go.RowKit

set_option maxHeartbeats 1000000 in
theorem enAsc_any (N : Int) (A : Option Addr) (l : List Int) (c : Nat) (w : World) (hr : RI w A l) (hl : l.length ≤ 100000) :
    Calls Tryd.prog 96 #[.slice A l.length c, .int .i64 N] w (RetB (.bool (setB N l)) w) := by
  go_enter Tryd.func96, Tryd.ntmps96
  go_wp2_with fail
  have hr0 := hr
  have hb0 := Below.refl w.heap.size w
  clear hr
  go_loop [9] (fun i => ∃ k : Nat, k ≤ l.length ∧ i = .int .i64 k ∧ ∀ j, j < k → (0 ≤ l.getD j 0 ∧ l.getD j 0 < N) ∧ (0 < j → l.getD (j - 1) 0 < l.getD j 0)) (fun i => l.length - (intOf i).toNat)
  case atStart => exact ⟨0, by omega, rfl, fun j hj => absurd hj (by omega)⟩
  case round =>
    obtain ⟨k, hk, rfl, hall⟩ := hrel
    have Hall := Lib.hid hall; clear hall
    by_cases hlt : k < l.length
    · obtain ⟨b, o, rfl, hc⟩ := hr0.at_ hlt
      have hg : l.getD k 0 = l[k] := by simp [List.getD, hlt]
      have Hg := Lib.hid hg; clear hg
      by_cases h1 : l[k] < 0
      · go_wp2
        go_ret
        exact ⟨rb (setB_miss hlt (fun h => by have := h.1.1; rw [Hg.out] at this; omega)).symm, hb0⟩
      · have h1' : 0 ≤ l[k] := by omega
        clear h1
        by_cases h2 : N ≤ l[k]
        · go_wp2
          go_ret
          exact ⟨rb (setB_miss hlt (fun h => by have := h.1.2; rw [Hg.out] at this; omega)).symm, hb0⟩
        · have h2' : l[k] < N := by omega
          clear h2
          by_cases h3 : 0 < k
          · obtain ⟨j, hj⟩ : ∃ j, k = j + 1 := ⟨k - 1, by omega⟩
            subst hj
            have hjl : j < l.length := by omega
            obtain ⟨b', o', hA, hc'⟩ := hr0.at_ hjl
            injection hA with hA
            injection hA with hb ho
            subst hb ho
            have hg2 : l.getD j 0 = l[j] := by simp [List.getD, hjl]
            have Hg2 := Lib.hid hg2; clear hg2
            by_cases h4 : l[j + 1] ≤ l[j]
            · go_wp2
              go_ret
              exact ⟨rb (setB_miss hlt (fun h => by have := h.2 (by omega); rw [Hg.out, Nat.add_sub_cancel, Hg2.out] at this; omega)).symm, hb0⟩
            · have h4' : l[j] < l[j + 1] := by omega
              clear h4
              go_wp2
              go_round
              case rel =>
                refine ⟨j + 1 + 1, by omega, by go_num, fun i hi => ?_⟩
                by_cases e : i < j + 1
                · exact Hall.out i e
                · obtain rfl : i = j + 1 := by omega
                  exact ⟨⟨by rw [Hg.out]; exact h1', by rw [Hg.out]; exact h2'⟩, fun _ => by rw [Hg.out, Nat.add_sub_cancel, Hg2.out]; exact h4'⟩
              case measure => simp [intOf]; omega
          · have hk0 : k = 0 := by omega
            subst hk0
            have hc0 : w.cell? ⟨b, o, none⟩ = some (.int .i64 l[0]) := by simpa using hc
            clear hc
            go_wp2
            go_round
            case rel =>
              refine ⟨1, by omega, by go_num, fun i hi => ?_⟩
              obtain rfl : i = 0 := by omega
              exact ⟨⟨by rw [Hg.out]; exact h1', by rw [Hg.out]; exact h2'⟩, fun h => absurd h (by omega)⟩
            case measure => simp [intOf]; omega
    · go_wp2
      go_ret
      exact ⟨rb ((setB_iff _ _).2 (fun j hj => Hall.out j (by omega))).symm, hb0⟩

set_option maxHeartbeats 400000 in
theorem enOf_any (A : Option Addr) (l : List Int) (c : Nat) (w : World) (hr : RI w A l) (hl : l.length ≤ 100000) (hv : ∀ x ∈ l, 0 ≤ x ∧ x < 64) :
    Calls Tryd.prog 62 #[.slice A l.length c] w (Ret (.int .u64 (maskN l : Nat)) w) := by
  have Hv := Lib.hid hv; clear hv
  go_enter Tryd.func62, Tryd.ntmps62
  go_wp2
  go_loop [3, 8] (fun v i => ∃ k : Nat, k ≤ l.length ∧ v = .int .u64 (maskN (l.take k) : Nat) ∧ i = .int .i64 k) (fun v i => l.length - (intOf i).toNat)
  case atStart => exact ⟨0, by omega, by simp [maskN], rfl⟩
  case round =>
    obtain ⟨k, hk, rfl, rfl⟩ := hrel
    have hz : maskN (l.take k) < 18446744073709551616 := by
      have := maskN_lt (l.take k) 64 fun x hx => by have := Hv.out x (List.mem_of_mem_take hx); omega
      omega
    generalize hzz : maskN (l.take k) = z at hz ⊢
    have Hz := Lib.hid hzz; have Hzl := Lib.hid hz; clear hzz hz
    by_cases hlt : k < l.length
    · obtain ⟨b, o, rfl, hc⟩ := hr.at_ hlt
      obtain ⟨v1, v2⟩ := Hv.out l[k] (List.getElem_mem _)
      obtain ⟨x, hx⟩ : ∃ x : Nat, l[k] = (x : Int) := ⟨l[k].toNat, by omega⟩
      have hwith := netWith_any z x Hzl.out (by omega)
      rw [hx] at hc v1 v2
      have Hx := Lib.hid hx
      clear hx
      go_wp2_with fail
      refine (hwith _).mono ?_
      rintro e w' ⟨rfl, rfl⟩
      go_wp2_with fail
      go_round
      case rel =>
        refine ⟨k + 1, by omega, ?_, by go_num⟩
        rw [List.take_succ_eq_append_getElem hlt, maskN_snoc, Hz.out, Hx.out, Int.toNat_natCast]
      case measure => simp [intOf]; omega
    · go_wp2
      go_ret
      refine ⟨?_, rfl⟩
      rw [← Hz.out, List.take_of_length_le (by omega)]
      rfl


/-- the set is free of conflicts and hits all other nodes -/
def stS (n : Nat) (att : Nat → Nat → Bool) (s : Nat) : Bool := freeS n att s && (List.range n).all fun a => s.testBit a || hitX n att s a
/-- the set is free of conflicts and hits all its foes -/
def adS (n : Nat) (att : Nat → Nat → Bool) (s : Nat) : Bool := freeS n att s && (List.range n).all fun a => !foeS n att s a || hitX n att s a
theorem minus0 {a b : Nat} (ha : a < 18446744073709551616) (hb : b < 18446744073709551616) : minusN a b = 0 ↔ ∀ j, a.testBit j = true → b.testBit j = true := by
  constructor
  · intro h j hj
    have := testBit_minusN a b j hb ha
    rw [h, Nat.zero_testBit, hj, Bool.true_and] at this
    cases e : b.testBit j
    · rw [e] at this; cases this
    · rfl
  · intro h
    apply Nat.eq_of_testBit_eq
    intro j
    rw [testBit_minusN a b j hb ha, Nat.zero_testBit]
    cases e : a.testBit j
    · rfl
    · rw [h j e]; rfl
theorem stb_bit {n : Nat} {l : List (Int × Int)} (hv : InR n l) {s : Nat} (hs : s < 2 ^ n) : decide (minusN (minusN (allN n) s) (orN (outL n l) (nodesB 64 s.testBit)) = 0) = (List.range n).all fun a => s.testBit a || hitX n (attQ l) s a := by
  have hb := orN_lt64 hv s
  have ha := u64_of hv.1 (allN_lt n)
  have hsu := u64_of hv.1 hs
  have hm : minusN (allN n) s < 18446744073709551616 := Nat.lt_of_le_of_lt (minusN_le _ _) ha
  rw [Bool.eq_iff_iff, decide_eq_true_iff, minus0 hm hb.1, List.all_eq_true]
  constructor
  · intro h j hj
    have hj' := List.mem_range.1 hj
    rw [← hit_bit hv hs]
    cases sj : s.testBit j
    · rw [h j (by rw [testBit_minusN _ _ _ hsu ha, testBit_allN, sj]; simp [hj'])]; rfl
    · rfl
  · intro h j hj
    rw [testBit_minusN _ _ _ hsu ha, testBit_allN, Bool.and_eq_true, decide_eq_true_iff, Bool.not_eq_true'] at hj
    have := h j (List.mem_range.2 hj.1)
    rw [hj.2, Bool.false_or, ← hit_bit hv hs] at this
    exact this
theorem adm_bit2 {n : Nat} {l : List (Int × Int)} (hv : InR n l) {s : Nat} (hs : s < 2 ^ n) : decide (minusN (orN (byL n l) (nodesB 64 s.testBit)) (orN (outL n l) (nodesB 64 s.testBit)) = 0) = (List.range n).all fun a => !foeS n (attQ l) s a || hitX n (attQ l) s a := by
  have hb := orN_lt64 hv s
  rw [Bool.eq_iff_iff, decide_eq_true_iff, minus0 hb.2 hb.1, List.all_eq_true]
  constructor
  · intro h j hj
    rw [← hit_bit hv hs, ← foe_bit hv hs]
    cases sj : (orN (byL n l) (nodesB 64 s.testBit)).testBit j
    · rfl
    · rw [h j sj]; rfl
  · intro h j hj
    have hj2 := hj
    rw [foe_bit hv hs] at hj2
    have := h j (List.mem_range.2 (foe_lt hv hj2))
    rw [hj2, Bool.not_true, Bool.false_or, ← hit_bit hv hs] at this
    exact this
set_option maxRecDepth 100000 in
set_option maxHeartbeats 2000000 in
theorem netStb_any {n : Nat} {l : List (Int × Int)} (hv : InR n l) {s : Nat} (hs : s < 2 ^ n) (B O : Option Addr) (w : World) (hT : Tab w) (hr : NetR w n l B O) :
    Calls Tryd.prog 97 #[.agg #[.int .u64 ((allN n : Nat) : Int), .slice B n n, .slice O n n], .int .u64 (s : Int)] w (RetB (.bool (stS n (attQ l) s)) w) := by
  have hfree := fun W hT hr => netFreeS_any hv hs B O W hT hr
  have hhit := fun W hT hr => netHitS_any hv hs B O W hT hr
  have hE := stb_bit hv hs
  unfold stS
  obtain ⟨h, hh⟩ : ∃ h, orN (outL n l) (nodesB 64 s.testBit) = h := ⟨_, rfl⟩
  have hlt : h < 18446744073709551616 := by rw [← hh]; exact (orN_lt64 hv s).1
  have ha := u64_of hv.1 (allN_lt n)
  have hsu := u64_of hv.1 hs
  rw [hh] at hhit hE
  rw [← hE]
  have e1 := u64_minus (allN n) s ha hsu
  have e2 := u64_minus (minusN (allN n) s) h (Nat.lt_of_le_of_lt (minusN_le _ _) ha) hlt
  generalize minusN (minusN (allN n) s) h = z at *
  have e3 : ((z : Int) == 0) = decide (z = 0) := by
    by_cases e : z = 0
    · subst e; rfl
    · rw [decide_eq_false e, beq_eq_false_iff_ne]; omega
  generalize decide (z = 0) = zb at *
  generalize freeS n (attQ l) s = fb at *
  generalize minusN (allN n) s = y at *
  have Hfree := Lib.hid hfree; have Hhit := Lib.hid hhit; have E1 := Lib.hid e1; have E2 := Lib.hid e2; have E3 := Lib.hid e3
  clear hfree hhit hh hlt ha hsu hE e1 e2 e3 hs
  go_enter Tryd.func97, Tryd.ntmps97
  go_upto_region 1 with fail
  obtain ⟨W0, hW, c0, c1, c2, hb0⟩ : ∃ W0, w.alloc (.cells #[.int .u64 ((allN n : Nat) : Int), .slice B n n, .slice O n n] 97) = W0 ∧ W0.cell? ⟨w.heap.size, 0, none⟩ = some (.int .u64 ((allN n : Nat) : Int)) ∧ W0.cell? ⟨w.heap.size, 1, none⟩ = some (.slice B n n) ∧ W0.cell? ⟨w.heap.size, 2, none⟩ = some (.slice O n n) ∧ Below w.heap.size w W0 :=
    ⟨_, rfl, (Blk.new w _ _).cell 0, (Blk.new w _ _).cell 1, (Blk.new w _ _).cell 2, (Below.refl _ _).alloc (Nat.le_refl _) _⟩
  rw [hW]
  have hr0 := hr.below hb0
  have hT0 := hT.below hb0
  clear hW hr hT
  go_wp2_with fail
  refine wp_region_textB [2, 3, 10] (fun w' => Below W0.heap.size W0 w') (fun _ => True) (by kernel_rfl) (by kernel_rfl) (by kernel_rfl) (Below.refl _ _).drew trivial ?_
  repeat (first
    | (refine TxtBL.skip (by rfl) ?_; simp only [Act.put, List.setIfInBounds_toArray, List.set_cons_zero, List.set_cons_succ])
    | (refine TxtBL.take (by rfl) (by rfl) ?_; apply Exists.intro; refine ⟨fun w1 hS1 => ?_, ?_⟩; (focus ((have g0 := (hS1.cell (lt_of_cell c0)).trans c0; have g1 := (hS1.cell (lt_of_cell c1)).trans c1; have g2 := (hS1.cell (lt_of_cell c2)).trans c2); go_simp; with_reducible rfl)); simp only [Act.put, List.setIfInBounds_toArray, List.set_cons_zero, List.set_cons_succ])
    | (refine TxtBL.takeE (by rfl) (by rfl) ?_; apply Exists.intro; refine ⟨fun w1 hS1 => ?_, ?_⟩; (focus ((have g0 := (hS1.cell (lt_of_cell c0)).trans c0; have g1 := (hS1.cell (lt_of_cell c1)).trans c1; have g2 := (hS1.cell (lt_of_cell c2)).trans c2); go_simp; with_reducible rfl)); simp only [Act.put, List.setIfInBounds_toArray, List.set_cons_zero, List.set_cons_succ]))
  refine TxtBL.call (f := 117) (args := #[.agg #[.int .u64 ((allN n : Nat) : Int), .slice B n n, .slice O n n], .int .u64 (s : Int)]) (fun u => u = .bool fb) (fun _ _ => True) (by rfl) (by rfl) ⟨_, rfl⟩ (fun w1 hS1 hJ1 => by go_simp) (fun w1 hS1 hJ1 => ?_) ?_
  · refine (Hfree.out w1 (hT0.below hS1) (hr0.below hS1)).mono ?_
    rintro e w' ⟨rfl, hb⟩
    exact ⟨_, rfl, hS1.trans (hb.mono hS1.size), rfl, trivial⟩
  rintro _ rfl
  simp only [Act.put, List.setIfInBounds_toArray, List.set_cons_zero, List.set_cons_succ]
  cases fb
  case false =>
    repeat (first
      | (refine TxtBL.skip (by rfl) ?_; simp only [Act.put, List.setIfInBounds_toArray, List.set_cons_zero, List.set_cons_succ])
      | (refine TxtBL.take (by rfl) (by rfl) ?_; apply Exists.intro; refine ⟨fun w1 hS1 => ?_, ?_⟩; (focus ((have g0 := (hS1.cell (lt_of_cell c0)).trans c0; have g1 := (hS1.cell (lt_of_cell c1)).trans c1; have g2 := (hS1.cell (lt_of_cell c2)).trans c2); go_simp; with_reducible rfl)); simp only [Act.put, List.setIfInBounds_toArray, List.set_cons_zero, List.set_cons_succ])
      | (refine TxtBL.takeE (by rfl) (by rfl) ?_; apply Exists.intro; refine ⟨fun w1 hS1 => ?_, ?_⟩; (focus ((have g0 := (hS1.cell (lt_of_cell c0)).trans c0; have g1 := (hS1.cell (lt_of_cell c1)).trans c1; have g2 := (hS1.cell (lt_of_cell c2)).trans c2); go_simp; with_reducible rfl)); simp only [Act.put, List.setIfInBounds_toArray, List.set_cons_zero, List.set_cons_succ]))
    refine TxtBL.nil (fun X hS hJ => ?_)
    go_wp2
    go_ret
    exact ⟨rfl, endB hb0 hS⟩
  case true =>
    repeat (first
      | (refine TxtBL.skip (by rfl) ?_; simp only [Act.put, List.setIfInBounds_toArray, List.set_cons_zero, List.set_cons_succ])
      | (refine TxtBL.take (by rfl) (by rfl) ?_; apply Exists.intro; refine ⟨fun w1 hS1 => ?_, ?_⟩; (focus ((have g0 := (hS1.cell (lt_of_cell c0)).trans c0; have g1 := (hS1.cell (lt_of_cell c1)).trans c1; have g2 := (hS1.cell (lt_of_cell c2)).trans c2); go_simp; with_reducible rfl)); simp only [Act.put, List.setIfInBounds_toArray, List.set_cons_zero, List.set_cons_succ])
      | (refine TxtBL.takeE (by rfl) (by rfl) ?_; apply Exists.intro; refine ⟨fun w1 hS1 => ?_, ?_⟩; (focus ((have g0 := (hS1.cell (lt_of_cell c0)).trans c0; have g1 := (hS1.cell (lt_of_cell c1)).trans c1; have g2 := (hS1.cell (lt_of_cell c2)).trans c2); go_simp; with_reducible rfl)); simp only [Act.put, List.setIfInBounds_toArray, List.set_cons_zero, List.set_cons_succ]))
    refine TxtBL.call (f := 110) (args := #[.agg #[.int .u64 ((allN n : Nat) : Int), .slice B n n, .slice O n n], .int .u64 (s : Int)]) (fun u => u = .int .u64 (h : Int)) (fun _ _ => True) (by rfl) (by rfl) ⟨_, rfl⟩ (fun w1 hS1 hJ1 => by go_simp) (fun w1 hS1 hJ1 => ?_) ?_
    · refine (Hhit.out w1 (hT0.below hS1) (hr0.below hS1)).mono ?_
      rintro e w' ⟨rfl, hb⟩
      exact ⟨_, rfl, hS1.trans (hb.mono hS1.size), rfl, trivial⟩
    rintro _ rfl
    simp only [Act.put, List.setIfInBounds_toArray, List.set_cons_zero, List.set_cons_succ]
    repeat (first
      | (refine TxtBL.skip (by rfl) ?_; simp only [Act.put, List.setIfInBounds_toArray, List.set_cons_zero, List.set_cons_succ])
      | (refine TxtBL.take (by rfl) (by rfl) ?_; apply Exists.intro; refine ⟨fun w1 hS1 => ?_, ?_⟩; (focus ((have g0 := (hS1.cell (lt_of_cell c0)).trans c0; have g1 := (hS1.cell (lt_of_cell c1)).trans c1; have g2 := (hS1.cell (lt_of_cell c2)).trans c2); go_simp; with_reducible rfl)); simp only [Act.put, List.setIfInBounds_toArray, List.set_cons_zero, List.set_cons_succ])
      | (refine TxtBL.takeE (by rfl) (by rfl) ?_; apply Exists.intro; refine ⟨fun w1 hS1 => ?_, ?_⟩; (focus ((have g0 := (hS1.cell (lt_of_cell c0)).trans c0; have g1 := (hS1.cell (lt_of_cell c1)).trans c1; have g2 := (hS1.cell (lt_of_cell c2)).trans c2); go_simp; with_reducible rfl)); simp only [Act.put, List.setIfInBounds_toArray, List.set_cons_zero, List.set_cons_succ]))
    refine TxtBL.nil (fun X hS hJ => ?_)
    go_wp2
    go_ret
    refine ⟨?_, endB hb0 hS⟩
    rw [E1.out, E2.out, E3.out]
    rfl
set_option maxRecDepth 100000 in
set_option maxHeartbeats 2000000 in
theorem netAdm_any {n : Nat} {l : List (Int × Int)} (hv : InR n l) {s : Nat} (hs : s < 2 ^ n) (B O : Option Addr) (w : World) (hT : Tab w) (hr : NetR w n l B O) :
    Calls Tryd.prog 98 #[.agg #[.int .u64 ((allN n : Nat) : Int), .slice B n n, .slice O n n], .int .u64 (s : Int)] w (RetB (.bool (adS n (attQ l) s)) w) := by
  have hfree := fun W hT hr => netFreeS_any hv hs B O W hT hr
  have hhit := fun W hT hr => netHitS_any hv hs B O W hT hr
  have hE := adm_bit2 hv hs
  unfold adS
  have hfoe := fun W hT hr => netFoeS_any hv hs B O W hT hr
  obtain ⟨h, hh⟩ : ∃ h, orN (outL n l) (nodesB 64 s.testBit) = h := ⟨_, rfl⟩
  obtain ⟨f, hf⟩ : ∃ f, orN (byL n l) (nodesB 64 s.testBit) = f := ⟨_, rfl⟩
  have hlt : h < 18446744073709551616 := by rw [← hh]; exact (orN_lt64 hv s).1
  have flt : f < 18446744073709551616 := by rw [← hf]; exact (orN_lt64 hv s).2
  rw [hh] at hhit hE
  rw [hf] at hfoe hE
  rw [← hE]
  have e2 := u64_minus f h flt hlt
  generalize minusN f h = z at *
  have e3 : ((z : Int) == 0) = decide (z = 0) := by
    by_cases e : z = 0
    · subst e; rfl
    · rw [decide_eq_false e, beq_eq_false_iff_ne]; omega
  generalize decide (z = 0) = zb at *
  generalize freeS n (attQ l) s = fb at *
  have Hfree := Lib.hid hfree; have Hhit := Lib.hid hhit; have Hfoe := Lib.hid hfoe; have E2 := Lib.hid e2; have E3 := Lib.hid e3
  clear hfree hhit hfoe hh hf hlt flt hE e2 e3 hs
  go_enter Tryd.func98, Tryd.ntmps98
  go_upto_region 1 with fail
  obtain ⟨W0, hW, c0, c1, c2, hb0⟩ : ∃ W0, w.alloc (.cells #[.int .u64 ((allN n : Nat) : Int), .slice B n n, .slice O n n] 97) = W0 ∧ W0.cell? ⟨w.heap.size, 0, none⟩ = some (.int .u64 ((allN n : Nat) : Int)) ∧ W0.cell? ⟨w.heap.size, 1, none⟩ = some (.slice B n n) ∧ W0.cell? ⟨w.heap.size, 2, none⟩ = some (.slice O n n) ∧ Below w.heap.size w W0 :=
    ⟨_, rfl, (Blk.new w _ _).cell 0, (Blk.new w _ _).cell 1, (Blk.new w _ _).cell 2, (Below.refl _ _).alloc (Nat.le_refl _) _⟩
  rw [hW]
  have hr0 := hr.below hb0
  have hT0 := hT.below hb0
  clear hW hr hT
  go_wp2_with fail
  refine wp_region_textB [2, 3, 6, 9] (fun w' => Below W0.heap.size W0 w') (fun _ => True) (by kernel_rfl) (by kernel_rfl) (by kernel_rfl) (Below.refl _ _).drew trivial ?_
  repeat (first
    | (refine TxtBL.skip (by rfl) ?_; simp only [Act.put, List.setIfInBounds_toArray, List.set_cons_zero, List.set_cons_succ])
    | (refine TxtBL.take (by rfl) (by rfl) ?_; apply Exists.intro; refine ⟨fun w1 hS1 => ?_, ?_⟩; (focus ((have g0 := (hS1.cell (lt_of_cell c0)).trans c0; have g1 := (hS1.cell (lt_of_cell c1)).trans c1; have g2 := (hS1.cell (lt_of_cell c2)).trans c2); go_simp; with_reducible rfl)); simp only [Act.put, List.setIfInBounds_toArray, List.set_cons_zero, List.set_cons_succ])
    | (refine TxtBL.takeE (by rfl) (by rfl) ?_; apply Exists.intro; refine ⟨fun w1 hS1 => ?_, ?_⟩; (focus ((have g0 := (hS1.cell (lt_of_cell c0)).trans c0; have g1 := (hS1.cell (lt_of_cell c1)).trans c1; have g2 := (hS1.cell (lt_of_cell c2)).trans c2); go_simp; with_reducible rfl)); simp only [Act.put, List.setIfInBounds_toArray, List.set_cons_zero, List.set_cons_succ]))
  refine TxtBL.call (f := 117) (args := #[.agg #[.int .u64 ((allN n : Nat) : Int), .slice B n n, .slice O n n], .int .u64 (s : Int)]) (fun u => u = .bool fb) (fun _ _ => True) (by rfl) (by rfl) ⟨_, rfl⟩ (fun w1 hS1 hJ1 => by go_simp) (fun w1 hS1 hJ1 => ?_) ?_
  · refine (Hfree.out w1 (hT0.below hS1) (hr0.below hS1)).mono ?_
    rintro e w' ⟨rfl, hb⟩
    exact ⟨_, rfl, hS1.trans (hb.mono hS1.size), rfl, trivial⟩
  rintro _ rfl
  simp only [Act.put, List.setIfInBounds_toArray, List.set_cons_zero, List.set_cons_succ]
  cases fb
  case false =>
    repeat (first
      | (refine TxtBL.skip (by rfl) ?_; simp only [Act.put, List.setIfInBounds_toArray, List.set_cons_zero, List.set_cons_succ])
      | (refine TxtBL.take (by rfl) (by rfl) ?_; apply Exists.intro; refine ⟨fun w1 hS1 => ?_, ?_⟩; (focus ((have g0 := (hS1.cell (lt_of_cell c0)).trans c0; have g1 := (hS1.cell (lt_of_cell c1)).trans c1; have g2 := (hS1.cell (lt_of_cell c2)).trans c2); go_simp; with_reducible rfl)); simp only [Act.put, List.setIfInBounds_toArray, List.set_cons_zero, List.set_cons_succ])
      | (refine TxtBL.takeE (by rfl) (by rfl) ?_; apply Exists.intro; refine ⟨fun w1 hS1 => ?_, ?_⟩; (focus ((have g0 := (hS1.cell (lt_of_cell c0)).trans c0; have g1 := (hS1.cell (lt_of_cell c1)).trans c1; have g2 := (hS1.cell (lt_of_cell c2)).trans c2); go_simp; with_reducible rfl)); simp only [Act.put, List.setIfInBounds_toArray, List.set_cons_zero, List.set_cons_succ]))
    refine TxtBL.nil (fun X hS hJ => ?_)
    go_wp2
    go_ret
    exact ⟨rfl, endB hb0 hS⟩
  case true =>
    repeat (first
      | (refine TxtBL.skip (by rfl) ?_; simp only [Act.put, List.setIfInBounds_toArray, List.set_cons_zero, List.set_cons_succ])
      | (refine TxtBL.take (by rfl) (by rfl) ?_; apply Exists.intro; refine ⟨fun w1 hS1 => ?_, ?_⟩; (focus ((have g0 := (hS1.cell (lt_of_cell c0)).trans c0; have g1 := (hS1.cell (lt_of_cell c1)).trans c1; have g2 := (hS1.cell (lt_of_cell c2)).trans c2); go_simp; with_reducible rfl)); simp only [Act.put, List.setIfInBounds_toArray, List.set_cons_zero, List.set_cons_succ])
      | (refine TxtBL.takeE (by rfl) (by rfl) ?_; apply Exists.intro; refine ⟨fun w1 hS1 => ?_, ?_⟩; (focus ((have g0 := (hS1.cell (lt_of_cell c0)).trans c0; have g1 := (hS1.cell (lt_of_cell c1)).trans c1; have g2 := (hS1.cell (lt_of_cell c2)).trans c2); go_simp; with_reducible rfl)); simp only [Act.put, List.setIfInBounds_toArray, List.set_cons_zero, List.set_cons_succ]))
    refine TxtBL.call (f := 118) (args := #[.agg #[.int .u64 ((allN n : Nat) : Int), .slice B n n, .slice O n n], .int .u64 (s : Int)]) (fun u => u = .int .u64 (f : Int)) (fun _ _ => True) (by rfl) (by rfl) ⟨_, rfl⟩ (fun w1 hS1 hJ1 => by go_simp) (fun w1 hS1 hJ1 => ?_) ?_
    · refine (Hfoe.out w1 (hT0.below hS1) (hr0.below hS1)).mono ?_
      rintro e w' ⟨rfl, hb⟩
      exact ⟨_, rfl, hS1.trans (hb.mono hS1.size), rfl, trivial⟩
    rintro _ rfl
    simp only [Act.put, List.setIfInBounds_toArray, List.set_cons_zero, List.set_cons_succ]
    repeat (first
      | (refine TxtBL.skip (by rfl) ?_; simp only [Act.put, List.setIfInBounds_toArray, List.set_cons_zero, List.set_cons_succ])
      | (refine TxtBL.take (by rfl) (by rfl) ?_; apply Exists.intro; refine ⟨fun w1 hS1 => ?_, ?_⟩; (focus ((have g0 := (hS1.cell (lt_of_cell c0)).trans c0; have g1 := (hS1.cell (lt_of_cell c1)).trans c1; have g2 := (hS1.cell (lt_of_cell c2)).trans c2); go_simp; with_reducible rfl)); simp only [Act.put, List.setIfInBounds_toArray, List.set_cons_zero, List.set_cons_succ])
      | (refine TxtBL.takeE (by rfl) (by rfl) ?_; apply Exists.intro; refine ⟨fun w1 hS1 => ?_, ?_⟩; (focus ((have g0 := (hS1.cell (lt_of_cell c0)).trans c0; have g1 := (hS1.cell (lt_of_cell c1)).trans c1; have g2 := (hS1.cell (lt_of_cell c2)).trans c2); go_simp; with_reducible rfl)); simp only [Act.put, List.setIfInBounds_toArray, List.set_cons_zero, List.set_cons_succ]))
    refine TxtBL.call (f := 110) (args := #[.agg #[.int .u64 ((allN n : Nat) : Int), .slice B n n, .slice O n n], .int .u64 (s : Int)]) (fun u => u = .int .u64 (h : Int)) (fun _ _ => True) (by rfl) (by rfl) ⟨_, rfl⟩ (fun w1 hS1 hJ1 => by go_simp) (fun w1 hS1 hJ1 => ?_) ?_
    · refine (Hhit.out w1 (hT0.below hS1) (hr0.below hS1)).mono ?_
      rintro e w' ⟨rfl, hb⟩
      exact ⟨_, rfl, hS1.trans (hb.mono hS1.size), rfl, trivial⟩
    rintro _ rfl
    simp only [Act.put, List.setIfInBounds_toArray, List.set_cons_zero, List.set_cons_succ]
    repeat (first
      | (refine TxtBL.skip (by rfl) ?_; simp only [Act.put, List.setIfInBounds_toArray, List.set_cons_zero, List.set_cons_succ])
      | (refine TxtBL.take (by rfl) (by rfl) ?_; apply Exists.intro; refine ⟨fun w1 hS1 => ?_, ?_⟩; (focus ((have g0 := (hS1.cell (lt_of_cell c0)).trans c0; have g1 := (hS1.cell (lt_of_cell c1)).trans c1; have g2 := (hS1.cell (lt_of_cell c2)).trans c2); go_simp; with_reducible rfl)); simp only [Act.put, List.setIfInBounds_toArray, List.set_cons_zero, List.set_cons_succ])
      | (refine TxtBL.takeE (by rfl) (by rfl) ?_; apply Exists.intro; refine ⟨fun w1 hS1 => ?_, ?_⟩; (focus ((have g0 := (hS1.cell (lt_of_cell c0)).trans c0; have g1 := (hS1.cell (lt_of_cell c1)).trans c1; have g2 := (hS1.cell (lt_of_cell c2)).trans c2); go_simp; with_reducible rfl)); simp only [Act.put, List.setIfInBounds_toArray, List.set_cons_zero, List.set_cons_succ]))
    refine TxtBL.nil (fun X hS hJ => ?_)
    go_wp2
    go_ret
    refine ⟨?_, endB hb0 hS⟩
    rw [E2.out, E3.out]
    rfl
/-- the first error of a graph, a kind and a set -/
def arE (N : Int) (G : List (Int × Int)) (s : List Int) (kind : Int) : Int := if valE N G = 0 then if kind = 1 ∨ kind = 2 then if setB N s = true then 0 else 1 else 4 else valE N G
set_option maxRecDepth 100000 in
set_option maxHeartbeats 2000000 in
theorem enArg_any (A : Option Addr) (N : Int) (G : List (Int × Int)) (c : Nat) (B : Option Addr) (s : List Int) (cs : Nat) (kind : Int) (w : World) (hr : RP w A G) (hl : G.length ≤ 100000) (hs : RI w B s) (hls : s.length ≤ 100000) :
    Calls Tryd.prog 51 #[.agg #[.int .i64 N, .slice A G.length c], .slice B s.length cs, .int .i64 kind] w (RetB (.int .i64 (arE N G s kind)) w) := by
  have hasc := fun w hs => enAsc_any N B s cs w hs hls
  obtain ⟨r, hre⟩ : ∃ r, arE N G s kind = r := ⟨_, rfl⟩
  rw [hre]
  unfold arE at hre
  go_enter Tryd.func51, Tryd.ntmps51
  go_wp2_with fail
  obtain ⟨W0, hW, k0, hb0⟩ : ∃ W0, w.alloc (.cells #[.int .i64 N, .slice A G.length c] 24) = W0 ∧ Blk W0 w.heap.size 24 #[.int .i64 N, .slice A G.length c] ∧ Below w.heap.size w W0 := ⟨_, rfl, Blk.new _ _ _, (Below.refl _ _).alloc (Nat.le_refl _) _⟩
  rw [hW]
  refine (gValidate_any _ _ _ _ _ (hr.below hb0) hl).mono ?_
  rintro e w1 ⟨rfl, hb⟩
  have hbb := endB hb0 hb
  obtain ⟨c0, c1, _, _⟩ := (k0.below hb k0.lt).two
  have hs1 := hs.below hbb
  clear hW k0 hb0 hb hr hs
  by_cases hv : valE N G = 0
  case neg =>
    have d : (valE N G != 0) = true := by simp [hv]
    rw [if_neg hv] at hre
    subst hre
    generalize valE N G = v at *
    clear hv
    go_wp2
    go_ret
    exact ⟨rfl, hbb⟩
  have d : (valE N G != 0) = false := by simp [hv]
  rw [if_pos hv] at hre
  generalize valE N G = v at *
  clear hv
  by_cases h1 : kind = 1
  · subst h1
    rw [if_pos (.inl rfl)] at hre
    go_wp2_with fail
    refine (hasc w1 hs1).mono ?_
    rintro e w2 ⟨rfl, hb⟩
    have hbb2 := endB hbb hb
    clear hb
    cases hsb : setB N s
    all_goals rw [hsb] at hre; simp only [Bool.false_eq_true, if_true, if_false] at hre; subst hre
    · go_wp2
      go_ret
      exact ⟨rfl, hbb2⟩
    · go_wp2
      go_ret
      exact ⟨rfl, hbb2⟩
  by_cases h2 : kind = 2
  · subst h2
    clear h1
    rw [if_pos (.inr rfl)] at hre
    go_wp2_with fail
    refine (hasc w1 hs1).mono ?_
    rintro e w2 ⟨rfl, hb⟩
    have hbb2 := endB hbb hb
    clear hb
    cases hsb : setB N s
    all_goals rw [hsb] at hre; simp only [Bool.false_eq_true, if_true, if_false] at hre; subst hre
    · go_wp2
      go_ret
      exact ⟨rfl, hbb2⟩
    · go_wp2
      go_ret
      exact ⟨rfl, hbb2⟩
  rw [if_neg (by omega)] at hre
  subst hre
  have d1 : (kind != 1) = true := by simp [h1]
  have d2 : (kind != 2) = true := by simp [h2]
  clear h1 h2
  go_wp2
  go_ret
  exact ⟨rfl, hbb⟩
/-- no change makes the set acceptable -/
def hpB (N : Int) (s : List Int) (kind : Int) : Bool := decide (s = []) && (decide (kind = 2) && decide (0 < N))
set_option maxHeartbeats 1000000 in
theorem enHop_any (A : Option Addr) (N : Int) (G : List (Int × Int)) (c : Nat) (B : Option Addr) (s : List Int) (cs : Nat) (kind : Int) (w : World) :
    Calls Tryd.prog 60 #[.agg #[.int .i64 N, .slice A G.length c], .slice B s.length cs, .int .i64 kind] w (RetB (.bool (hpB N s kind)) w) := by
  have e0 : (((s.length : Nat) : Int) == 0) = decide (s = []) := by
    cases s with
    | nil => rfl
    | cons x r => simp; omega
  have e1 : (kind == 2) = decide (kind = 2) := by
    by_cases h : kind = 2
    · subst h; rfl
    · simp [h]
  unfold hpB
  generalize decide (s = []) = b0 at *
  generalize decide (kind = 2) = b1 at *
  obtain ⟨b2, e2⟩ : ∃ b, decide (0 < N) = b := ⟨_, rfl⟩
  rw [e2]
  have hb : ∀ o, Below w.heap.size w (w.alloc o) := fun o => (Below.refl _ _).alloc (Nat.le_refl _) _
  go_enter Tryd.func60, Tryd.ntmps60
  cases b0
  · go_wp2
    go_ret
    exact ⟨rfl, hb _⟩
  cases b1
  · go_wp2
    go_ret
    exact ⟨rfl, hb _⟩
  cases b2
  · go_wp2
    go_ret
    exact ⟨rfl, hb _⟩
  · go_wp2
    go_ret
    exact ⟨rfl, hb _⟩
end Go.Proofs.YtncimnfhfomddaaDoor
