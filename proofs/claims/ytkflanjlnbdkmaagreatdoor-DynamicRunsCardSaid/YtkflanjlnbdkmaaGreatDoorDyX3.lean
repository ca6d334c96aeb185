import Derived.Test.YtkflanjlnbdkmaaGreatDoorDyX1
import Derived.Test.YtkflanjlnbdkmaaGreatDoorGr
import Derived.Test.YtkflanjlnbdkmaaGreatDoorDyX2
/- dynamic.change's closures; slices.BinarySearchFunc at pairs. -/
namespace Go.Proofs.YtkflanjlnbdkmaaGreatDoor
open Go.ChangeShapes Go.WideShapes Go.ChangeAt Go.RowKit

set_option maxHeartbeats 1000000 in
theorem dcmp_any (p q : Int × Int) (w : World) : Calls Tryz.prog 60 #[.agg #[.int .i64 p.1, .int .i64 p.2], .agg #[.int .i64 q.1, .int .i64 q.2]] w (RetX (.int .i64 (cmpP p q)) w) := by
  go_enter Tryz.func60, Tryz.ntmps60
  go_wp2_with fail
  obtain ⟨W0, hW, k0, k1, _, _⟩ := boxed2 w 54 54 (.int .i64 p.1) (.int .i64 p.2) (.int .i64 q.1) (.int .i64 q.2)
  have hG : Grew w W0 := by rw [← hW]; exact ((Grew.refl w).alloc _).alloc _
  rw [hW]
  clear hW
  refine wp_region_textB [4, 9, 10, 11] (fun w' => Grew W0 w') (fun _ => True) (by kernel_rfl) (by kernel_rfl) (by kernel_rfl) (Grew.refl _).drew trivial ?_
  repeat (first
    | (refine TxtBL.skip (by rfl) ?_; simp only [Act.put, List.setIfInBounds_toArray, List.set_cons_zero, List.set_cons_succ])
    | (refine TxtBL.take (by rfl) (by rfl) ?_; apply Exists.intro; refine ⟨fun w1 hS1 => ?_, ?_⟩; (focus ((obtain ⟨g0, g1, _, _⟩ := (k0.below hS1.below k0.lt).two); (obtain ⟨g2, g3, _, _⟩ := (k1.below hS1.below k1.lt).two); go_simp; with_reducible rfl)); simp only [Act.put, List.setIfInBounds_toArray, List.set_cons_zero, List.set_cons_succ])
    | (refine TxtBL.takeE (by rfl) (by rfl) ?_; apply Exists.intro; refine ⟨fun w1 hS1 => ?_, ?_⟩; (focus ((obtain ⟨g0, g1, _, _⟩ := (k0.below hS1.below k0.lt).two); (obtain ⟨g2, g3, _, _⟩ := (k1.below hS1.below k1.lt).two); go_simp; with_reducible rfl)); simp only [Act.put, List.setIfInBounds_toArray, List.set_cons_zero, List.set_cons_succ]))
  refine TxtBL.call (f := 54) (args := #[.int .i64 p.1, .int .i64 q.1]) (fun v => v = .int .i64 (cmpI p.1 q.1)) (fun _ _ => True) (by rfl) (by rfl) ⟨_, rfl⟩ (fun w1 hS1 hJ1 => by go_simp) (fun w1 hS1 hJ1 => ?_) ?_
  · refine (cmpc_any _ _ w1).mono ?_
    rintro e w' ⟨rfl, rfl⟩
    exact ⟨_, rfl, hS1, rfl, trivial⟩
  rintro v rfl
  simp only [Act.put, List.setIfInBounds_toArray, List.set_cons_zero, List.set_cons_succ]
  repeat (first
    | (refine TxtBL.skip (by rfl) ?_; simp only [Act.put, List.setIfInBounds_toArray, List.set_cons_zero, List.set_cons_succ])
    | (refine TxtBL.take (by rfl) (by rfl) ?_; apply Exists.intro; refine ⟨fun w1 hS1 => ?_, ?_⟩; (focus ((obtain ⟨g0, g1, _, _⟩ := (k0.below hS1.below k0.lt).two); (obtain ⟨g2, g3, _, _⟩ := (k1.below hS1.below k1.lt).two); go_simp; with_reducible rfl)); simp only [Act.put, List.setIfInBounds_toArray, List.set_cons_zero, List.set_cons_succ])
    | (refine TxtBL.takeE (by rfl) (by rfl) ?_; apply Exists.intro; refine ⟨fun w1 hS1 => ?_, ?_⟩; (focus ((obtain ⟨g0, g1, _, _⟩ := (k0.below hS1.below k0.lt).two); (obtain ⟨g2, g3, _, _⟩ := (k1.below hS1.below k1.lt).two); go_simp; with_reducible rfl)); simp only [Act.put, List.setIfInBounds_toArray, List.set_cons_zero, List.set_cons_succ]))
  refine TxtBL.call (f := 54) (args := #[.int .i64 p.2, .int .i64 q.2]) (fun v => v = .int .i64 (cmpI p.2 q.2)) (fun _ _ => True) (by rfl) (by rfl) ⟨_, rfl⟩ (fun w1 hS1 hJ1 => by go_simp) (fun w1 hS1 hJ1 => ?_) ?_
  · refine (cmpc_any _ _ w1).mono ?_
    rintro e w' ⟨rfl, rfl⟩
    exact ⟨_, rfl, hS1, rfl, trivial⟩
  rintro v rfl
  simp only [Act.put, List.setIfInBounds_toArray, List.set_cons_zero, List.set_cons_succ]
  refine TxtBL.value (fun v => ∃ g, v = Value.slice (some ⟨g, 0, none⟩) 2 2) (fun v w' => ∃ g, v = Value.slice (some ⟨g, 0, none⟩) 2 2 ∧ RI w' (some ⟨g, 0, none⟩) [cmpI p.1 q.1, cmpI p.2 q.2]) (by rfl) (by rfl) ⟨_, 0, rfl⟩ (fun w1 hS1 hJ1 => ?_) ?_
  · exact ⟨.slice (some ⟨w1.heap.size, 0, none⟩) 2 2, w1.alloc (.cells #[.int .i64 (cmpI p.1 q.1), .int .i64 (cmpI p.2 q.2)] 3), by go_simp, hS1.alloc _, ⟨_, rfl⟩, _, rfl, new_ri2' _ _ _ _⟩
  rintro v ⟨g, rfl⟩
  simp only [Act.put, List.setIfInBounds_toArray, List.set_cons_zero, List.set_cons_succ]
  refine TxtBL.call (f := 53) (args := #[.slice (some ⟨g, 0, none⟩) 2 2]) (fun v => v = .int .i64 (cmpP p q)) (fun _ _ => True) (by rfl) (by rfl) ⟨_, rfl⟩ (fun w1 hS1 hJ1 => by go_simp) (fun w1 hS1 hJ1 => ?_) ?_
  · obtain ⟨g', hg', hri⟩ := hJ1
    injection hg' with hg' _ _; injection hg' with hg'; injection hg' with hg' _ _; subst hg'
    refine (or_any _ _ _ _ w1 hri).mono ?_
    rintro e w' ⟨rfl, rfl⟩
    exact ⟨_, rfl, hS1, rfl, trivial⟩
  rintro v rfl
  simp only [Act.put, List.setIfInBounds_toArray, List.set_cons_zero, List.set_cons_succ]
  repeat (first
    | (refine TxtBL.skip (by rfl) ?_; simp only [Act.put, List.setIfInBounds_toArray, List.set_cons_zero, List.set_cons_succ])
    | (refine TxtBL.take (by rfl) (by rfl) ?_; apply Exists.intro; refine ⟨fun w1 hS1 => ?_, ?_⟩; (focus (skip; go_simp; with_reducible rfl)); simp only [Act.put, List.setIfInBounds_toArray, List.set_cons_zero, List.set_cons_succ])
    | (refine TxtBL.takeE (by rfl) (by rfl) ?_; apply Exists.intro; refine ⟨fun w1 hS1 => ?_, ?_⟩; (focus (skip; go_simp; with_reducible rfl)); simp only [Act.put, List.setIfInBounds_toArray, List.set_cons_zero, List.set_cons_succ]))
  refine TxtBL.nil (fun B hS hJ => ?_)
  go_wp2
  go_ret
  exact ⟨rfl, hG.trans hS⟩

/-- where a pair belongs in a list in order -/
def RetBs (l : List (Int × Int)) (p : Int × Int) (w : World) : Ending → World → Prop := fun e w' => ∃ (i : Nat) (b : Bool), e = .returned (.tuple #[.int .i64 (i : Int), .bool b]) ∧ i ≤ l.length ∧ (∀ q ∈ l.take i, ltP q p) ∧ (∀ q ∈ l.drop i, ¬ ltP q p) ∧ Below w.heap.size w w'
theorem ltP_take {l : List (Int × Int)} (hs : l.Pairwise ltP) {h : Nat} (hh : h < l.length) {p : Int × Int} (hp : ltP l[h] p) : ∀ q ∈ l.take (h + 1), ltP q p := fun q hq => by
  rw [List.take_succ_eq_append_getElem hh, List.mem_append, List.mem_singleton] at hq
  rcases hq with hq | rfl
  · have e : l = l.take h ++ l.drop h := (List.take_append_drop h l).symm
    rw [e, List.pairwise_append] at hs
    have := hs.2.2 q hq l[h] (by rw [List.drop_eq_getElem_cons hh]; exact List.mem_cons_self ..)
    exact ltP_trans this hp
  · exact hp
theorem ltP_drop {l : List (Int × Int)} (hs : l.Pairwise ltP) {h : Nat} (hh : h < l.length) {p : Int × Int} (hp : ¬ ltP l[h] p) : ∀ q ∈ l.drop h, ¬ ltP q p := fun q hq => by
  rw [List.drop_eq_getElem_cons hh, List.mem_cons] at hq
  rcases hq with rfl | hq
  · exact hp
  · intro hqp
    have e : l = l.take h ++ l.drop h := (List.take_append_drop h l).symm
    rw [e, List.pairwise_append, List.drop_eq_getElem_cons hh, List.pairwise_cons] at hs
    exact hp (ltP_trans (hs.2.1.1 q hq) hqp)
set_option maxRecDepth 100000 in
set_option maxHeartbeats 2000000 in
theorem bsearchP_any (A : Option Addr) (l : List (Int × Int)) (c : Nat) (f t : Int) (w : World) (hr : RP w A l) (hl : l.length ≤ 100000) (hs : l.Pairwise ltP) :
    Calls Tryz.prog 59 #[.slice A l.length c, .agg #[.int .i64 f, .int .i64 t], .func (.func 60) #[] #[]] w (RetBs l (f, t) w) := by
  have Hs := Lib.hid hs
  clear hs
  go_enter Tryz.func59, Tryz.ntmps59
  go_upto_region 1 with fail
  obtain ⟨W0, hW, k0, k1, hb0, hlt0⟩ := boxed w 54 (.int .i64 f) (.int .i64 t)
  rw [hW]
  have hr0 := hr.below hb0
  clear hW hr
  go_wp2_with fail
  go_loopw [9, 10] (fun i j wr => ∃ a b : Nat, a ≤ b ∧ b ≤ l.length ∧ i = .int .i64 a ∧ j = .int .i64 b ∧ (∀ q ∈ l.take a, ltP q (f, t)) ∧ (∀ q ∈ l.drop b, ¬ ltP q (f, t)) ∧ Below W0.heap.size W0 wr) (fun i j _ => (intOf j).toNat - (intOf i).toNat)
  case atStart => exact ⟨0, l.length, Nat.zero_le _, Nat.le_refl _, rfl, rfl, by simp, by simp, Below.refl _ _⟩
  case round =>
    obtain ⟨a, b, hab, hbl, rfl, rfl, h1, h2, hbw⟩ := hrel
    have H1 := Lib.hid h1; have H2 := Lib.hid h2
    clear h1 h2
    have d0 := (hbw.cell (lt_of_cell k0)).trans k0
    have d1 := (hbw.cell (lt_of_cell k1)).trans k1
    by_cases hlt : a < b
    case neg =>
      have hab' : a = b := by omega
      subst hab'
      have hlt' : ¬ (a : Int) < (a : Int) := by omega
      clear hlt
      by_cases han : a < l.length
      · have hn' : (a : Int) < (l.length : Int) := by omega
        have ha0 : (0 : Int) ≤ (a : Int) := by omega
        obtain ⟨b', o, rfl, hc0, hc1⟩ := (hr0.below hbw).at_ han
        have hcmp := dcmp_any l[a] (f, t)
        generalize l[a] = pr at *
        obtain ⟨x, y⟩ := pr
        simp only at hc0 hc1
        obtain ⟨r, hrr⟩ : ∃ r, cmpP (x, y) (f, t) = r := ⟨_, rfl⟩
        rw [hrr] at hcmp
        obtain ⟨q, hq⟩ : ∃ q, (r == 0) = q := ⟨_, rfl⟩
        clear hrr
        go_upto_region 8 with fail
        refine wp_region_textB [3, 4, 11, 12] (fun w' => Below wr.heap.size wr w') (fun _ => True) (by kernel_rfl) (by kernel_rfl) (by kernel_rfl) (Below.refl _ _).drew trivial ?_
        repeat (first
          | (refine TxtBL.skip (by rfl) ?_; simp only [Act.put, List.setIfInBounds_toArray, List.set_cons_zero, List.set_cons_succ])
          | (refine TxtBL.take (by rfl) (by rfl) ?_; apply Exists.intro; refine ⟨fun w1 hS1 => ?_, ?_⟩; (focus ((have g0 := (hS1.cell (lt_of_cell d0)).trans d0); (have g1 := (hS1.cell (lt_of_cell d1)).trans d1); (have g2 := (hS1.cell (lt_of_cell hc0)).trans hc0); (have g3 := (hS1.cell (lt_of_cell hc1)).trans hc1); go_simp; with_reducible rfl)); simp only [Act.put, List.setIfInBounds_toArray, List.set_cons_zero, List.set_cons_succ])
          | (refine TxtBL.takeE (by rfl) (by rfl) ?_; apply Exists.intro; refine ⟨fun w1 hS1 => ?_, ?_⟩; (focus ((have g0 := (hS1.cell (lt_of_cell d0)).trans d0); (have g1 := (hS1.cell (lt_of_cell d1)).trans d1); (have g2 := (hS1.cell (lt_of_cell hc0)).trans hc0); (have g3 := (hS1.cell (lt_of_cell hc1)).trans hc1); go_simp; with_reducible rfl)); simp only [Act.put, List.setIfInBounds_toArray, List.set_cons_zero, List.set_cons_succ]))
        refine TxtBL.call (f := 60) (args := #[.agg #[.int .i64 x, .int .i64 y], .agg #[.int .i64 f, .int .i64 t]]) (fun v => v = .int .i64 r) (fun _ _ => True) (by rfl) (by rfl) ⟨_, rfl⟩ (fun w1 hS1 hJ1 => by go_simp) (fun w1 hS1 hJ1 => ?_) ?_
        · exact (hcmp w1).mono fun _ _ h => ⟨_, h.1, hS1.trans (h.2.below.mono hS1.size), rfl, trivial⟩
        rintro v rfl
        simp only [Act.put, List.setIfInBounds_toArray, List.set_cons_zero, List.set_cons_succ]
        repeat (first
          | (refine TxtBL.skip (by rfl) ?_; simp only [Act.put, List.setIfInBounds_toArray, List.set_cons_zero, List.set_cons_succ])
          | (refine TxtBL.take (by rfl) (by rfl) ?_; apply Exists.intro; refine ⟨fun w1 hS1 => ?_, ?_⟩; (focus (skip; go_simp; with_reducible rfl)); simp only [Act.put, List.setIfInBounds_toArray, List.set_cons_zero, List.set_cons_succ])
          | (refine TxtBL.takeE (by rfl) (by rfl) ?_; apply Exists.intro; refine ⟨fun w1 hS1 => ?_, ?_⟩; (focus (skip; go_simp; with_reducible rfl)); simp only [Act.put, List.setIfInBounds_toArray, List.set_cons_zero, List.set_cons_succ]))
        refine TxtBL.nil (fun w2 hS _ => ?_)
        go_wp2_with fail
        go_ret2
        exact ⟨a, q, rfl, hbl, H1.out, H2.out, endB (endB hb0 hbw) hS⟩
      · have hn' : ¬ (a : Int) < (l.length : Int) := by omega
        go_upto_region 8 with fail
        refine wp_region_textB [3, 4, 11, 12] (fun w' => Below wr.heap.size wr w') (fun _ => True) (by kernel_rfl) (by kernel_rfl) (by kernel_rfl) (Below.refl _ _).drew trivial ?_
        repeat (first
          | (refine TxtBL.skip (by rfl) ?_; simp only [Act.put, List.setIfInBounds_toArray, List.set_cons_zero, List.set_cons_succ])
          | (refine TxtBL.take (by rfl) (by rfl) ?_; apply Exists.intro; refine ⟨fun w1 hS1 => ?_, ?_⟩; (focus (skip; go_simp; with_reducible rfl)); simp only [Act.put, List.setIfInBounds_toArray, List.set_cons_zero, List.set_cons_succ])
          | (refine TxtBL.takeE (by rfl) (by rfl) ?_; apply Exists.intro; refine ⟨fun w1 hS1 => ?_, ?_⟩; (focus (skip; go_simp; with_reducible rfl)); simp only [Act.put, List.setIfInBounds_toArray, List.set_cons_zero, List.set_cons_succ]))
        refine TxtBL.nil (fun w2 hS _ => ?_)
        go_wp2_with fail
        go_ret2
        exact ⟨a, false, rfl, hbl, H1.out, H2.out, endB (endB hb0 hbw) hS⟩
    case pos =>
    have hlt' : (a : Int) < (b : Int) := by omega
    go_upto_region 5 with fail
    obtain ⟨h, hh⟩ : ∃ h : Nat, ((a : Int) + (b : Int)) / 2 = (h : Int) := ⟨(a + b) / 2, by omega⟩
    rw [hh]
    have hah : a ≤ h := by omega
    have hhb : h < b := by omega
    have hhn : h < l.length := by omega
    have hn' : (h : Int) < (l.length : Int) := by omega
    have ha0 : (0 : Int) ≤ (h : Int) := by omega
    clear hh
    have hT := fun hp => ltP_take Hs.out hhn (p := (f, t)) hp
    have hD := fun hp => ltP_drop Hs.out hhn (p := (f, t)) hp
    have HT := Lib.hid hT; have HD := Lib.hid hD
    clear hT hD
    obtain ⟨b', o, rfl, hc0, hc1⟩ := (hr0.below hbw).at_ hhn
    have hcmp := dcmp_any l[h] (f, t)
    generalize l[h] = pr at *
    obtain ⟨x, y⟩ := pr
    simp only at hc0 hc1
    obtain ⟨r, hrr⟩ : ∃ r, cmpP (x, y) (f, t) = r := ⟨_, rfl⟩
    have hneg := @cmpP_neg (x, y) (f, t)
    rw [hrr] at hcmp hneg
    have Hneg := Lib.hid hneg
    clear hrr hneg
    by_cases hr1 : r < 0
    · have HT2 := Lib.hid (HT.out (Hneg.out.1 hr1))
      clear HT HD Hneg
      refine wp_region_textB [6] (fun w' => Below wr.heap.size wr w') (fun _ => True) (by kernel_rfl) (by kernel_rfl) (by kernel_rfl) (Below.refl _ _).drew trivial ?_
      repeat (first
        | (refine TxtBL.skip (by rfl) ?_; simp only [Act.put, List.setIfInBounds_toArray, List.set_cons_zero, List.set_cons_succ])
        | (refine TxtBL.take (by rfl) (by rfl) ?_; apply Exists.intro; refine ⟨fun w1 hS1 => ?_, ?_⟩; (focus ((have g0 := (hS1.cell (lt_of_cell d0)).trans d0); (have g1 := (hS1.cell (lt_of_cell d1)).trans d1); (have g2 := (hS1.cell (lt_of_cell hc0)).trans hc0); (have g3 := (hS1.cell (lt_of_cell hc1)).trans hc1); go_simp; with_reducible rfl)); simp only [Act.put, List.setIfInBounds_toArray, List.set_cons_zero, List.set_cons_succ])
        | (refine TxtBL.takeE (by rfl) (by rfl) ?_; apply Exists.intro; refine ⟨fun w1 hS1 => ?_, ?_⟩; (focus ((have g0 := (hS1.cell (lt_of_cell d0)).trans d0); (have g1 := (hS1.cell (lt_of_cell d1)).trans d1); (have g2 := (hS1.cell (lt_of_cell hc0)).trans hc0); (have g3 := (hS1.cell (lt_of_cell hc1)).trans hc1); go_simp; with_reducible rfl)); simp only [Act.put, List.setIfInBounds_toArray, List.set_cons_zero, List.set_cons_succ]))
      refine TxtBL.call (f := 60) (args := #[.agg #[.int .i64 x, .int .i64 y], .agg #[.int .i64 f, .int .i64 t]]) (fun v => v = .int .i64 r) (fun _ _ => True) (by rfl) (by rfl) ⟨_, rfl⟩ (fun w1 hS1 hJ1 => by go_simp) (fun w1 hS1 hJ1 => ?_) ?_
      · exact (hcmp w1).mono fun _ _ h => ⟨_, h.1, hS1.trans (h.2.below.mono hS1.size), rfl, trivial⟩
      rintro v rfl
      simp only [Act.put, List.setIfInBounds_toArray, List.set_cons_zero, List.set_cons_succ]
      repeat (first
        | (refine TxtBL.skip (by rfl) ?_; simp only [Act.put, List.setIfInBounds_toArray, List.set_cons_zero, List.set_cons_succ])
        | (refine TxtBL.take (by rfl) (by rfl) ?_; apply Exists.intro; refine ⟨fun w1 hS1 => ?_, ?_⟩; (focus (skip; go_simp; with_reducible rfl)); simp only [Act.put, List.setIfInBounds_toArray, List.set_cons_zero, List.set_cons_succ])
        | (refine TxtBL.takeE (by rfl) (by rfl) ?_; apply Exists.intro; refine ⟨fun w1 hS1 => ?_, ?_⟩; (focus (skip; go_simp; with_reducible rfl)); simp only [Act.put, List.setIfInBounds_toArray, List.set_cons_zero, List.set_cons_succ]))
      refine TxtBL.nil (fun w2 hS _ => ?_)
      go_wp2_with fail
      go_roundw
      case rel => exact ⟨h + 1, b, by omega, hbl, by go_num, rfl, HT2.out, H2.out, endB hbw hS⟩
      case measure => simp [intOf]; omega
    · have HD2 := Lib.hid (HD.out (fun hp => hr1 (Hneg.out.2 hp)))
      clear HT HD Hneg
      refine wp_region_textB [6] (fun w' => Below wr.heap.size wr w') (fun _ => True) (by kernel_rfl) (by kernel_rfl) (by kernel_rfl) (Below.refl _ _).drew trivial ?_
      repeat (first
        | (refine TxtBL.skip (by rfl) ?_; simp only [Act.put, List.setIfInBounds_toArray, List.set_cons_zero, List.set_cons_succ])
        | (refine TxtBL.take (by rfl) (by rfl) ?_; apply Exists.intro; refine ⟨fun w1 hS1 => ?_, ?_⟩; (focus ((have g0 := (hS1.cell (lt_of_cell d0)).trans d0); (have g1 := (hS1.cell (lt_of_cell d1)).trans d1); (have g2 := (hS1.cell (lt_of_cell hc0)).trans hc0); (have g3 := (hS1.cell (lt_of_cell hc1)).trans hc1); go_simp; with_reducible rfl)); simp only [Act.put, List.setIfInBounds_toArray, List.set_cons_zero, List.set_cons_succ])
        | (refine TxtBL.takeE (by rfl) (by rfl) ?_; apply Exists.intro; refine ⟨fun w1 hS1 => ?_, ?_⟩; (focus ((have g0 := (hS1.cell (lt_of_cell d0)).trans d0); (have g1 := (hS1.cell (lt_of_cell d1)).trans d1); (have g2 := (hS1.cell (lt_of_cell hc0)).trans hc0); (have g3 := (hS1.cell (lt_of_cell hc1)).trans hc1); go_simp; with_reducible rfl)); simp only [Act.put, List.setIfInBounds_toArray, List.set_cons_zero, List.set_cons_succ]))
      refine TxtBL.call (f := 60) (args := #[.agg #[.int .i64 x, .int .i64 y], .agg #[.int .i64 f, .int .i64 t]]) (fun v => v = .int .i64 r) (fun _ _ => True) (by rfl) (by rfl) ⟨_, rfl⟩ (fun w1 hS1 hJ1 => by go_simp) (fun w1 hS1 hJ1 => ?_) ?_
      · exact (hcmp w1).mono fun _ _ h => ⟨_, h.1, hS1.trans (h.2.below.mono hS1.size), rfl, trivial⟩
      rintro v rfl
      simp only [Act.put, List.setIfInBounds_toArray, List.set_cons_zero, List.set_cons_succ]
      repeat (first
        | (refine TxtBL.skip (by rfl) ?_; simp only [Act.put, List.setIfInBounds_toArray, List.set_cons_zero, List.set_cons_succ])
        | (refine TxtBL.take (by rfl) (by rfl) ?_; apply Exists.intro; refine ⟨fun w1 hS1 => ?_, ?_⟩; (focus (skip; go_simp; with_reducible rfl)); simp only [Act.put, List.setIfInBounds_toArray, List.set_cons_zero, List.set_cons_succ])
        | (refine TxtBL.takeE (by rfl) (by rfl) ?_; apply Exists.intro; refine ⟨fun w1 hS1 => ?_, ?_⟩; (focus (skip; go_simp; with_reducible rfl)); simp only [Act.put, List.setIfInBounds_toArray, List.set_cons_zero, List.set_cons_succ]))
      refine TxtBL.nil (fun w2 hS _ => ?_)
      go_wp2_with fail
      go_roundw
      case rel => exact ⟨a, h, hah, by omega, rfl, by go_num, H1.out, HD2.out, endB hbw hS⟩
      case measure => simp [intOf]; omega
end Go.Proofs.YtkflanjlnbdkmaaGreatDoor

/- dynamic.change. -/
namespace Go.Proofs.YtkflanjlnbdkmaaGreatDoor
open Go.ChangeShapes Go.WideShapes Go.ChangeAt Go.RowKit

/-- the nodes at which what is affected begins, as the program finds them -/
def rtD (n : Nat) (l : List (Int × Int)) (k t : Int) : List Int := if k = 4 then (attackedL l ((n : Int) - 1)).filter fun x => decide (x < (n : Int) - 1) else if k = 3 then [(n : Int)] else [t]
theorem aff_rtD {n : Nat} {l : List (Int × Int)} {k t : Int} {m : Nat} {l' : List (Int × Int)} (hm : k = 4 → n = m + 1) : affB m l' (rtD n l k t) = affB m l' (rtL n l k t) := by
  funext i
  rw [Bool.eq_iff_iff, affB_iff, affB_iff]
  unfold rtD rtL
  by_cases hk : k = 4
  · rw [if_pos hk, if_pos hk]
    have hm := hm hk
    constructor
    · rintro ⟨r, hr, h⟩
      exact ⟨r, (List.mem_filter.1 hr).1, h⟩
    · rintro ⟨r, hr, h⟩
      refine ⟨r, List.mem_filter.2 ⟨hr, ?_⟩, h⟩
      obtain ⟨j, x, rfl, hj, _⟩ := mem_reachL.1 h
      rw [decide_eq_true_eq]; omega
  · rw [if_neg hk, if_neg hk]
theorem OwnP.ne {w : World} {b : Nat} {v : Value} {l : List (Int × Int)} (h : OwnP w b v l) {g : Nat} {t : TypeId} {cs : Array Value} (hB : Blk w g t cs) (ht : t ≠ 54) : v.ownBlock ≠ some g := fun e => by
  rcases h.2 with ⟨rfl, _⟩ | ⟨g', cap, cur, rfl, _, hg, _⟩
  · cases e
  · injection e with e
    subst e
    unfold Blk at hB
    rw [hB] at hg
    injection hg with hg
    injection hg with _ hg
    exact ht hg
theorem OwnP.far {w : World} {b : Nat} {v : Value} {l : List (Int × Int)} (h : OwnP w b v l) {g : Nat} (hne : v.ownBlock ≠ some g) (i : Nat) (u : Value) : OwnP (w.setCell ⟨g, i, none⟩ u) b v l :=
  World.ownsRow.kept h (grownBy_setCell w g i u) (.inr hne)
/-- the boxes of dynamic.change -/
theorem boxed232 (w : World) (t u s : TypeId) (x y x' y' z' a b : Value) : ∃ W0, (((w.alloc (.cells #[x, y] t)).alloc (.cells #[x', y', z'] u)).alloc (.cells #[a, b] s)) = W0 ∧ Blk W0 w.heap.size t #[x, y] ∧ Blk W0 (w.heap.size + 1) u #[x', y', z'] ∧ Blk W0 (w.heap.size + 1 + 1) s #[a, b] ∧ Below w.heap.size w W0 ∧ W0.heap.size = w.heap.size + 3 := by
  have h3 := Blk.new ((w.alloc (.cells #[x, y] t)).alloc (.cells #[x', y', z'] u)) s #[a, b]
  have h2 := (Blk.new (w.alloc (.cells #[x, y] t)) u #[x', y', z']).alloc (.cells #[a, b] s)
  exact ⟨_, rfl, ((Blk.new w t #[x, y]).alloc _).alloc _, by simpa using h2, by simpa using h3, (((Below.refl _ _).alloc (Nat.le_refl _) _).alloc (by simp) _).alloc (by simp; omega) _, by simp⟩
/-- the call returns the changed graph and where what is affected begins -/
def RetCh (base : Nat) (v : Value) (n : Int) (l : List (Int × Int)) (rs : List Int) (w : World) : Ending → World → Prop := fun e w' => ∃ A c B d, e = .returned (.tuple #[.agg #[.int .i64 n, .slice A l.length c], .slice B rs.length d]) ∧ OwnP w' base (.slice A l.length c) l ∧ OwnI w' w.heap.size (.slice B rs.length d) rs ∧ w.grownBy w' v.ownBlock
theorem ch_end {W5 w : World} {n : Int} {l' : List (Int × Int)} {A' : Option Addr} {c' base H2 : Nat} {v : Value} {z : Int} (k25 : Blk W5 H2 24 #[.int .i64 0, .slice none 0 0]) (hop : OwnP W5 base (.slice A' l'.length c') l') (hg : w.grownBy W5 v.ownBlock) (h2 : w.heap.size ≤ H2) :
    ∃ W6, (((W5.setCell ⟨H2, 0, none⟩ (.int .i64 n)).setCell ⟨H2, 1, none⟩ (.slice A' l'.length c')).alloc (.cells #[.int .i64 z] 3)).drew = W6 ∧ W6.cell? ⟨H2, 0, none⟩ = some (.int .i64 n) ∧ W6.cell? ⟨H2, 1, none⟩ = some (.slice A' l'.length c') ∧
      RetCh base v n l' [z] w (.returned (.tuple #[.agg #[.int .i64 n, .slice A' l'.length c'], .slice (some ⟨W5.heap.size, 0, none⟩) 1 1])) W6 := by
  have k6 : Blk ((W5.setCell ⟨H2, 0, none⟩ (.int .i64 n)).setCell ⟨H2, 1, none⟩ (.slice A' l'.length c')) H2 24 #[.int .i64 n, .slice A' l'.length c'] := (k25.set_ 0 _).set_ 1 _
  have hne := hop.ne k25 (by decide)
  have hop6 : OwnP ((W5.setCell ⟨H2, 0, none⟩ (.int .i64 n)).setCell ⟨H2, 1, none⟩ (.slice A' l'.length c')) base (.slice A' l'.length c') l' := (hop.far hne 0 _).far hne 1 _
  have hs : ((W5.setCell ⟨H2, 0, none⟩ (.int .i64 n)).setCell ⟨H2, 1, none⟩ (.slice A' l'.length c')).heap.size = W5.heap.size := by simp
  have hg6 : w.grownBy ((W5.setCell ⟨H2, 0, none⟩ (.int .i64 n)).setCell ⟨H2, 1, none⟩ (.slice A' l'.length c')) v.ownBlock :=
    ⟨hg.os, hg.tape, hg.output, by rw [hs]; exact hg.size, fun k hk hne => ((Below.heap_setCell _ _ _ k (by simp; omega)).trans (Below.heap_setCell W5 _ _ k (by simp; omega))).trans (hg.block k hk hne)⟩
  obtain ⟨X, hX⟩ : ∃ X, (W5.setCell ⟨H2, 0, none⟩ (.int .i64 n)).setCell ⟨H2, 1, none⟩ (.slice A' l'.length c') = X := ⟨_, rfl⟩
  rw [hX] at k6 hop6 hs hg6 ⊢
  have k7 := k6.alloc (.cells #[.int .i64 z] 3)
  have ho := own_one X z
  rw [hs] at ho
  refine ⟨_, rfl, k7.two.1, k7.two.2.1, A', c', some ⟨W5.heap.size, 0, none⟩, 1, rfl, (hop6.below (newB X _)).below (Below.refl _ _).drew, OwnI.below (ho.mono hg.size) (Below.refl _ _).drew, grownBy_trans hg6 (grownBy_of_below ((newB X _).drew) _)⟩
set_option maxRecDepth 100000 in
set_option maxHeartbeats 4000000 in
theorem dchange1_any (A : Option Addr) (n : Nat) (l : List (Int × Int)) (c : Nat) (f t : Int) (base : Nat) (w : World) (hown : OwnP w base (.slice A l.length c) l) (hbase : base ≤ w.heap.size) (hvl : Vld n l) (hk : chkE n l 1 f t = 0) :
    Calls Tryz.prog 43 #[.agg #[.int .i64 (n : Int), .slice A l.length c], .agg #[.int .i64 1, .int .i64 f, .int .i64 t]] w (RetCh base (.slice A l.length c) n (chL n l 1 f t) [t] w) := by
  have hl := hvl.1.2.1
  have hlen := fun (W : World) (h : OwnP W base (.slice A l.length c) l) => (OwnP.form h)
  have Hvl := Lib.hid hvl; have Hk := Lib.hid hk
  have hupb : ∀ k, (Value.slice A l.length c).ownBlock = some k → k < w.heap.size := fun k e => (World.ownsRow.lt hown k e).2
  go_enter Tryz.func43, Tryz.ntmps43
  go_upto_region 1 with fail
  obtain ⟨W0, hW, k0, k1, k2, hb0, hs0⟩ := boxed232 w 24 29 24 (.int .i64 (n : Int)) (.slice A l.length c) (.int .i64 1) (.int .i64 f) (.int .i64 t) (.int .i64 0) (.slice none 0 0)
  rw [hW]
  have hown0 := hown.below hb0
  obtain ⟨c0, c1, _, _⟩ := k0.two
  obtain ⟨d0, d1, d2, _, _, _⟩ := k1.threeF
  have Hs0 := Lib.hid hs0
  clear hW hs0
  go_upto_region 2 with fail
  obtain ⟨W1, hW1, p0, p1, hb1, hlt1⟩ := boxed W0 54 (.int .i64 f) (.int .i64 t)
  rw [hW1]
  have hbb1 := endB hb0 hb1
  have hown1 := hown0.below hb1
  have k01 := k0.below hb1 k0.lt
  have k11 := k1.below hb1 k1.lt
  have k21 := k2.below hb1 k2.lt
  obtain ⟨c0, c1, _, _⟩ := k01.two
  obtain ⟨d0, d1, d2, _, _, _⟩ := k11.threeF
  obtain ⟨A2, c2, e, hrp1, _⟩ := OwnP.form hown1
  injection e with e1 _ e3
  subst e1 e3
  have hbs := bsearchP_any A l c f t W1 hrp1 hl hvl.2
  have Hown1 := Lib.hid hown1; have Hbs := Lib.hid hbs
  clear hW1 hown hown0 hown1 hbs k0 k1 k2 hvl hk hrp1
  go_wp2_with fail
  refine Hbs.out.mono ?_
  rintro e w2 ⟨i, bq, rfl, hi, h1, h2, hb2⟩
  have hL := ch_add Hvl.out Hk.out h1 h2
  have hbb2 := endB hbb1 hb2
  have k02 := k01.below hb2 k01.lt
  have k12 := k11.below hb2 k11.lt
  have k22 := k21.below hb2 k21.lt
  obtain ⟨c0, c1, f0, f1⟩ := k02.two
  obtain ⟨d0, d1, d2, _, _, _⟩ := k12.threeF
  have p02 := (hb2.cell (lt_of_cell p0)).trans p0
  have p12 := (hb2.cell (lt_of_cell p1)).trans p1
  have hown2 := Hown1.out.below hb2
  have HL := Lib.hid hL; have Hown2 := Lib.hid hown2
  clear Hbs Hown1 k01 k11 k21 p0 p1 h1 h2 hL hown2
  go_wp2_with fail
  obtain ⟨W3, hW3, hV3, hb3⟩ : ∃ W3, w2.alloc (.cells #[.int .i64 f, .int .i64 t] 54) = W3 ∧ Blk W3 w2.heap.size 54 #[.int .i64 f, .int .i64 t] ∧ Below w2.heap.size w2 W3 := ⟨_, rfl, Blk.new _ _ _, newB _ _⟩
  rw [hW3]
  have hins := insertP_any A c i w2.heap.size base l f t W3 (Hown2.out.below hb3) hi hl (by have := hbb2.size; have := hb3.size; omega) hV3 (fun k e => by have := hupb k e; have := hbb2.size; omega)
  rw [HL.out] at hins
  have hbb3 := endB hbb2 hb3
  refine hins.mono ?_
  rintro e w4 ⟨A', c', rfl, hop, hg4⟩
  have hne : ∀ x, w.heap.size ≤ x → some x ≠ (Value.slice A l.length c).ownBlock := fun x hx e => by have := hupb x e.symm; omega
  have k04 := (k02.below hb3 k02.lt).grown hg4 (hne _ (Nat.le_refl _))
  have k14 := (k12.below hb3 k12.lt).grown hg4 (hne _ (by omega))
  have k24 := (k22.below hb3 k22.lt).grown hg4 (hne _ (by omega))
  have hgw : w.grownBy w4 (Value.slice A l.length c).ownBlock := grownBy_trans (grownBy_of_below hbb3 _) hg4
  have hon : (Value.slice A' (chL n l 1 f t).length c').ownBlock ≠ some w.heap.size := hop.ne k04 (by decide)
  have hon2 : (Value.slice A' (chL n l 1 f t).length c').ownBlock ≠ some (w.heap.size + 1 + 1) := hop.ne k24 (by decide)
  have Hop := Lib.hid (hop.far hon 1 (.slice A' (chL n l 1 f t).length c'))
  obtain ⟨CL, hCL⟩ : ∃ CL, chL n l 1 f t = CL := ⟨_, rfl⟩
  rw [hCL] at Hop hon2 ⊢
  have k05 := k04.set_ 1 (.slice A' CL.length c')
  have k15 := k14.far (p := ⟨w.heap.size, 1, none⟩) (by simp) (.slice A' CL.length c')
  have k25 := k24.far (p := ⟨w.heap.size, 1, none⟩) (by simp; omega) (.slice A' CL.length c')
  have hgw5 : w.grownBy (w4.setCell ⟨w.heap.size, 1, none⟩ (.slice A' CL.length c')) (Value.slice A l.length c).ownBlock :=
    ⟨hgw.os, hgw.tape, hgw.output, by simpa using hgw.size, fun k hk hne => (Below.heap_setCell w4 _ _ k (by simp; omega)).trans (hgw.block k hk hne)⟩
  obtain ⟨c0, c1, f0, f1⟩ := k04.two
  clear c0 c1 f0 f1
  obtain ⟨_, c1, _, f1⟩ := k04.two
  obtain ⟨W5, hW5⟩ : ∃ W5, w4.setCell ⟨w.heap.size, 1, none⟩ (.slice A' CL.length c') = W5 := ⟨_, rfl⟩
  rw [hW5] at Hop k05 k15 k25 hgw5
  have hsz : w.heap.size + 1 + 1 < W5.heap.size := k25.lt
  go_upto_region 6 with fail
  obtain ⟨c0, c1, f0, f1⟩ := k05.two
  obtain ⟨d0, d1, d2, _, _, _⟩ := k15.threeF
  obtain ⟨r0, r1, s0, s1⟩ := k25.two
  have c0a : ∀ o, (W5.alloc o).cell? ⟨w.heap.size, 0, none⟩ = some (.int .i64 (n : Int)) := fun o => (k05.alloc o).two.1
  have c1a : ∀ o, (W5.alloc o).cell? ⟨w.heap.size, 1, none⟩ = some (.slice A' CL.length c') := fun o => (k05.alloc o).two.2.1
  have d2a : ∀ o, (W5.alloc o).cell? ⟨w.heap.size + 1, 2, none⟩ = some (.int .i64 t) := fun o => (k15.alloc o).threeF.2.2.1
  have r0a : ∀ o, (W5.alloc o).cell? ⟨w.heap.size + 1 + 1, 0, none⟩ = some (.int .i64 0) := fun o => (k25.alloc o).two.1
  have r1a : ∀ o, (W5.alloc o).cell? ⟨w.heap.size + 1 + 1, 1, none⟩ = some (.slice none 0 0) := fun o => (k25.alloc o).two.2.1
  have s0a : ∀ o, (W5.alloc o).frozen? ⟨w.heap.size + 1 + 1, 0, none⟩ = false := fun o => (k25.alloc o).two.2.2.1
  have s1a : ∀ o, (W5.alloc o).frozen? ⟨w.heap.size + 1 + 1, 1, none⟩ = false := fun o => (k25.alloc o).two.2.2.2
  clear hW5 k04 k14 k24 hgw hg4 hop
  go_region
  obtain ⟨W6, hW6, r0, r1, hret⟩ := ch_end (z := t) (n := (n : Int)) k25 Hop.out hgw5 (by omega)
  rw [hW6]
  have Hret := Lib.hid hret; have HCL := Lib.hid hCL
  clear hret hCL hW6 c0a c1a d2a r0a r1a s0a s1a c0 c1 f0 f1 d0 d1 d2 s0 s1
  go_wp2_with fail
  refine bodyPost_ret (v := .tuple #[.agg #[.int .i64 (n : Int), .slice A' CL.length c'], .slice (some ⟨W5.heap.size, 0, none⟩) 1 1]) (by simp [results, Tryz.results43, go_sem, r0, r1]) rfl ?_
  rw [HCL.out]
  exact Hret.out
end Go.Proofs.YtkflanjlnbdkmaaGreatDoor

/- dynamic.change: RemoveAttack, AddNode. -/
namespace Go.Proofs.YtkflanjlnbdkmaaGreatDoor
open Go.ChangeShapes Go.WideShapes Go.ChangeAt Go.RowKit

set_option maxRecDepth 100000 in
set_option maxHeartbeats 4000000 in
theorem dchange2_any (A : Option Addr) (n : Nat) (l : List (Int × Int)) (c : Nat) (f t : Int) (base : Nat) (w : World) (hown : OwnP w base (.slice A l.length c) l) (_hbase : base ≤ w.heap.size) (hvl : Vld n l) (hk : chkE n l 2 f t = 0) :
    Calls Tryz.prog 43 #[.agg #[.int .i64 (n : Int), .slice A l.length c], .agg #[.int .i64 2, .int .i64 f, .int .i64 t]] w (RetCh base (.slice A l.length c) n (chL n l 2 f t) [t] w) := by
  have hl := hvl.1.2.1
  have hlen := fun (W : World) (h : OwnP W base (.slice A l.length c) l) => (OwnP.form h)
  have Hvl := Lib.hid hvl; have Hk := Lib.hid hk
  have hupb : ∀ k, (Value.slice A l.length c).ownBlock = some k → k < w.heap.size := fun k e => (World.ownsRow.lt hown k e).2
  go_enter Tryz.func43, Tryz.ntmps43
  go_upto_region 1 with fail
  obtain ⟨W0, hW, k0, k1, k2, hb0, hs0⟩ := boxed232 w 24 29 24 (.int .i64 (n : Int)) (.slice A l.length c) (.int .i64 2) (.int .i64 f) (.int .i64 t) (.int .i64 0) (.slice none 0 0)
  rw [hW]
  have hown0 := hown.below hb0
  obtain ⟨c0, c1, _, _⟩ := k0.two
  obtain ⟨d0, d1, d2, _, _, _⟩ := k1.threeF
  have Hs0 := Lib.hid hs0
  clear hW hs0
  go_upto_region 2 with fail
  obtain ⟨W1, hW1, hP1, hb1⟩ : ∃ W1, W0.alloc (.cells #[.int .i64 f, .int .i64 t] 54) = W1 ∧ Blk W1 W0.heap.size 54 #[.int .i64 f, .int .i64 t] ∧ Below W0.heap.size W0 W1 := ⟨_, rfl, Blk.new _ _ _, newB _ _⟩
  rw [hW1]
  have hbb3 := endB hb0 hb1
  have hown1 := hown0.below hb1
  have k02 := k0.below hb1 k0.lt
  have k12 := k1.below hb1 k1.lt
  have k22 := k2.below hb1 k2.lt
  have hb3 : Below W1.heap.size W1 W1 := Below.refl _ _
  obtain ⟨c0, c1, _, _⟩ := k02.two
  obtain ⟨d0, d1, d2, _, _, _⟩ := k12.threeF
  have hdel := delF2_any A l c W0.heap.size base f t (.bool false) W1 hown1 hl hP1 (fun k e => by have := hupb k e; have := hb0.size; omega)
  have hfil : (l.filter fun x => !pr2 f t x) = chL n l 2 f t := ch_rem Hvl.out
  rw [hfil] at hdel
  have hmf : ∀ fn first cap w, (Instr.makeFunc fn first cap).run Tryz.prog w = .ok (.func fn first cap) w := fun _ _ _ _ => rfl
  have Hdel := Lib.hid hdel
  clear hW1 hown hown0 hown1 k0 k1 k2 hvl hk hP1 hfil hdel
  go_wp2_with fail
  refine Hdel.out.mono ?_
  rintro e w4 ⟨A', c', rfl, hop, hg4⟩
  clear Hdel
  have hne : ∀ x, w.heap.size ≤ x → some x ≠ (Value.slice A l.length c).ownBlock := fun x hx e => by have := hupb x e.symm; omega
  have k04 := (k02.below hb3 k02.lt).grown hg4 (hne _ (Nat.le_refl _))
  have k14 := (k12.below hb3 k12.lt).grown hg4 (hne _ (by omega))
  have k24 := (k22.below hb3 k22.lt).grown hg4 (hne _ (by omega))
  have hgw : w.grownBy w4 (Value.slice A l.length c).ownBlock := grownBy_trans (grownBy_of_below hbb3 _) hg4
  have hon : (Value.slice A' (chL n l 2 f t).length c').ownBlock ≠ some w.heap.size := hop.ne k04 (by decide)
  have hon2 : (Value.slice A' (chL n l 2 f t).length c').ownBlock ≠ some (w.heap.size + 1 + 1) := hop.ne k24 (by decide)
  have Hop := Lib.hid (hop.far hon 1 (.slice A' (chL n l 2 f t).length c'))
  obtain ⟨CL, hCL⟩ : ∃ CL, chL n l 2 f t = CL := ⟨_, rfl⟩
  rw [hCL] at Hop hon2 ⊢
  have k05 := k04.set_ 1 (.slice A' CL.length c')
  have k15 := k14.far (p := ⟨w.heap.size, 1, none⟩) (by simp) (.slice A' CL.length c')
  have k25 := k24.far (p := ⟨w.heap.size, 1, none⟩) (by simp; omega) (.slice A' CL.length c')
  have hgw5 : w.grownBy (w4.setCell ⟨w.heap.size, 1, none⟩ (.slice A' CL.length c')) (Value.slice A l.length c).ownBlock :=
    ⟨hgw.os, hgw.tape, hgw.output, by simpa using hgw.size, fun k hk hne => (Below.heap_setCell w4 _ _ k (by simp; omega)).trans (hgw.block k hk hne)⟩
  obtain ⟨c0, c1, f0, f1⟩ := k04.two
  clear c0 c1 f0 f1
  obtain ⟨_, c1, _, f1⟩ := k04.two
  obtain ⟨W5, hW5⟩ : ∃ W5, w4.setCell ⟨w.heap.size, 1, none⟩ (.slice A' CL.length c') = W5 := ⟨_, rfl⟩
  rw [hW5] at Hop k05 k15 k25 hgw5
  have hsz : w.heap.size + 1 + 1 < W5.heap.size := k25.lt
  go_upto_region 9 with fail
  obtain ⟨c0, c1, f0, f1⟩ := k05.two
  obtain ⟨d0, d1, d2, _, _, _⟩ := k15.threeF
  obtain ⟨r0, r1, s0, s1⟩ := k25.two
  have c0a : ∀ o, (W5.alloc o).cell? ⟨w.heap.size, 0, none⟩ = some (.int .i64 (n : Int)) := fun o => (k05.alloc o).two.1
  have c1a : ∀ o, (W5.alloc o).cell? ⟨w.heap.size, 1, none⟩ = some (.slice A' CL.length c') := fun o => (k05.alloc o).two.2.1
  have d2a : ∀ o, (W5.alloc o).cell? ⟨w.heap.size + 1, 2, none⟩ = some (.int .i64 t) := fun o => (k15.alloc o).threeF.2.2.1
  have r0a : ∀ o, (W5.alloc o).cell? ⟨w.heap.size + 1 + 1, 0, none⟩ = some (.int .i64 0) := fun o => (k25.alloc o).two.1
  have r1a : ∀ o, (W5.alloc o).cell? ⟨w.heap.size + 1 + 1, 1, none⟩ = some (.slice none 0 0) := fun o => (k25.alloc o).two.2.1
  have s0a : ∀ o, (W5.alloc o).frozen? ⟨w.heap.size + 1 + 1, 0, none⟩ = false := fun o => (k25.alloc o).two.2.2.1
  have s1a : ∀ o, (W5.alloc o).frozen? ⟨w.heap.size + 1 + 1, 1, none⟩ = false := fun o => (k25.alloc o).two.2.2.2
  clear hW5 k04 k14 k24 hgw hg4 hop
  go_region
  obtain ⟨W6, hW6, r0, r1, hret⟩ := ch_end (z := t) (n := (n : Int)) k25 Hop.out hgw5 (by omega)
  rw [hW6]
  have Hret := Lib.hid hret; have HCL := Lib.hid hCL
  clear hret hCL hW6 c0a c1a d2a r0a r1a s0a s1a c0 c1 f0 f1 d0 d1 d2 s0 s1
  go_wp2_with fail
  refine bodyPost_ret (v := .tuple #[.agg #[.int .i64 (n : Int), .slice A' CL.length c'], .slice (some ⟨W5.heap.size, 0, none⟩) 1 1]) (by simp [results, Tryz.results43, go_sem, r0, r1]) rfl ?_
  rw [HCL.out]
  exact Hret.out
set_option maxRecDepth 100000 in
set_option maxHeartbeats 4000000 in
theorem dchange3_any (A : Option Addr) (n : Nat) (l : List (Int × Int)) (c : Nat) (f t : Int) (base : Nat) (w : World) (hown : OwnP w base (.slice A l.length c) l) (hvl : Vld n l) (hk : chkE n l 3 f t = 0) :
    Calls Tryz.prog 43 #[.agg #[.int .i64 (n : Int), .slice A l.length c], .agg #[.int .i64 3, .int .i64 f, .int .i64 t]] w (RetCh base (.slice A l.length c) (n + 1 : Nat) (chL n l 3 f t) [(n : Int)] w) := by
  have hn40 := hvl.1.1
  have hft : f = 0 ∧ t = 0 := by rcases chk_kind hk with ⟨⟨h, _⟩ | ⟨h, _⟩, _⟩ | ⟨_, h⟩ <;> first | exact h | omega
  obtain ⟨rfl, rfl⟩ := hft
  have hCL := ch_node hvl
  rw [← hCL]
  clear hvl hk hCL
  go_enter Tryz.func43, Tryz.ntmps43
  go_upto_region 1 with fail
  obtain ⟨W0, hW, k0, k1, k2, hb0, hs0⟩ := boxed232 w 24 29 24 (.int .i64 (n : Int)) (.slice A l.length c) (.int .i64 3) (.int .i64 0) (.int .i64 0) (.int .i64 0) (.slice none 0 0)
  rw [hW]
  have hown0 := hown.below hb0
  obtain ⟨c0, c1, _, _⟩ := k0.two
  obtain ⟨d0, d1, d2, _, _, _⟩ := k1.threeF
  have Hs0 := Lib.hid hs0
  clear hW hs0
  go_upto_region 2 with fail
  obtain ⟨W1, hW1, hb1⟩ : ∃ W1, W0.alloc (.cells #[.int .i64 0, .int .i64 0] 54) = W1 ∧ Below W0.heap.size W0 W1 := ⟨_, rfl, newB _ _⟩
  rw [hW1]
  have hbb3 := endB hb0 hb1
  have hown1 := hown0.below hb1
  have k04 := k0.below hb1 k0.lt
  have k14 := k1.below hb1 k1.lt
  have k24 := k2.below hb1 k2.lt
  have hgw : w.grownBy W1 (Value.slice A l.length c).ownBlock := grownBy_of_below hbb3 _
  have hon : (Value.slice A l.length c).ownBlock ≠ some w.heap.size := hown1.ne k04 (by decide)
  have Hop := Lib.hid (hown1.far hon 0 (.int .i64 ((n : Int) + 1)))
  have k05 := k04.set_ 0 (.int .i64 ((n : Int) + 1))
  have k15 := k14.far (p := ⟨w.heap.size, 0, none⟩) (by simp) (.int .i64 ((n : Int) + 1))
  have k25 := k24.far (p := ⟨w.heap.size, 0, none⟩) (by simp; omega) (.int .i64 ((n : Int) + 1))
  have hgw5 : w.grownBy (W1.setCell ⟨w.heap.size, 0, none⟩ (.int .i64 ((n : Int) + 1))) (Value.slice A l.length c).ownBlock :=
    ⟨hgw.os, hgw.tape, hgw.output, by simpa using hgw.size, fun k hk hne => (Below.heap_setCell W1 _ _ k (by simp; omega)).trans (hgw.block k hk hne)⟩
  obtain ⟨c0, c1, f0, f1⟩ := k04.two
  obtain ⟨d0, d1, d2, _, _, _⟩ := k14.threeF
  obtain ⟨W5, hW5⟩ : ∃ W5, W1.setCell ⟨w.heap.size, 0, none⟩ (.int .i64 ((n : Int) + 1)) = W5 := ⟨_, rfl⟩
  rw [hW5] at Hop k05 k15 k25 hgw5
  have hsz : w.heap.size + 1 + 1 < W5.heap.size := k25.lt
  clear hW1 hown hown0 hown1 k0 k1 k2
  go_upto_region 12 with fail
  obtain ⟨c0, c1, f0, f1⟩ := k05.two
  obtain ⟨r0, r1, s0, s1⟩ := k25.two
  have c0a : ∀ o, (W5.alloc o).cell? ⟨w.heap.size, 0, none⟩ = some (.int .i64 ((n : Int) + 1)) := fun o => (k05.alloc o).two.1
  have c1a : ∀ o, (W5.alloc o).cell? ⟨w.heap.size, 1, none⟩ = some (.slice A l.length c) := fun o => (k05.alloc o).two.2.1
  have r0a : ∀ o, (W5.alloc o).cell? ⟨w.heap.size + 1 + 1, 0, none⟩ = some (.int .i64 0) := fun o => (k25.alloc o).two.1
  have r1a : ∀ o, (W5.alloc o).cell? ⟨w.heap.size + 1 + 1, 1, none⟩ = some (.slice none 0 0) := fun o => (k25.alloc o).two.2.1
  have s0a : ∀ o, (W5.alloc o).frozen? ⟨w.heap.size + 1 + 1, 0, none⟩ = false := fun o => (k25.alloc o).two.2.2.1
  have s1a : ∀ o, (W5.alloc o).frozen? ⟨w.heap.size + 1 + 1, 1, none⟩ = false := fun o => (k25.alloc o).two.2.2.2
  have hwr : IntKind.i64.wrap (n : Int) = (n : Int) := by rw [IntKind.wrap_i64]; omega
  clear hW5 k04 k14 k24 hgw
  go_region
  obtain ⟨W6, hW6, r0, r1, hret⟩ := ch_end (z := (n : Int)) (n := (n : Int) + 1) k25 Hop.out hgw5 (by omega)
  rw [hW6]
  have Hret := Lib.hid hret
  clear hret hW6 c0a c1a r0a r1a s0a s1a c0 c1 f0 f1 d0 d1 d2 s0 s1
  go_wp2_with fail
  refine bodyPost_ret (v := .tuple #[.agg #[.int .i64 ((n : Int) + 1), .slice A l.length c], .slice (some ⟨W5.heap.size, 0, none⟩) 1 1]) (by simp [results, Tryz.results43, go_sem, r0, r1]) rfl ?_
  exact Hret.out
end Go.Proofs.YtkflanjlnbdkmaaGreatDoor

/- dynamic.change: RemoveLast. -/
namespace Go.Proofs.YtkflanjlnbdkmaaGreatDoor
open Go.ChangeShapes Go.WideShapes Go.ChangeAt Go.RowKit

def rtT (l : List (Int × Int)) (m : Int) : List Int := (l.filter fun q => q.1 == m && decide (q.2 < m)).map (·.2)
theorem rtT_all (l : List (Int × Int)) (m : Nat) : rtT l m = rtD (m + 1) l 4 0 := by
  unfold rtT rtD attackedL
  rw [if_pos rfl, List.filter_map, List.filter_filter]
  have e : (((m + 1 : Nat) : Int) - 1) = (m : Int) := by omega
  rw [e]
  congr 1
  apply List.filter_congr
  intro q _
  simp [Bool.and_comm]
theorem rtT_hit {l : List (Int × Int)} {m : Int} {k : Nat} (h : k < l.length) (h1 : l[k].1 = m) (h2 : l[k].2 < m) : rtT (l.take (k + 1)) m = rtT (l.take k) m ++ [l[k].2] := by
  unfold rtT
  rw [List.take_succ_eq_append_getElem h, List.filter_append, List.map_append]
  simp [h1, h2]
theorem rtT_miss {l : List (Int × Int)} {m : Int} {k : Nat} (h : k < l.length) (h1 : ¬ (l[k].1 = m ∧ l[k].2 < m)) : rtT (l.take (k + 1)) m = rtT (l.take k) m := by
  unfold rtT
  rw [List.take_succ_eq_append_getElem h, List.filter_append, List.map_append]
  have : (l[k].1 == m && decide (l[k].2 < m)) = false := by
    rw [Bool.and_eq_false_iff, beq_eq_false_iff_ne, decide_eq_false_iff_not]
    by_cases e : l[k].1 = m
    · exact .inr fun h => h1 ⟨e, h⟩
    · exact .inl e
  simp [this]
theorem rtT_len (l : List (Int × Int)) (m : Int) : (rtT l m).length ≤ l.length := by
  unfold rtT; rw [List.length_map]; exact List.length_filter_le _ _
set_option maxRecDepth 100000 in
set_option maxHeartbeats 4000000 in
theorem dchange4_any (A : Option Addr) (m : Nat) (l : List (Int × Int)) (c : Nat) (f t : Int) (base : Nat) (w : World) (hown : OwnP w base (.slice A l.length c) l) (hvl : Vld (m + 1) l) (hk : chkE (m + 1) l 4 f t = 0) :
    Calls Tryz.prog 43 #[.agg #[.int .i64 ((m : Int) + 1), .slice A l.length c], .agg #[.int .i64 4, .int .i64 f, .int .i64 t]] w (RetCh base (.slice A l.length c) (m : Int) (chL (m + 1) l 4 f t) (rtT l m) w) := by
  have hn40 := hvl.1.1
  have hl := hvl.1.2.1
  have hft : f = 0 ∧ t = 0 := by rcases chk_kind hk with ⟨⟨h, _⟩ | ⟨h, _⟩, _⟩ | ⟨_, h⟩ <;> first | exact h | omega
  obtain ⟨rfl, rfl⟩ := hft
  have hCL := ch_last hvl (by omega)
  rw [show (((m + 1 : Nat) : Int) - 1) = (m : Int) by omega] at hCL
  rw [← hCL]
  have hupb : ∀ k, (Value.slice A l.length c).ownBlock = some k → k < w.heap.size := fun k e => (World.ownsRow.lt hown k e).2
  have hwr : IntKind.i64.wrap (m : Int) = (m : Int) := by rw [IntKind.wrap_i64]; omega
  clear hvl hk hCL
  go_enter Tryz.func43, Tryz.ntmps43
  go_upto_region 1 with fail
  obtain ⟨W0, hW, k0, k1, k2, hb0, hs0⟩ := boxed232 w 24 29 24 (.int .i64 ((m : Int) + 1)) (.slice A l.length c) (.int .i64 4) (.int .i64 0) (.int .i64 0) (.int .i64 0) (.slice none 0 0)
  rw [hW]
  have hown0 := hown.below hb0
  obtain ⟨c0, c1, _, _⟩ := k0.two
  obtain ⟨d0, d1, d2, _, _, _⟩ := k1.threeF
  have Hs0 := Lib.hid hs0
  clear hW hs0
  go_upto_region 2 with fail
  obtain ⟨W1, hW1, hb1⟩ : ∃ W1, W0.alloc (.cells #[.int .i64 0, .int .i64 0] 54) = W1 ∧ Below W0.heap.size W0 W1 := ⟨_, rfl, newB _ _⟩
  rw [hW1]
  have hbb3 := endB hb0 hb1
  have hown1 := hown0.below hb1
  have k04 := k0.below hb1 k0.lt
  have k14 := k1.below hb1 k1.lt
  have k24 := k2.below hb1 k2.lt
  have hgw : w.grownBy W1 (Value.slice A l.length c).ownBlock := grownBy_of_below hbb3 _
  have hon : (Value.slice A l.length c).ownBlock ≠ some w.heap.size := hown1.ne k04 (by decide)
  have hop := hown1.far hon 0 (.int .i64 (m : Int))
  have k05 := k04.set_ 0 (.int .i64 (m : Int))
  have k25 := k24.far (p := ⟨w.heap.size, 0, none⟩) (by simp; omega) (.int .i64 (m : Int))
  have hgw5 : Below w.heap.size w (W1.setCell ⟨w.heap.size, 0, none⟩ (.int .i64 (m : Int))) := hbb3.setCell (Nat.le_refl _) _
  obtain ⟨c0, c1, f0, f1⟩ := k04.two
  obtain ⟨d0, d1, d2, _, _, _⟩ := k14.threeF
  obtain ⟨W5, hW5⟩ : ∃ W5, W1.setCell ⟨w.heap.size, 0, none⟩ (.int .i64 (m : Int)) = W5 := ⟨_, rfl⟩
  rw [hW5] at hop k05 k25 hgw5
  have hsz : w.heap.size + 1 + 1 < W5.heap.size := k25.lt
  go_upto_region 14 with fail
  have Hop := Lib.hid hop
  clear hW1 hW5 hown hown0 hown1 k0 k1 k2 k04 k14 k24 hgw hop c0 c1 f0 f1 d0 d1 d2 hb0 hb1 hbb3 Hs0
  obtain ⟨c0, c1, _, _⟩ := k05.two
  have hg5 : w.heap.size ≤ W5.heap.size := hgw5.size
  obtain ⟨A2, c2, e, hrp5, _⟩ := OwnP.form Hop.out
  injection e with e1 _ e3
  subst e1 e3
  go_wp2_with fail
  go_loopw [9, 68] (fun r t wr => ∃ (k : Nat) (B : Option Addr) (d : Nat), k ≤ l.length ∧ t = .int .i64 k ∧ r = .slice B (rtT (l.take k) m).length d ∧ OwnI wr W5.heap.size (.slice B (rtT (l.take k) m).length d) (rtT (l.take k) m) ∧ Below W5.heap.size W5 wr) (fun _ t _ => l.length - (intOf t).toNat)
  case atStart => exact ⟨0, none, 0, Nat.zero_le _, rfl, rfl, OwnI.nil _ _, Below.refl _ _⟩
  case round =>
    obtain ⟨k, B, d, hk, rfl, rfl, ho, hbl⟩ := hrel
    have Ho := Lib.hid ho
    have k06 := k05.below hbl k05.lt
    have k26 := k25.below hbl k25.lt
    obtain ⟨e0, e1, f0, f1⟩ := k06.two
    clear ho c0 c1
    by_cases hlt : k < l.length
    case neg =>
      have hall : l.take k = l := List.take_of_length_le (by omega)
      rw [hall] at Ho ⊢
      have hop6 := Hop.out.below hbl
      have hdel := delF3_any A l c w.heap.size base m 0 (.slice A l.length c) wr hop6 hl k06 (fun k e => by have := hupb k e; omega)
      have hfil : (l.filter fun x => !pr3 (m : Int) 0 x) = l.filter fun q => !(max q.1 q.2 == (m : Int)) := rfl
      rw [hfil] at hdel
      have hmf : ∀ fn first cap w, (Instr.makeFunc fn first cap).run Tryz.prog w = .ok (.func fn first cap) w := fun _ _ _ _ => rfl
      have Hdel := Lib.hid hdel
      obtain ⟨CL, hCL⟩ : ∃ CL, (l.filter fun q => !(max q.1 q.2 == (m : Int))) = CL := ⟨_, rfl⟩
      obtain ⟨RT, hRT⟩ : ∃ RT, rtT l m = RT := ⟨_, rfl⟩
      rw [hCL] at Hdel
      rw [hRT] at Ho ⊢
      have HCL := Lib.hid hCL; have HRT := Lib.hid hRT
      clear hCL hRT hdel hfil hall hrp5 hop6
      go_wp2_with fail
      refine Hdel.out.mono ?_
      rintro e w7 ⟨A', c', rfl, hop7, hg7⟩
      have hne : ∀ x, w.heap.size ≤ x → some x ≠ (Value.slice A l.length c).ownBlock := fun x hx e => by have := hupb x e.symm; omega
      have k07 := k06.grown hg7 (hne _ (Nat.le_refl _))
      have k27 := k26.grown hg7 (hne _ (by omega))
      have ho7 : OwnI w7 W5.heap.size (.slice B RT.length d) RT := World.ownsRow.kept Ho.out hg7 (by
        cases hB : (Value.slice B RT.length d).ownBlock with
        | none => exact .inl rfl
        | some x =>
          refine .inr fun e => ?_
          have h1 := (World.ownsRow.lt Ho.out x hB).1
          have h2 := hupb x e.symm
          omega)
      have hgw7 : w.grownBy w7 (Value.slice A l.length c).ownBlock := grownBy_trans (grownBy_of_below (endB hgw5 hbl) _) hg7
      have hon : (Value.slice A' CL.length c').ownBlock ≠ some w.heap.size := hop7.ne k07 (by decide)
      have hon2 : (Value.slice A' CL.length c').ownBlock ≠ some (w.heap.size + 1 + 1) := hop7.ne k27 (by decide)
      have hop8 := ((hop7.far hon 1 (.slice A' CL.length c')).far hon2 0 (.int .i64 (m : Int))).far hon2 1 (.slice A' CL.length c')
      have k08 := k07.set_ 1 (.slice A' CL.length c')
      have k28 := ((k27.far (p := ⟨w.heap.size, 1, none⟩) (by simp; omega) (.slice A' CL.length c')).set_ 0 (.int .i64 (m : Int))).set_ 1 (.slice A' CL.length c')
      have ho8 := OwnI.farB (OwnI.farB (OwnI.farB ho7 (a := ⟨w.heap.size, 1, none⟩) (by simp; omega) (.slice A' CL.length c')) (a := ⟨w.heap.size + 1 + 1, 0, none⟩) (by simp; omega) (.int .i64 (m : Int))) (a := ⟨w.heap.size + 1 + 1, 1, none⟩) (by simp; omega) (.slice A' CL.length c')
      have hgw8 : w.grownBy (((w7.setCell ⟨w.heap.size, 1, none⟩ (.slice A' CL.length c')).setCell ⟨w.heap.size + 1 + 1, 0, none⟩ (.int .i64 (m : Int))).setCell ⟨w.heap.size + 1 + 1, 1, none⟩ (.slice A' CL.length c')) (Value.slice A l.length c).ownBlock :=
        ⟨hgw7.os, hgw7.tape, hgw7.output, by simpa using hgw7.size, fun k hk hne => ((Below.heap_setCell _ _ _ k (by simp; omega)).trans ((Below.heap_setCell _ _ _ k (by simp; omega)).trans (Below.heap_setCell w7 _ _ k (by simp; omega)))).trans (hgw7.block k hk hne)⟩
      obtain ⟨W8, hW8⟩ : ∃ W8, ((w7.setCell ⟨w.heap.size, 1, none⟩ (.slice A' CL.length c')).setCell ⟨w.heap.size + 1 + 1, 0, none⟩ (.int .i64 (m : Int))).setCell ⟨w.heap.size + 1 + 1, 1, none⟩ (.slice A' CL.length c') = W8 := ⟨_, rfl⟩
      rw [hW8] at hop8 k28 ho8 hgw8
      obtain ⟨e0, e1, f0, f1⟩ := k07.two
      obtain ⟨r0, r1, s0, s1⟩ := k27.two
      obtain ⟨q0, q1, _, _⟩ := k28.two
      have Hop8 := Lib.hid hop8; have Ho8 := Lib.hid ho8; have Hgw8 := Lib.hid hgw8
      clear Hdel Ho hop7 hop8 ho7 ho8 hgw7 hgw8 k07 k27 k08 k28 hg7 k06 k26 Hop hlt
      go_wp2_with fail
      refine bodyPost_ret (v := .tuple #[.agg #[.int .i64 (m : Int), .slice A' CL.length c'], .slice B RT.length d]) (by simp [results, Tryz.results43, go_sem, q0, q1]) rfl ?_
      exact ⟨A', c', B, d, by rw [HCL.out, HRT.out], by rw [HCL.out]; exact Hop8.out, by rw [HRT.out]; exact Ho8.out.mono hg5, Hgw8.out⟩
    case pos =>
    obtain ⟨b', o, rfl, hc0, hc1⟩ := (hrp5.below hbl).at_ hlt
    have hlt' : (k : Int) < (l.length : Int) := by omega
    have hHit := @rtT_hit l m k hlt
    have hMiss := @rtT_miss l m k hlt
    have hrl := rtT_len (l.take k) m
    have htl : (l.take k).length ≤ l.length := by rw [List.length_take]; omega
    have HHit := Lib.hid hHit; have HMiss := Lib.hid hMiss
    clear hHit hMiss
    generalize l[k].1 = x at *
    generalize l[k].2 = y at *
    generalize rtT (l.take k) m = RT at *
    obtain ⟨RT2, hRT2⟩ : ∃ RT2, rtT (l.take (k + 1)) m = RT2 := ⟨_, rfl⟩
    rw [hRT2] at HHit HMiss
    have HRT2 := Lib.hid hRT2
    clear hRT2
    go_upto_region 18 with fail
    obtain ⟨W6, hW6, p0, p1, hb6, hlt6⟩ := boxed wr 54 (.int .i64 x) (.int .i64 y)
    rw [hW6]
    have hb6' := endB hbl hb6
    have k07 := k06.below hb6 k06.lt
    obtain ⟨e0, e1, f0, f1⟩ := k07.two
    have hB6 := hb6'.size
    have Ho6 := Lib.hid (OwnI.below Ho.out hb6)
    clear hW6 k06 k26 Ho hc0 hc1
    by_cases hxy : x = m ∧ y < m
    · obtain ⟨hx, hy⟩ := hxy
      have he := HHit.out hx hy
      have hxb : (x == (m : Int)) = true := by rw [beq_iff_eq]; exact hx
      have He := Lib.hid he
      clear he hx HHit HMiss
      go_wp2_with (at_builtin; refine wpList_appI (by rfl) _ _ (by rfl) W6 W5.heap.size _ RT y Ho6.out (by rfl) (by rfl) (by omega) hB6 ?_; intro v' w8 ho8 hb8 _; (obtain ⟨B8, d8, rfl, _, _⟩ := OwnI.form ho8); have Ho8 := Lib.hid ho8; have Hb8 := Lib.hid hb8; clear ho8 hb8)
      go_roundw
      case rel => exact ⟨k + 1, B8, d8, by omega, by go_num, by rw [HRT2.out, He.out]; simp, by rw [HRT2.out, He.out]; exact Ho8.out, hb6'.trans Hb8.out⟩
      case measure => simp [intOf]; omega
    · have he := HMiss.out hxy
      have He := Lib.hid he
      have hcs : (x == (m : Int)) = false ∨ ((x == (m : Int)) = true ∧ ¬ y < (m : Int)) := by
        by_cases h : x = m
        · exact .inr ⟨by rw [beq_iff_eq]; exact h, fun hy => hxy ⟨h, hy⟩⟩
        · exact .inl (by rw [beq_eq_false_iff_ne]; exact h)
      clear he HHit HMiss hxy
      rcases hcs with hxb | ⟨hxb, hyb⟩
      · go_wp2_with fail
        go_roundw
        case rel => exact ⟨k + 1, B, d, by omega, by go_num, by rw [HRT2.out, He.out], by rw [HRT2.out, He.out]; exact Ho6.out, hb6'⟩
        case measure => simp [intOf]; omega
      · go_wp2_with fail
        go_roundw
        case rel => exact ⟨k + 1, B, d, by omega, by go_num, by rw [HRT2.out, He.out], by rw [HRT2.out, He.out]; exact Ho6.out, hb6'⟩
        case measure => simp [intOf]; omega
end Go.Proofs.YtkflanjlnbdkmaaGreatDoor
