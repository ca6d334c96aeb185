/- keep.Lists. -/
import Derived.Test.YtkflanjlnbdkmaaDoorRef13
import Derived.Test.YtkflanjlnbdkmaaDoorGenM
namespace Go.Proofs.YtkflanjlnbdkmaaDoor
open Go.ChangeShapes Go.WideShapes Go.ChangeAt Go.RowKit

/-- two lists of lists are equal -/
def eqLs (a b : List (List Int)) : Bool := a == b
theorem eqLs_iff (a b : List (List Int)) : eqLs a b = true ↔ a = b := by simp [eqLs]
theorem eqLs_len {a b : List (List Int)} (h : a.length ≠ b.length) : eqLs a b = false := by
  cases hb : eqLs a b
  · rfl
  · rw [eqLs_iff] at hb; exact absurd (congrArg List.length hb) h
theorem RSo.rs {w : World} {A : Option Addr} {ls : List (List Int)} (h : RSo w A ls) : RS w A ls := fun k hk => by
  obtain ⟨b, o, A', c', hA, hc, _, hr⟩ := h k hk
  have e : ls.getD k [] = ls[k] := by simp [List.getD, hk]
  exact ⟨b, o, A', c', hA, by rw [e]; exact hc, by rw [e]; exact hr⟩

set_option maxHeartbeats 1000000 in
theorem lists_any (A B : Option Addr) (a b : List (List Int)) (ca cb : Nat) (w : World) (_hn : a.length ≤ 100000) (hm : b.length ≤ 100000) (hal : ∀ x ∈ a, x.length ≤ 100000) (hbl' : ∀ x ∈ b, x.length ≤ 100000) (ha : RS w A a) (hb : RS w B b) :
    Calls Tryd.prog 14 #[.slice A a.length ca, .slice B b.length cb] w (RetB (.bool (eqLs a b)) w) := by
  by_cases hl : a.length = b.length
  case neg =>
    have h1 : ((a.length : Int) != b.length) = true := by rw [bne_iff_ne]; omega
    have Hl := Lib.hid hl; clear hl
    go_enter Tryd.func14, Tryd.ntmps14
    go_wp2_with fail
    go_ret
    exact ⟨rb (eqLs_len Hl.out).symm, Below.refl _ _⟩
  case pos =>
  have h1 : ((a.length : Int) != b.length) = false := by rw [bne_eq_false_iff_eq]; omega
  have hle : a.length ≤ b.length := by omega
  have Hl := Lib.hid hl; clear hl
  go_enter Tryd.func14, Tryd.ntmps14
  go_wp2_with fail
  go_loopw [13] (fun j wr => ∃ k : Nat, k ≤ a.length ∧ j = .int .i64 k ∧ a.take k = b.take k ∧ Below w.heap.size w wr) (fun j _ => a.length - (intOf j).toNat)
  case atStart => exact ⟨0, Nat.zero_le _, rfl, by simp, Below.refl _ _⟩
  case round =>
    obtain ⟨k, hk, rfl, hgood, hbl⟩ := hrel
    have Hgood := Lib.hid hgood
    clear hgood
    by_cases hkl : k < a.length
    case neg =>
      have H := Lib.hid (show eqLs a b = true by
        rw [eqLs_iff]
        have := Hgood.out
        rwa [List.take_of_length_le (by omega), List.take_of_length_le (by have := Hl.out; omega)] at this)
      go_wp2_with fail
      go_ret
      exact ⟨rb H.out.symm, hbl⟩
    case pos =>
    have hkb : k < b.length := by omega
    obtain ⟨b1, o1, A1, c1, rfl, hc1, hr1⟩ := (ha.below hbl).at_ hkl
    obtain ⟨b2, o2, A2, c2, rfl, hc2, hr2⟩ := (hb.below hbl).at_ hkb
    have hl1 := hal _ (List.getElem_mem hkl)
    have hl2 := hbl' _ (List.getElem_mem hkb)
    have hk0 : (0 : Int) ≤ (k : Int) := by omega
    have hka' : (k : Int) < (a.length : Int) := by omega
    have hkb' : (k : Int) < (b.length : Int) := by omega
    have hyes : a[k] = b[k] → a.take (k + 1) = b.take (k + 1) := fun h => by rw [List.take_succ_eq_append_getElem hkl, List.take_succ_eq_append_getElem hkb, Hgood.out, h]
    have hno : a[k] ≠ b[k] → eqLs a b = false := fun h => by
      cases hb : eqLs a b
      · rfl
      · rw [eqLs_iff] at hb; subst hb; exact absurd rfl h
    obtain ⟨x, hx⟩ : ∃ x, a[k] = x := ⟨_, rfl⟩
    obtain ⟨y, hy⟩ : ∃ y, b[k] = y := ⟨_, rfl⟩
    rw [hx] at hc1 hr1 hl1 hyes hno
    rw [hy] at hc2 hr2 hl2 hyes hno
    obtain ⟨q, hq⟩ : ∃ q, eqB x y = q := ⟨_, rfl⟩
    have Hq := Lib.hid hq; have Hyes := Lib.hid hyes; have Hno := Lib.hid hno
    clear hq hyes hno hx hy
    obtain ⟨W0, hW0⟩ : ∃ W0, W0 = wr := ⟨_, rfl⟩
    subst hW0
    go_wp2_with fail
    refine wp_region_text (S := fun w' => Below W0.heap.size W0 w') (by kernel_rfl) (by kernel_rfl) (Below.refl _ _).drew ?_
    repeat (first
      | (refine TxtL.skip (by rfl) ?_; simp only [Act.put, List.setIfInBounds_toArray, List.set_cons_zero, List.set_cons_succ])
      | (refine TxtL.take' (by rfl) ?_; apply Exists.intro; refine ⟨fun w1 hS1 => ?_, ?_⟩; (focus ((have g0 := (hS1.cell (lt_of_cell hc1)).trans hc1); (have g1 := (hS1.cell (lt_of_cell hc2)).trans hc2); go_simp; with_reducible rfl)); simp only [Act.put, List.setIfInBounds_toArray, List.set_cons_zero, List.set_cons_succ])
      | (refine TxtL.call' (by rfl) ?_; apply Exists.intro; apply Exists.intro; refine ⟨fun w1 hS1 => ?_, ?_⟩; (focus (go_simp; first | with_reducible rfl | exact ⟨rfl, rfl⟩)); apply Exists.intro; refine ⟨fun w1 hS1 => ?_, ?_⟩; (focus ((have g0 := (hS1.cell (lt_of_cell hc1)).trans hc1); (have g1 := (hS1.cell (lt_of_cell hc2)).trans hc2); first | (refine (ints_any A1 A2 x y c1 c2 w1 (by omega) (by omega) (hr1.below hS1) (hr2.below hS1)).mono ?_; rintro e w' ⟨rfl, nd, rfl⟩; exact ⟨by rw [Hq.out], below_drewN hS1 nd⟩))); simp only [Act.put, List.setIfInBounds_toArray, List.set_cons_zero, List.set_cons_succ]))
    refine TxtL.nil (fun w1 hS1 => ?_)
    have hbw := endB hbl hS1
    cases q
    · have H := Lib.hid (Hno.out fun h => by have := Hq.out; rw [h] at this; simp [eqB] at this)
      go_wp2_with fail
      go_ret
      exact ⟨rb H.out.symm, hbw⟩
    · have H := Lib.hid (Hyes.out ((eqB_iff _ _).1 Hq.out))
      go_wp2_with fail
      go_roundw
      case rel => exact ⟨k + 1, by omega, by go_num, H.out, hbw⟩
      case measure => simp [intOf]; omega
theorem rs_new3 (w : World) {A1 A2 A3 : Option Addr} {x y z : List Int} {c1 c2 c3 : Nat} (h1 : RI w A1 x) (h2 : RI w A2 y) (h3 : RI w A3 z) : RS (w.alloc (.cells #[.slice A1 x.length c1, .slice A2 y.length c2, .slice A3 z.length c3] 25)) (some ⟨w.heap.size, 0, none⟩) [x, y, z] := fun k hk => by
  have hb := Blk.new w 25 #[.slice A1 x.length c1, .slice A2 y.length c2, .slice A3 z.length c3]
  match k, hk with
  | 0, _ => exact ⟨w.heap.size, 0, A1, c1, rfl, by rw [hb.cell]; rfl, h1.below (newB _ _)⟩
  | 1, _ => exact ⟨w.heap.size, 0, A2, c2, rfl, by rw [hb.cell]; rfl, h2.below (newB _ _)⟩
  | 2, _ => exact ⟨w.heap.size, 0, A3, c3, rfl, by rw [hb.cell]; rfl, h3.below (newB _ _)⟩
theorem rs_new2 (w : World) {A1 A2 : Option Addr} {x y : List Int} {c1 c2 : Nat} (h1 : RI w A1 x) (h2 : RI w A2 y) : RS (w.alloc (.cells #[.slice A1 x.length c1, .slice A2 y.length c2] 25)) (some ⟨w.heap.size, 0, none⟩) [x, y] := fun k hk => by
  have hb := Blk.new w 25 #[.slice A1 x.length c1, .slice A2 y.length c2]
  match k, hk with
  | 0, _ => exact ⟨w.heap.size, 0, A1, c1, rfl, by rw [hb.cell]; rfl, h1.below (newB _ _)⟩
  | 1, _ => exact ⟨w.heap.size, 0, A2, c2, rfl, by rw [hb.cell]; rfl, h2.below (newB _ _)⟩

end Go.Proofs.YtkflanjlnbdkmaaDoor
