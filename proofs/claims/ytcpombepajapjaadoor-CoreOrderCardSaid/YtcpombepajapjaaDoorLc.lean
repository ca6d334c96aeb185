/- LessCommitted and Meet of labelling and of ref11; ref11's Compare; ref11's Labellings. -/
import Derived.Test.YtcpombepajapjaaDoorPl11
import Derived.Test.YtcpombepajapjaaDoorRef13
import Derived.Test.YtcpombepajapjaaDoorGenM
namespace Go.Proofs.YtcpombepajapjaaDoor
open Go.ChangeShapes Go.WideShapes Go.ChangeAt Go.RowKit

theorem drq (w : World) (a b : Nat) : ∃ n, (w.drewN a).drewN b = w.drewN n := ⟨a + b, World.drewN_drewN _ _ _⟩
theorem drq3 (w : World) (a b c : Nat) : ∃ n, ((w.drewN a).drewN b).drewN c = w.drewN n := by
  rw [World.drewN_drewN]; exact drq _ _ _
theorem zerq (w : World) : ∃ n, w = w.drewN n := ⟨0, rfl⟩
theorem sinq (w : World) (a : Nat) : ∃ n, w.drewN a = w.drewN n := ⟨a, rfl⟩
/-- the test of one place -/
def lsB (a b : List Int) (i : Nat) : Bool := !(a.getD i 0 == 1 || a.getD i 0 == 2) || b.getD i 0 == a.getD i 0
def lsTo (a b : List Int) (k : Nat) : Bool := (List.range k).all (lsB a b)
theorem lsTo_succ {a b : List Int} {k : Nat} (h : lsTo a b k = true) (h1 : lsB a b k = true) : lsTo a b (k + 1) = true := by
  unfold lsTo at *
  rw [List.range_succ, List.all_append, h]; simp [h1]
theorem less_miss {a b : List Int} {k : Nat} (hk : k < a.length) (h1 : lsB a b k = false) : lessB a b = false := by
  cases h : lessB a b
  · rfl
  · unfold lessB at h
    rw [Bool.and_eq_true, List.all_eq_true] at h
    have := h.2 k (List.mem_range.2 hk)
    unfold lsB at h1
    rw [h1] at this; cases this
theorem less_all {a b : List Int} {k : Nat} (hk : ¬ k < a.length) (hk2 : k ≤ a.length) (hl : a.length = b.length) (h : lsTo a b k = true) : lessB a b = true := by
  obtain rfl : k = a.length := by omega
  unfold lessB
  rw [Bool.and_eq_true]
  exact ⟨decide_eq_true hl, h⟩
theorem less_len {a b : List Int} (h : a.length ≠ b.length) : lessB a b = false := by unfold lessB; rw [decide_eq_false h]; rfl
theorem lsB_free {a b : List Int} {k : Nat} (h1 : a.getD k 0 ≠ 1) (h2 : a.getD k 0 ≠ 2) : lsB a b k = true := by unfold lsB; rw [beq_eq_false_iff_ne.2 h1, beq_eq_false_iff_ne.2 h2]; rfl
theorem lsB_eq {a b : List Int} {k : Nat} (h1 : b.getD k 0 = a.getD k 0) : lsB a b k = true := by unfold lsB; rw [beq_iff_eq.2 h1, Bool.or_true]
theorem lsB_ne {a b : List Int} {k : Nat} (h : a.getD k 0 = 1 ∨ a.getD k 0 = 2) (h1 : b.getD k 0 ≠ a.getD k 0) : lsB a b k = false := by
  unfold lsB; rw [beq_eq_false_iff_ne.2 h1, Bool.or_false]
  rcases h with h | h
  · rw [beq_iff_eq.2 h]; rfl
  · rw [beq_iff_eq.2 h, Bool.or_true]; rfl

set_option maxHeartbeats 1000000 in
theorem lLess_any (A B : Option Addr) (a b : List Int) (ca cb : Nat) (w : World) (ha : RI w A a) (hb : RI w B b) (hla : a.length ≤ 100000) (_hlb : b.length ≤ 100000) :
    Calls Tryd.prog 32 #[.slice A a.length ca, .slice B b.length cb] w (Ret (.bool (lessB a b)) w) := by
  by_cases hl : a.length = b.length
  case neg =>
    have hd : ((a.length : Int) != (b.length : Int)) = true := by simp; omega
    have H := Lib.hid (less_len hl)
    clear hl
    go_enter Tryd.func32, Tryd.ntmps32
    go_wp2_with fail
    go_ret
    exact ⟨rb H.out.symm, rfl⟩
  case pos =>
  have hd : ((a.length : Int) != (b.length : Int)) = false := by simp [hl]
  have Hl := Lib.hid hl
  clear hl
  go_enter Tryd.func32, Tryd.ntmps32
  go_wp2_with fail
  go_loopw [14] (fun i wr => ∃ k nd : Nat, k ≤ a.length ∧ i = .int .i64 k ∧ lsTo a b k = true ∧ wr = w) (fun i _ => a.length - (intOf i).toNat)
  case atStart => exact ⟨0, 0, Nat.zero_le _, rfl, rfl, rfl⟩
  case round =>
    obtain ⟨k, nd, hk, rfl, hi, rfl⟩ := hrel
    have Hi := Lib.hid hi; clear hi
    by_cases hlt : k < a.length
    case neg =>
      have H := Lib.hid (less_all hlt hk Hl.out Hi.out)
      go_wp2_with fail
      go_ret
      exact ⟨rb H.out.symm, rfl⟩
    case pos =>
    have hltb : k < b.length := by rw [← Hl.out]; exact hlt
    obtain ⟨g, o, rfl, hc⟩ := ha.at_ hlt
    obtain ⟨g', o', rfl, hc'⟩ := hb.at_ hltb
    have hga : a.getD k 0 = a[k] := by simp [List.getD, hlt]
    have hgb : b.getD k 0 = b[k] := by simp [List.getD, hltb]
    obtain ⟨x, hx⟩ : ∃ x, a[k] = x := ⟨_, rfl⟩
    obtain ⟨y, hy⟩ : ∃ y, b[k] = y := ⟨_, rfl⟩
    rw [hx] at hc hga
    rw [hy] at hc' hgb
    have hl0 : lsB a b k = (!(x == 1 || x == 2) || y == x) := by unfold lsB; rw [hga, hgb]
    have Hl0 := Lib.hid hl0
    clear hga hgb hx hy hl0
    by_cases e1 : x = 1
    · subst e1
      by_cases e2 : y = 1
      · subst e2
        have H := Lib.hid (lsTo_succ Hi.out (by rw [Hl0.out]; rfl))
        go_wp2_with fail
        skip
        go_roundw
        case rel => exact ⟨k + 1, 0, by omega, by go_num, H.out, by first | rfl | trivial⟩
        case measure => simp [intOf]; omega
      · have H := Lib.hid (less_miss hlt (by rw [Hl0.out, beq_eq_false_iff_ne.2 e2]; rfl))
        have d1 : (y != 1) = true := by simpa using e2
        have d2 : ((1 : Int) != y) = true := by simpa using fun e => e2 e.symm
        clear e2
        go_wp2_with fail
        skip
        go_ret
        exact ⟨rb H.out.symm, rfl⟩
    by_cases e3 : x = 2
    · subst e3
      by_cases e2 : y = 2
      · subst e2
        have H := Lib.hid (lsTo_succ Hi.out (by rw [Hl0.out]; rfl))
        go_wp2_with fail
        skip
        go_roundw
        case rel => exact ⟨k + 1, 0, by omega, by go_num, H.out, by first | rfl | trivial⟩
        case measure => simp [intOf]; omega
      · have H := Lib.hid (less_miss hlt (by rw [Hl0.out, beq_eq_false_iff_ne.2 e2]; rfl))
        have d1 : (y != 2) = true := by simpa using e2
        have d2 : ((2 : Int) != y) = true := by simpa using fun e => e2 e.symm
        clear e2
        go_wp2_with fail
        skip
        go_ret
        exact ⟨rb H.out.symm, rfl⟩
    · have H := Lib.hid (lsTo_succ Hi.out (by rw [Hl0.out, beq_eq_false_iff_ne.2 e1, beq_eq_false_iff_ne.2 e3]; rfl))
      have d1 : (x == 1) = false := by simpa using e1
      have d2 : (x == 2) = false := by simpa using e3
      clear e1 e3
      go_wp2_with fail
      skip
      go_roundw
      case rel => exact ⟨k + 1, 0, by omega, by go_num, H.out, by first | rfl | trivial⟩
      case measure => simp [intOf]; omega

theorem meetF_eq {a b : List Int} {k : Nat} (h : a.getD k 0 = b.getD k 0) : meetF a b k = a.getD k 0 := by unfold meetF; rw [if_pos h]
theorem meetF_ne {a b : List Int} {k : Nat} (h : a.getD k 0 ≠ b.getD k 0) : meetF a b k = 3 := by unfold meetF; rw [if_neg h]

/-- the three ways to go on -/
def ext3 (x : List Int) : List (List Int) := [x ++ [1], x ++ [2], x ++ [3]]
theorem ext3_take (x : List Int) {t : Nat} (h : t < 3) : (ext3 x).take (t + 1) = (ext3 x).take t ++ [x ++ [1 + (t : Int)]] := by
  match t, h with
  | 0, _ => rfl
  | 1, _ => rfl
  | 2, _ => rfl
theorem ext3_all {ls : List (List Int)} {q : Nat} (h : q < ls.length) : (ls.take (q + 1)).flatMap ext3 = (ls.take q).flatMap ext3 ++ (ext3 ls[q]).take 3 := by
  rw [List.take_succ_eq_append_getElem h, List.flatMap_append]
  simp [ext3]
theorem ext3_len (ls : List (List Int)) : (ls.flatMap ext3).length = 3 * ls.length := by
  induction ls with
  | nil => rfl
  | cons x l ih => rw [List.flatMap_cons, List.length_append, ih, List.length_cons]; simp [ext3]; omega
theorem labs_small {n : Nat} (h : n ≤ 8) : (labsL n).length ≤ 10000 := by
  rw [labsL_length]
  have : 3 ^ n ≤ 3 ^ 8 := Nat.pow_le_pow_right (by omega) h
  omega

end Go.Proofs.YtcpombepajapjaaDoor
