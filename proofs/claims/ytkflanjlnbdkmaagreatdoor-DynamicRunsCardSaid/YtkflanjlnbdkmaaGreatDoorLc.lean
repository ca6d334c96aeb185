/- LessCommitted and Meet of labelling and of ref11; ref11's Compare; ref11's Labellings. -/
import Derived.Test.YtkflanjlnbdkmaaGreatDoorPl11
import Derived.Test.YtkflanjlnbdkmaaGreatDoorRef13
import Derived.Test.YtkflanjlnbdkmaaGreatDoorGenM
namespace Go.Proofs.YtkflanjlnbdkmaaGreatDoor
open Go.ChangeShapes Go.WideShapes Go.ChangeAt Go.RowKit

theorem drq (w : World) (a b : Nat) : ∃ n, (w.drewN a).drewN b = w.drewN n := ⟨a + b, World.drewN_drewN _ _ _⟩
theorem drq3 (w : World) (a b c : Nat) : ∃ n, ((w.drewN a).drewN b).drewN c = w.drewN n := by
  rw [World.drewN_drewN]; exact drq _ _ _
theorem zerq (w : World) : ∃ n, w = w.drewN n := ⟨0, rfl⟩
theorem sinq (w : World) (a : Nat) : ∃ n, w.drewN a = w.drewN n := ⟨a, rfl⟩
/-- the test of one place -/
def lsB (a b : List Int) (i : Nat) : Bool := !(a.getD i 0 == 1 || a.getD i 0 == 2) || b.getD i 0 == a.getD i 0
def lsTo (a b : List Int) (k : Nat) : Bool := (List.range k).all (lsB a b)
theorem lsTo_succ {a b : List Int} {k : Nat} (h : lsTo a b k = true) (h1 : lsB a b k = true) : lsTo a b (k + 1) = true := by
  unfold lsTo at *
  rw [List.range_succ, List.all_append, h]; simp [h1]
theorem less_miss {a b : List Int} {k : Nat} (hk : k < a.length) (h1 : lsB a b k = false) : lessB a b = false := by
  cases h : lessB a b
  · rfl
  · unfold lessB at h
    rw [Bool.and_eq_true, List.all_eq_true] at h
    have := h.2 k (List.mem_range.2 hk)
    unfold lsB at h1
    rw [h1] at this; cases this
theorem less_all {a b : List Int} {k : Nat} (hk : ¬ k < a.length) (hk2 : k ≤ a.length) (hl : a.length = b.length) (h : lsTo a b k = true) : lessB a b = true := by
  obtain rfl : k = a.length := by omega
  unfold lessB
  rw [Bool.and_eq_true]
  exact ⟨decide_eq_true hl, h⟩
theorem less_len {a b : List Int} (h : a.length ≠ b.length) : lessB a b = false := by unfold lessB; rw [decide_eq_false h]; rfl
theorem lsB_free {a b : List Int} {k : Nat} (h1 : a.getD k 0 ≠ 1) (h2 : a.getD k 0 ≠ 2) : lsB a b k = true := by unfold lsB; rw [beq_eq_false_iff_ne.2 h1, beq_eq_false_iff_ne.2 h2]; rfl
theorem lsB_eq {a b : List Int} {k : Nat} (h1 : b.getD k 0 = a.getD k 0) : lsB a b k = true := by unfold lsB; rw [beq_iff_eq.2 h1, Bool.or_true]
theorem lsB_ne {a b : List Int} {k : Nat} (h : a.getD k 0 = 1 ∨ a.getD k 0 = 2) (h1 : b.getD k 0 ≠ a.getD k 0) : lsB a b k = false := by
  unfold lsB; rw [beq_eq_false_iff_ne.2 h1, Bool.or_false]
  rcases h with h | h
  · rw [beq_iff_eq.2 h]; rfl
  · rw [beq_iff_eq.2 h, Bool.or_true]; rfl

theorem meetF_eq {a b : List Int} {k : Nat} (h : a.getD k 0 = b.getD k 0) : meetF a b k = a.getD k 0 := by unfold meetF; rw [if_pos h]
theorem meetF_ne {a b : List Int} {k : Nat} (h : a.getD k 0 ≠ b.getD k 0) : meetF a b k = 3 := by unfold meetF; rw [if_neg h]

set_option maxHeartbeats 1000000 in
theorem r11Compare_any (A B : Option Addr) (a b : List Int) (ca cb : Nat) (w : World) (ha : RI w A a) (hb : RI w B b) (hla : a.length ≤ 100000) (_hlb : b.length ≤ 100000) :
    Calls Tryz.prog 26 #[.slice A a.length ca, .slice B b.length cb] w (RetQ (.int .i64 (cmpLs a b)) w) := by
  go_enter Tryz.func26, Tryz.ntmps26
  go_wp2_with fail
  go_loopw [5] (fun i wr => ∃ k nd : Nat, k ≤ a.length ∧ k ≤ b.length ∧ i = .int .i64 k ∧ cmpLs (a.drop k) (b.drop k) = cmpLs a b ∧ wr = w.drewN nd) (fun i _ => a.length - (intOf i).toNat)
  case atStart => exact ⟨0, 0, Nat.zero_le _, Nat.zero_le _, rfl, rfl, rfl⟩
  case round =>
    obtain ⟨k, nd, hk, hkb, rfl, hi, rfl⟩ := hrel
    have Hi := Lib.hid hi; clear hi
    by_cases hlt : k < a.length
    case neg =>
      obtain rfl : k = a.length := by omega
      by_cases h : a.length < b.length
      · have hd : (a.length : Int) < (b.length : Int) := by omega
        go_wp2_with fail
        go_ret
        exact ⟨ri (by rw [← Hi.out, cmpLs_endA hlt h]), by first | exact drq _ _ _ | exact drq3 _ _ _ _ | exact ⟨_, rfl⟩⟩
      · have hd : ¬ (a.length : Int) < (b.length : Int) := by omega
        have hd2 : ¬ (b.length : Int) < (a.length : Int) := by omega
        go_wp2_with fail
        go_ret
        exact ⟨ri (by rw [← Hi.out, cmpLs_end hlt h]), by first | exact drq _ _ _ | exact drq3 _ _ _ _ | exact ⟨_, rfl⟩⟩
    case pos =>
    have hla' : (k : Int) < (a.length : Int) := by omega
    by_cases hlb' : k < b.length
    case neg =>
      obtain rfl : k = b.length := by omega
      have hd2 : ¬ (a.length : Int) < (b.length : Int) := by omega
      go_wp2_with fail
      go_ret
      exact ⟨ri (by rw [← Hi.out, cmpLs_endB hlt hlb']), by first | exact drq _ _ _ | exact drq3 _ _ _ _ | exact ⟨_, rfl⟩⟩
    case pos =>
    obtain ⟨g, o, rfl, hc⟩ := ha.at_ hlt
    obtain ⟨g', o', rfl, hc'⟩ := hb.at_ hlb'
    have hd : (k : Int) < (b.length : Int) := by omega
    have hs := cmpLs_drop hlt hlb'
    have Hs := Lib.hid hs; clear hs
    by_cases h1 : a[k] < b[k]
    · have H := Lib.hid (show cmpLs a b = -1 by rw [← Hi.out, Hs.out, if_pos h1])
      go_wp2_with fail
      go_quiet (fail)
      go_wp2_with fail
      go_ret
      exact ⟨ri H.out.symm, by first | exact drq _ _ _ | exact drq3 _ _ _ _ | exact ⟨_, rfl⟩⟩
    by_cases h2 : b[k] < a[k]
    · have H := Lib.hid (show cmpLs a b = 1 by rw [← Hi.out, Hs.out, if_neg h1, if_pos h2])
      go_wp2_with fail
      go_quiet (fail)
      go_wp2_with fail
      go_quiet (fail)
      go_wp2_with fail
      go_ret
      exact ⟨ri H.out.symm, by first | exact drq _ _ _ | exact drq3 _ _ _ _ | exact ⟨_, rfl⟩⟩
    · have H := Lib.hid (show cmpLs (a.drop (k + 1)) (b.drop (k + 1)) = cmpLs a b by rw [← Hi.out, Hs.out, if_neg h1, if_neg h2])
      go_wp2_with fail
      go_quiet (fail)
      go_wp2_with fail
      go_quiet (fail)
      go_wp2_with fail
      go_roundw
      case rel => exact ⟨k + 1, _, by omega, by omega, by go_num, H.out, rfl⟩
      case measure => simp [intOf]; omega

/-- the three ways to go on -/
def ext3 (x : List Int) : List (List Int) := [x ++ [1], x ++ [2], x ++ [3]]
theorem ext3_take (x : List Int) {t : Nat} (h : t < 3) : (ext3 x).take (t + 1) = (ext3 x).take t ++ [x ++ [1 + (t : Int)]] := by
  match t, h with
  | 0, _ => rfl
  | 1, _ => rfl
  | 2, _ => rfl
theorem ext3_all {ls : List (List Int)} {q : Nat} (h : q < ls.length) : (ls.take (q + 1)).flatMap ext3 = (ls.take q).flatMap ext3 ++ (ext3 ls[q]).take 3 := by
  rw [List.take_succ_eq_append_getElem h, List.flatMap_append]
  simp [ext3]
theorem ext3_len (ls : List (List Int)) : (ls.flatMap ext3).length = 3 * ls.length := by
  induction ls with
  | nil => rfl
  | cons x l ih => rw [List.flatMap_cons, List.length_append, ih, List.length_cons]; simp [ext3]; omega
theorem labs_small {n : Nat} (h : n ≤ 8) : (labsL n).length ≤ 10000 := by
  rw [labsL_length]
  have : 3 ^ n ≤ 3 ^ 8 := Nat.pow_le_pow_right (by omega) h
  omega

end Go.Proofs.YtkflanjlnbdkmaaGreatDoor
