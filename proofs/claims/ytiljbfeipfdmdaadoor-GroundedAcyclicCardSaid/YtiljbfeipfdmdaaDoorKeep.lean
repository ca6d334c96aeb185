/- The functions of package keep that read numbers and compare lists: In, Inside, Ints, Mod, Raw, N, New. -/
import Derived.Test.YtiljbfeipfdmdaaDoorBase
namespace Go.Proofs.YtiljbfeipfdmdaaDoor
open Go.ChangeShapes Go.WideShapes Go.ChangeAt Go.RowKit

set_option maxHeartbeats 400000 in
theorem in_any (A : Option Addr) (l : List Int) (c : Nat) (x : Int) (w : World) (hn : l.length ≤ 4611686018427387904) (hr : RI w A l) :
    Calls Tryd.prog 28 #[.slice A l.length c, .int .i64 x] w (Ret (.bool (inB l x)) w) := by
  go_enter Tryd.func28, Tryd.ntmps28
  go_wp2
  go_loop [8] (fun i => ∃ k : Nat, k ≤ l.length ∧ i = .int .i64 k ∧ inB (l.take k) x = false) (fun i => l.length - (intOf i).toNat)
  case atStart => exact ⟨0, by omega, rfl, by simp [inB]⟩
  case round =>
    obtain ⟨k, hk, rfl, hno⟩ := hrel
    have Hno := Lib.hid hno; clear hno
    by_cases hlt : k < l.length
    · obtain ⟨b, o, rfl, hc⟩ := hr.at_ hlt
      go_wp2
      · go_ret
        exact ⟨rb (inB_hit l x k hlt (by assumption)).symm, rfl⟩
      · go_round
        case rel => exact ⟨k + 1, by omega, by go_num, inB_take_succ l x k hlt Hno.out (by assumption)⟩
        case measure => simp [intOf]; omega
    · go_wp2
      go_ret
      exact ⟨rb (inB_all l x k hlt Hno.out).symm, rfl⟩

/-- every element of a is one of b -/
def insideB (a b : List Int) : Bool := a.all (fun x => inB b x)
theorem insideB_take_succ {a b : List Int} {k : Nat} (h : k < a.length) (h0 : insideB (a.take k) b = true) (hx : inB b a[k] = true) : insideB (a.take (k + 1)) b = true := by
  unfold insideB at *
  rw [List.take_succ_eq_append_getElem h, List.all_append, h0]
  simp [hx]
theorem insideB_miss {a b : List Int} {k : Nat} (h : k < a.length) (hx : inB b a[k] = false) : insideB a b = false := by
  unfold insideB
  cases hb : a.all (fun x => inB b x)
  · rfl
  · rw [List.all_eq_true] at hb
    rw [hb _ (List.getElem_mem h)] at hx; cases hx
theorem insideB_all {a b : List Int} {k : Nat} (hk : ¬ k < a.length) (h0 : insideB (a.take k) b = true) : insideB a b = true := by
  rwa [List.take_of_length_le (by omega)] at h0


/-- two lists are equal -/
def eqB (a b : List Int) : Bool := a == b
theorem eqB_iff (a b : List Int) : eqB a b = true ↔ a = b := by simp [eqB]
theorem eqB_len {a b : List Int} (h : a.length ≠ b.length) : eqB a b = false := by
  cases hb : eqB a b
  · rfl
  · rw [eqB_iff] at hb; exact absurd (congrArg List.length hb) h
theorem eqB_miss {a b : List Int} {k : Nat} (h : k < a.length) (h' : k < b.length) (hx : (a[k] != b[k]) = true) : eqB a b = false := by
  cases hb : eqB a b
  · rfl
  · rw [eqB_iff] at hb; subst hb; simp at hx
theorem eqB_take_succ {a b : List Int} {k : Nat} (h : k < a.length) (h' : k < b.length) (h0 : a.take k = b.take k) (hx : (a[k] != b[k]) = false) : a.take (k + 1) = b.take (k + 1) := by
  rw [List.take_succ_eq_append_getElem h, List.take_succ_eq_append_getElem h', h0]
  have : a[k] = b[k] := by simpa using hx
  rw [this]
theorem eqB_all {a b : List Int} {k : Nat} (hl : a.length = b.length) (hk : ¬ k < a.length) (h0 : a.take k = b.take k) : eqB a b = true := by
  rw [eqB_iff]
  rwa [List.take_of_length_le (by omega), List.take_of_length_le (by omega)] at h0

set_option maxHeartbeats 400000 in
theorem ints_any (A B : Option Addr) (a b : List Int) (ca cb : Nat) (w : World) (hn : a.length ≤ 4611686018427387904) (hm : b.length ≤ 4611686018427387904) (ha : RI w A a) (hb : RI w B b) :
    Calls Tryd.prog 21 #[.slice A a.length ca, .slice B b.length cb] w (RetQ (.bool (eqB a b)) w) := by
  by_cases hl : a.length = b.length
  · have h1 : ((a.length : Int) != b.length) = false := by simp; omega
    have hle : a.length ≤ b.length := by omega
    have Hl := Lib.hid hl; clear hl
    go_enter Tryd.func21, Tryd.ntmps21
    go_wp2
    go_loopw [13] (fun i wr => ∃ k nd : Nat, k ≤ a.length ∧ i = .int .i64 k ∧ a.take k = b.take k ∧ wr = w.drewN nd) (fun i _ => a.length - (intOf i).toNat)
    case atStart => exact ⟨0, 0, by omega, rfl, by simp, rfl⟩
    case round =>
      obtain ⟨k, nd, hk, rfl, hno, rfl⟩ := hrel
      have Hno := Lib.hid hno; clear hno
      by_cases hlt : k < a.length
      · have hlb : k < b.length := by omega
        obtain ⟨b1, o1, rfl, hc1⟩ := ha.at_ hlt
        obtain ⟨b2, o2, rfl, hc2⟩ := hb.at_ hlb
        cases hx : a[k] != b[k]
        all_goals
          go_wp2
          go_quiet (fail)
          go_wp2
        · go_roundw
          case rel => exact ⟨k + 1, _, by omega, by go_num, eqB_take_succ hlt hlb Hno.out hx, rfl⟩
          case measure => simp [intOf]; omega
        · go_ret
          exact ⟨rb (eqB_miss hlt hlb hx).symm, nd + nq, by rw [World.drewN_drewN]⟩
      · go_wp2
        go_ret
        exact ⟨rb (eqB_all Hl.out hlt Hno.out).symm, _, rfl⟩
  · have h1 : ((a.length : Int) != b.length) = true := by rw [bne_iff_ne]; omega
    have Hl := Lib.hid hl; clear hl
    go_enter Tryd.func21, Tryd.ntmps21
    go_wp2
    go_ret
    exact ⟨rb (eqB_len Hl.out).symm, 0, rfl⟩

/-- keep.Mod -/
def modI (x n : Int) : Int := if n < 1 then 0 else if x.tmod n < 0 then x.tmod n + n else x.tmod n
theorem modI_neg {x n : Int} (h : n < 1) : modI x n = 0 := by unfold modI; rw [if_pos h]
theorem modI_pos {x n : Int} (h : 1 ≤ n) (h2 : 0 ≤ x.tmod n) : modI x n = x.tmod n := by unfold modI; rw [if_neg (by omega), if_neg (by omega)]
theorem modI_up {x n : Int} (h : 1 ≤ n) (h2 : x.tmod n < 0) : modI x n = x.tmod n + n := by unfold modI; rw [if_neg (by omega), if_pos h2]
theorem modI_range (x n : Int) (h : 1 ≤ n) : 0 ≤ modI x n ∧ modI x n < n := by
  have h1 := Int.tmod_lt_of_pos x (show 0 < n by omega)
  have h2 : -n < x.tmod n := by
    have := Int.tmod_lt_of_pos (-x) (show 0 < n by omega)
    rw [Int.neg_tmod] at this; omega
  unfold modI; rw [if_neg (by omega)]
  split <;> omega
theorem modI_zero (n : Int) (h : n < 1) (x : Int) : modI x n = 0 := modI_neg h

set_option maxHeartbeats 400000 in
theorem mod_any (x n : Int) (w : World) (hn : n ≤ 4611686018427387904) (hn' : -4611686018427387904 ≤ n) :
    Calls Tryd.prog 56 #[.int .i64 x, .int .i64 n] w (Ret (.int .i64 (modI x n)) w) := by
  by_cases h1 : n < 1
  · go_enter Tryd.func56, Tryd.ntmps56
    go_wp2
    go_ret
    exact ⟨ri (modI_neg h1).symm, rfl⟩
  · have h1' : 1 ≤ n := by omega
    clear h1
    have hr1 : x.tmod n < n := Int.tmod_lt_of_pos x (by omega)
    have hr2 : -n < x.tmod n := by
      have := Int.tmod_lt_of_pos (-x) (show 0 < n by omega)
      rw [Int.neg_tmod] at this; omega
    by_cases h2 : x.tmod n < 0
    · go_enter Tryd.func56, Tryd.ntmps56
      go_wp2
      go_ret
      exact ⟨ri (modI_up h1' h2).symm, rfl⟩
    · have h2' : 0 ≤ x.tmod n := by omega
      clear h2
      go_enter Tryd.func56, Tryd.ntmps56
      go_wp2
      go_ret
      exact ⟨ri (modI_pos h1' h2').symm, rfl⟩
end Go.Proofs.YtiljbfeipfdmdaaDoor
