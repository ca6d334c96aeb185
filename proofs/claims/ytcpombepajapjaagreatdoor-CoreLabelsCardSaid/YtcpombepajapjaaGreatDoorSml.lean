/- keep.SmallLists. -/
import Derived.Test.YtcpombepajapjaaGreatDoorAw15
namespace Go.Proofs.YtcpombepajapjaaGreatDoor
open Go.ChangeShapes Go.WideShapes Go.ChangeAt Go.RowKit

/-- few lists, all short -/
def smallB (L : List (List Int)) (n : Int) : Bool := L.all (fun x => decide ((x.length : Int) ≤ n)) && decide ((L.length : Int) ≤ n)

set_option maxRecDepth 100000 in
set_option maxHeartbeats 2000000 in
theorem smallLists_any (A : Option Addr) (L : List (List Int)) (ca : Nat) (n : Int) (w : World) (hL : RS w A L) (hlL : L.length ≤ 9223372036854775807) :
    Calls Tryz.prog 4 #[.slice A L.length ca, .int .i64 n] w (Ret (.bool (smallB L n)) w) := by
  obtain ⟨R, hR⟩ : ∃ R, smallB L n = R := ⟨_, rfl⟩
  rw [hR]
  have HR := Lib.hid hR
  clear hR
  go_enter Tryz.func4, Tryz.ntmps4
  go_wp2_with fail
  go_loop [8] (fun i => ∃ k : Nat, k ≤ L.length ∧ i = .int .i64 k ∧ (L.take k).all (fun x => decide ((x.length : Int) ≤ n)) = true) (fun i => L.length - (intOf i).toNat)
  case atStart => exact ⟨0, Nat.zero_le _, rfl, by simp⟩
  case round =>
    obtain ⟨k, hk, rfl, hi⟩ := hrel
    have Hi := Lib.hid hi; clear hi
    by_cases hlt : k < L.length
    case neg =>
      have hall : L.all (fun x => decide ((x.length : Int) ≤ n)) = true := by have := Hi.out; rwa [List.take_of_length_le (by omega)] at this
      have Hall := Lib.hid hall
      clear hall
      obtain ⟨d, hd⟩ : ∃ d, decide ((L.length : Int) ≤ n) = d := ⟨_, rfl⟩
      have Hd := Lib.hid hd
      go_wp2_with fail
      go_ret
      exact ⟨rb (by rw [← HR.out]; unfold smallB; rw [Hall.out, Hd.out]; simp), rfl⟩
    case pos =>
    have hlt' : (k : Int) < (L.length : Int) := by omega
    obtain ⟨b, o, AX, cx, hA, hcell, hri⟩ := hL.at_ hlt
    subst hA
    have hstp := all_stepX (fun x : List Int => decide ((x.length : Int) ≤ n)) L hlt
    rw [Hi.out, Bool.true_and] at hstp
    have hbad : ¬ (L[k].length : Int) ≤ n → smallB L n = false := fun h => by
      unfold smallB
      rw [Bool.and_eq_false_iff]
      refine .inl ?_
      rw [Bool.eq_false_iff]
      intro h2
      rw [List.all_eq_true] at h2
      exact h (of_decide_eq_true (h2 _ (List.getElem_mem hlt)))
    obtain ⟨x, hx⟩ : ∃ x, L[k] = x := ⟨_, rfl⟩
    rw [hx] at hcell hstp hbad
    have Hstp := Lib.hid hstp; have Hbad := Lib.hid hbad
    clear hstp hbad hx
    by_cases hn : (x.length : Int) ≤ n
    · have hn' : ¬ n < (x.length : Int) := by omega
      have hd : decide (n < (x.length : Int)) = false := decide_eq_false hn'
      have Hn := Lib.hid hn; clear hn
      go_wp2_with fail
      go_round
      case rel => exact ⟨k + 1, by omega, by go_num, by rw [Hstp.out, decide_eq_true Hn.out]⟩
      case measure => simp [intOf]; omega
    · have hn' : n < (x.length : Int) := by omega
      have hd : decide (n < (x.length : Int)) = true := decide_eq_true hn'
      have Hn := Lib.hid hn; clear hn
      go_wp2_with fail
      go_ret
      exact ⟨rb (by rw [← HR.out, Hbad.out Hn.out]), rfl⟩
end Go.Proofs.YtcpombepajapjaaGreatDoor
