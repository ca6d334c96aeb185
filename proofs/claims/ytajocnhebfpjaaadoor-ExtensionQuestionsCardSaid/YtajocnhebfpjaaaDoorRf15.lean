/- ref15: in, Some, All; keep.SmallLists. -/
import Derived.Test.YtajocnhebfpjaaaDoorExt4
namespace Go.Proofs.YtajocnhebfpjaaaDoor
open Go.ChangeShapes Go.WideShapes Go.ChangeAt Go.RowKit

set_option maxHeartbeats 1000000 in
theorem r15In_any (A : Option Addr) (x : List Int) (c : Nat) (i : Int) (w : World) (hr : RI w A x) (_hl : x.length ≤ 100000) :
    Calls Tryd.prog 84 #[.slice A x.length c, .int .i64 i] w (Ret (.bool (atB x i)) w) := by
  by_cases h0 : 0 ≤ i
  case neg =>
    have hd : decide (0 ≤ i) = false := by rw [decide_eq_false_iff_not]; exact h0
    have hz : atB x i = false := by unfold atB; rw [hd]; rfl
    have Hz := Lib.hid hz; clear hz
    go_enter Tryd.func84, Tryd.ntmps84
    go_wp2_with fail
    go_ret
    exact ⟨rb (by rw [Hz.out]), rfl⟩
  case pos =>
  by_cases h1 : i < (x.length : Int)
  case neg =>
    have hd : decide (i < (x.length : Int)) = false := by rw [decide_eq_false_iff_not]; exact h1
    have hz : atB x i = false := by unfold atB; rw [hd, Bool.and_false]; rfl
    have Hz := Lib.hid hz; clear hz
    go_enter Tryd.func84, Tryd.ntmps84
    go_wp2_with fail
    go_ret
    exact ⟨rb (by rw [Hz.out]), rfl⟩
  case pos =>
  obtain ⟨k, rfl⟩ := Int.eq_ofNat_of_zero_le h0
  have hk : k < x.length := by omega
  have hz : atB x (k : Int) = (x[k] == 1) := by
    unfold atB
    rw [decide_eq_true h0, decide_eq_true h1, Int.toNat_natCast]
    simp [List.getD, hk]
  obtain ⟨b, o, rfl, hc⟩ := hr.at_ hk
  obtain ⟨y, hy⟩ : ∃ y, x[k] = y := ⟨_, rfl⟩
  rw [hy] at hc hz
  have Hz := Lib.hid hz; clear hz hy
  go_enter Tryd.func84, Tryd.ntmps84
  go_wp2_with fail
  go_ret
  exact ⟨rb (by rw [Hz.out]), rfl⟩


set_option maxRecDepth 100000 in
set_option maxHeartbeats 2000000 in
theorem r15Some_any (A : Option Addr) (L : List (List Int)) (ca : Nat) (i : Int) (w : World) (hL : RS w A L) (hlL : L.length ≤ 100000) (hll : ∀ x ∈ L, x.length ≤ 1000) :
    Calls Tryd.prog 48 #[.slice A L.length ca, .int .i64 i] w (Ret (.bool (L.any fun x => atB x i)) w) := by
  have Hll := Lib.hid hll
  obtain ⟨R, hR⟩ : ∃ R, (L.any fun x => atB x i) = R := ⟨_, rfl⟩
  have hres : ((L.any fun x => atB x i)) = R := hR
  rw [hR]
  have Hres := Lib.hid hres
  clear hll hres hR
  go_enter Tryd.func48, Tryd.ntmps48
  go_wp2_with fail
  go_loop [5] (fun j => ∃ k : Nat, k ≤ L.length ∧ j = .int .i64 k ∧ (L.take k).any (fun x => atB x i) = false) (fun j => L.length - (intOf j).toNat)
  case atStart => exact ⟨0, Nat.zero_le _, rfl, by simp⟩
  case round =>
    obtain ⟨k, hk, rfl, hi⟩ := hrel
    have Hi := Lib.hid hi; clear hi
    by_cases hlt : k < L.length
    case neg =>
      have hall : (L.any fun x => atB x i) = false := by have := Hi.out; rwa [List.take_of_length_le (by omega)] at this
      have Hall := Lib.hid hall
      clear hall
      go_wp2_with fail
      go_ret
      exact ⟨rb (by rw [← Hres.out, Hall.out]), rfl⟩
    case pos =>
    have hlt' : (k : Int) < (L.length : Int) := by omega
    have hk0 : (0 : Int) ≤ (k : Int) := by omega
    obtain ⟨b, o, AX, cx, hA, hcell, hri⟩ := hL.at_ hlt
    subst hA
    have hstp := any_stepX (fun x => atB x i) L hlt
    rw [Hi.out, Bool.false_or] at hstp
    have hlx := Hll.out _ (List.getElem_mem hlt)
    have hany : ∀ x, L[k] = x → (atB x i) = true → (L.any fun x => atB x i) = true := fun x e h => List.any_eq_true.2 ⟨x, e ▸ List.getElem_mem hlt, h⟩
    obtain ⟨x, hx⟩ : ∃ x, L[k] = x := ⟨_, rfl⟩
    rw [hx] at hcell hri hlx hstp
    have Hstp := Lib.hid hstp; have Hany := Lib.hid (hany x hx)
    have Hb := Lib.hid (r15In_any AX x cx i w hri (by omega))
    clear hstp hany hx
    go_wp2_with fail
    refine Hb.out.mono ?_
    rintro e w1 ⟨rfl, rfl⟩
    cases hp : atB x i
    · have Hp := Lib.hid hp; clear hp
      go_wp2_with fail
      go_round
      case rel => exact ⟨k + 1, by omega, by go_num, by rw [Hstp.out, Hp.out]⟩
      case measure => simp [intOf]; omega
    · have Hp := Lib.hid hp; clear hp
      go_wp2_with fail
      go_ret
      exact ⟨rb (by rw [← Hres.out, Hany.out (by rw [Hp.out])]), rfl⟩

set_option maxRecDepth 100000 in
set_option maxHeartbeats 2000000 in
theorem r15All_any (A : Option Addr) (L : List (List Int)) (ca : Nat) (i : Int) (w : World) (hL : RS w A L) (hlL : L.length ≤ 100000) (hll : ∀ x ∈ L, x.length ≤ 1000) :
    Calls Tryd.prog 50 #[.slice A L.length ca, .int .i64 i] w (Ret (.bool (L.all fun x => atB x i)) w) := by
  have Hll := Lib.hid hll
  obtain ⟨R, hR⟩ : ∃ R, (L.all fun x => atB x i) = R := ⟨_, rfl⟩
  have hres : (!(L.any fun x => !atB x i)) = R := (show (!(L.any fun x => !atB x i)) = (L.all fun x => atB x i) by rw [List.not_any_eq_all_not]; simp).trans hR
  rw [hR]
  have Hres := Lib.hid hres
  clear hll hres hR
  go_enter Tryd.func50, Tryd.ntmps50
  go_wp2_with fail
  go_loop [5] (fun j => ∃ k : Nat, k ≤ L.length ∧ j = .int .i64 k ∧ (L.take k).any (fun x => !atB x i) = false) (fun j => L.length - (intOf j).toNat)
  case atStart => exact ⟨0, Nat.zero_le _, rfl, by simp⟩
  case round =>
    obtain ⟨k, hk, rfl, hi⟩ := hrel
    have Hi := Lib.hid hi; clear hi
    by_cases hlt : k < L.length
    case neg =>
      have hall : (L.any fun x => !atB x i) = false := by have := Hi.out; rwa [List.take_of_length_le (by omega)] at this
      have Hall := Lib.hid hall
      clear hall
      go_wp2_with fail
      go_ret
      exact ⟨rb (by rw [← Hres.out, Hall.out]; rfl), rfl⟩
    case pos =>
    have hlt' : (k : Int) < (L.length : Int) := by omega
    have hk0 : (0 : Int) ≤ (k : Int) := by omega
    obtain ⟨b, o, AX, cx, hA, hcell, hri⟩ := hL.at_ hlt
    subst hA
    have hstp := any_stepX (fun x => !atB x i) L hlt
    rw [Hi.out, Bool.false_or] at hstp
    have hlx := Hll.out _ (List.getElem_mem hlt)
    have hany : ∀ x, L[k] = x → (!atB x i) = true → (L.any fun x => !atB x i) = true := fun x e h => List.any_eq_true.2 ⟨x, e ▸ List.getElem_mem hlt, h⟩
    obtain ⟨x, hx⟩ : ∃ x, L[k] = x := ⟨_, rfl⟩
    rw [hx] at hcell hri hlx hstp
    have Hstp := Lib.hid hstp; have Hany := Lib.hid (hany x hx)
    have Hb := Lib.hid (r15In_any AX x cx i w hri (by omega))
    clear hstp hany hx
    go_wp2_with fail
    refine Hb.out.mono ?_
    rintro e w1 ⟨rfl, rfl⟩
    cases hp : atB x i
    · have Hp := Lib.hid hp; clear hp
      go_wp2_with fail
      go_ret
      exact ⟨rb (by rw [← Hres.out, Hany.out (by rw [Hp.out]; rfl)]; rfl), rfl⟩
    · have Hp := Lib.hid hp; clear hp
      go_wp2_with fail
      go_round
      case rel => exact ⟨k + 1, by omega, by go_num, by rw [Hstp.out, Hp.out]; rfl⟩
      case measure => simp [intOf]; omega

set_option maxHeartbeats 1000000 in
theorem r15Proper_any (A B : Option Addr) (a b : List Int) (ca cb : Nat) (w : World) (hn : a.length ≤ 100000) (hm : b.length ≤ 100000) (ha : RI w A a) (hb : RI w B b) :
    Calls Tryd.prog 55 #[.slice A a.length ca, .slice B b.length cb] w (Ret (.bool (withinB a b)) w) := by
  obtain ⟨R, hR⟩ : ∃ R, withinB a b = R := ⟨_, rfl⟩
  rw [hR]
  have HR := Lib.hid hR
  clear hR
  go_enter Tryd.func55, Tryd.ntmps55
  go_wp2_with fail
  go_loop [5] (fun i => ∃ k : Nat, k ≤ a.length ∧ i = .int .i64 k ∧ insideB (a.take k) b = true) (fun i => a.length - (intOf i).toNat)
  case atStart => exact ⟨0, Nat.zero_le _, rfl, by simp [insideB]⟩
  case round =>
    obtain ⟨k, hk, rfl, hi⟩ := hrel
    have Hi := Lib.hid hi; clear hi
    by_cases hlt : k < a.length
    case neg =>
      have hin : insideB a b = true := insideB_all hlt Hi.out
      have Hin := Lib.hid hin
      clear hin
      by_cases hab : a.length < b.length
      · have hd : decide ((a.length : Int) < (b.length : Int)) = true := by rw [decide_eq_true_iff]; omega
        have Hab := Lib.hid hab; clear hab
        go_wp2_with fail
        go_ret
        exact ⟨rb (by rw [← HR.out]; unfold withinB; rw [Hin.out, decide_eq_true Hab.out]; rfl), rfl⟩
      · have hd : decide ((a.length : Int) < (b.length : Int)) = false := by rw [decide_eq_false_iff_not]; omega
        have Hab := Lib.hid hab; clear hab
        go_wp2_with fail
        go_ret
        exact ⟨rb (by rw [← HR.out]; unfold withinB; rw [decide_eq_false Hab.out]; rfl), rfl⟩
    case pos =>
    have hlt' : (k : Int) < (a.length : Int) := by omega
    obtain ⟨bb, o, rfl, hc⟩ := ha.at_ hlt
    have hmiss : inB b a[k] = false → insideB a b = false := insideB_miss hlt
    have hstp : inB b a[k] = true → insideB (a.take (k + 1)) b = true := insideB_take_succ hlt Hi.out
    obtain ⟨y, hy⟩ : ∃ y, a[k] = y := ⟨_, rfl⟩
    rw [hy] at hc hmiss hstp
    have Hm := Lib.hid hmiss; have Hs := Lib.hid hstp
    have H := Lib.hid (r11In_any B b cb y w (by omega) hb)
    clear hmiss hstp hy
    go_wp2_with fail
    refine H.out.mono ?_
    rintro e w1 ⟨rfl, rfl⟩
    cases hp : inB b y
    · have Hp := Lib.hid hp; clear hp
      go_wp2_with fail
      go_ret
      exact ⟨rb (by rw [← HR.out]; unfold withinB; rw [Hm.out Hp.out, Bool.and_false]), rfl⟩
    · have Hp := Lib.hid hp; clear hp
      go_wp2_with fail
      go_round
      case rel => exact ⟨k + 1, by omega, by go_num, Hs.out Hp.out⟩
      case measure => simp [intOf]; omega
end Go.Proofs.YtajocnhebfpjaaaDoor
