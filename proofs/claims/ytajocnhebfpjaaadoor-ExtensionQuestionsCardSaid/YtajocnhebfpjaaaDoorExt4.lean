/- Package extension: Some, All. -/
import Derived.Test.YtajocnhebfpjaaaDoorExt3
namespace Go.Proofs.YtajocnhebfpjaaaDoor
open Go.ChangeShapes Go.WideShapes Go.ChangeAt Go.RowKit


set_option maxRecDepth 100000 in
set_option maxHeartbeats 1000000 in
theorem some1_any (g : Nat) (A : Option Addr) (x : List Int) (c : Nat) (i : Int) (w : World) (hr : RI w A x) (hl : x.length ≤ 100000) (c1 : w.cell? ⟨g, 0, none⟩ = some (.int .i64 i)) :
    Calls Tryd.prog 82 #[.slice A x.length c, .pointer (some ⟨g, 0, none⟩)] w (Ret (.bool (atB x i)) w) := by
  have H := Lib.hid (xIn_any A x c i w hr hl)
  go_enter Tryd.func82, Tryd.ntmps82
  go_wp2_with fail
  refine H.out.mono ?_
  rintro e w1 ⟨rfl, rfl⟩
  go_wp2_with fail
  go_ret
  exact ⟨rfl, rfl⟩
set_option maxRecDepth 100000 in
set_option maxHeartbeats 2000000 in
theorem idxSome_any (g : Nat) (A : Option Addr) (L : List (List Int)) (ca : Nat) (i : Int) (w : World) (hL : RS w A L) (hlL : L.length ≤ 100000) (hll : ∀ x ∈ L, x.length ≤ 1000) (c1 : w.cell? ⟨g, 0, none⟩ = some (.int .i64 i)) :
    Calls Tryd.prog 115 #[.slice A L.length ca, .func (.func 82) #[] #[.pointer (some ⟨g, 0, none⟩)]] w (RetIx (L.any fun x => atB x i) w) := by
  have Hll := Lib.hid hll
  clear hll
  go_enter Tryd.func115, Tryd.ntmps115
  go_wp2_with fail
  go_loopw [8] (fun j wr => ∃ k : Nat, k ≤ L.length ∧ j = .int .i64 k ∧ (L.take k).any (fun x => atB x i) = false ∧ Below w.heap.size w wr) (fun j _ => L.length - (intOf j).toNat)
  case atStart => exact ⟨0, Nat.zero_le _, rfl, by simp, Below.refl _ _⟩
  case round =>
    obtain ⟨k, hk, rfl, hi, hbl⟩ := hrel
    have Hi := Lib.hid hi; clear hi
    by_cases hlt : k < L.length
    case neg =>
      have hall : (L.any fun x => atB x i) = false := by have := Hi.out; rwa [List.take_of_length_le (by omega)] at this
      have Hall := Lib.hid hall
      clear hall
      go_wp2_with fail
      go_ret
      exact ⟨_, rfl, by rw [Hall.out]; rfl, hbl⟩
    case pos =>
    have hlt' : (k : Int) < (L.length : Int) := by omega
    obtain ⟨b, o, AX, cx, hA, hcell, hri⟩ := (hL.below hbl).at_ hlt
    subst hA
    have hstp := any_stepX (fun x => atB x i) L hlt
    rw [Hi.out, Bool.false_or] at hstp
    have hlx := Hll.out _ (List.getElem_mem hlt)
    have hany : ∀ x, L[k] = x → (atB x i) = true → (L.any fun x => atB x i) = true := fun x e h => List.any_eq_true.2 ⟨x, e ▸ List.getElem_mem hlt, h⟩
    obtain ⟨x, hx⟩ : ∃ x, L[k] = x := ⟨_, rfl⟩
    rw [hx] at hcell hri hlx hstp
    have Hstp := Lib.hid hstp; have Hany := Lib.hid (hany x hx)
    have hb := some1_any g AX x cx i wr hri (by omega) ((hbl.cell (lt_of_cell c1)).trans c1)
    have Hb := Lib.hid hb
    clear hstp hany hx hb
    go_wp2_with fail
    refine Hb.out.mono ?_
    rintro e w1 ⟨rfl, rfl⟩
    cases hp : (atB x i)
    · have Hp := Lib.hid hp; clear hp
      go_wp2_with fail
      go_roundw
      case rel => exact ⟨k + 1, by omega, by go_num, by rw [Hstp.out]; exact Hp.out, hbl⟩
      case measure => simp [intOf]; omega
    · have Hp := Lib.hid (Hany.out hp); clear hp
      go_wp2_with fail
      go_ret
      exact ⟨_, rfl, by rw [Hp.out]; simp, hbl⟩
set_option maxRecDepth 100000 in
set_option maxHeartbeats 2000000 in
theorem conSome_any (g : Nat) (A : Option Addr) (L : List (List Int)) (ca : Nat) (i : Int) (w : World) (hL : RS w A L) (hlL : L.length ≤ 100000) (hll : ∀ x ∈ L, x.length ≤ 1000) (c1 : w.cell? ⟨g, 0, none⟩ = some (.int .i64 i)) :
    Calls Tryd.prog 81 #[.slice A L.length ca, .func (.func 82) #[] #[.pointer (some ⟨g, 0, none⟩)]] w (RetB (.bool (L.any fun x => atB x i)) w) := by
  have H := Lib.hid (idxSome_any g A L ca i w hL hlL hll c1)
  go_enter Tryd.func81, Tryd.ntmps81
  go_wp2_with fail
  refine H.out.mono ?_
  rintro e w1 ⟨j, rfl, hi, hb⟩
  have Hi := Lib.hid hi
  clear hi
  obtain ⟨r, hr⟩ : ∃ r, decide (0 ≤ j) = r := ⟨_, rfl⟩
  cases r
  all_goals
    have Hr := Lib.hid hr
    go_wp2_with fail
    go_ret
    exact ⟨rb (by rw [← Hi.out, Hr.out]), hb⟩
set_option maxRecDepth 100000 in
set_option maxHeartbeats 1000000 in
theorem xSome_any (A : Option Addr) (L : List (List Int)) (ca : Nat) (i : Int) (w : World) (hL : RS w A L) (hlL : L.length ≤ 100000) (hll : ∀ x ∈ L, x.length ≤ 1000) :
    Calls Tryd.prog 47 #[.slice A L.length ca, .int .i64 i] w (RetB (.bool (L.any fun x => atB x i)) w) := by
  have hmf : ∀ fn first cap w, (Instr.makeFunc fn first cap).run Tryd.prog w = .ok (.func fn first cap) w := fun _ _ _ _ => rfl
  go_enter Tryd.func47, Tryd.ntmps47
  go_upto_region 1 with fail
  obtain ⟨W0, hW, c0, hb0⟩ := boxed1 w 3 (.int .i64 i)
  rw [hW]
  clear hW
  have hc := conSome_any w.heap.size A L ca i W0 (hL.below hb0) hlL hll c0
  have Hc := Lib.hid hc
  clear hc hll
  go_wp2_with fail
  refine Hc.out.mono ?_
  rintro e w1 ⟨rfl, hb1⟩
  obtain ⟨r, hr⟩ : ∃ r, (L.any fun x => atB x i) = r := ⟨_, rfl⟩
  rw [hr]
  have Hr := Lib.hid hr
  clear hr
  go_wp2_with fail
  go_ret
  exact ⟨rb (by rw [Hr.out]), endB hb0 hb1⟩

set_option maxRecDepth 100000 in
set_option maxHeartbeats 1000000 in
theorem all1_any (g : Nat) (A : Option Addr) (x : List Int) (c : Nat) (i : Int) (w : World) (hr : RI w A x) (hl : x.length ≤ 100000) (c1 : w.cell? ⟨g, 0, none⟩ = some (.int .i64 i)) :
    Calls Tryd.prog 85 #[.slice A x.length c, .pointer (some ⟨g, 0, none⟩)] w (Ret (.bool (!atB x i)) w) := by
  have H := Lib.hid (xIn_any A x c i w hr hl)
  go_enter Tryd.func85, Tryd.ntmps85
  go_wp2_with fail
  refine H.out.mono ?_
  rintro e w1 ⟨rfl, rfl⟩
  go_wp2_with fail
  go_ret
  exact ⟨rfl, rfl⟩
set_option maxRecDepth 100000 in
set_option maxHeartbeats 2000000 in
theorem idxAll_any (g : Nat) (A : Option Addr) (L : List (List Int)) (ca : Nat) (i : Int) (w : World) (hL : RS w A L) (hlL : L.length ≤ 100000) (hll : ∀ x ∈ L, x.length ≤ 1000) (c1 : w.cell? ⟨g, 0, none⟩ = some (.int .i64 i)) :
    Calls Tryd.prog 115 #[.slice A L.length ca, .func (.func 85) #[] #[.pointer (some ⟨g, 0, none⟩)]] w (RetIx (L.any fun x => !atB x i) w) := by
  have Hll := Lib.hid hll
  clear hll
  go_enter Tryd.func115, Tryd.ntmps115
  go_wp2_with fail
  go_loopw [8] (fun j wr => ∃ k : Nat, k ≤ L.length ∧ j = .int .i64 k ∧ (L.take k).any (fun x => !atB x i) = false ∧ Below w.heap.size w wr) (fun j _ => L.length - (intOf j).toNat)
  case atStart => exact ⟨0, Nat.zero_le _, rfl, by simp, Below.refl _ _⟩
  case round =>
    obtain ⟨k, hk, rfl, hi, hbl⟩ := hrel
    have Hi := Lib.hid hi; clear hi
    by_cases hlt : k < L.length
    case neg =>
      have hall : (L.any fun x => !atB x i) = false := by have := Hi.out; rwa [List.take_of_length_le (by omega)] at this
      have Hall := Lib.hid hall
      clear hall
      go_wp2_with fail
      go_ret
      exact ⟨_, rfl, by rw [Hall.out]; rfl, hbl⟩
    case pos =>
    have hlt' : (k : Int) < (L.length : Int) := by omega
    obtain ⟨b, o, AX, cx, hA, hcell, hri⟩ := (hL.below hbl).at_ hlt
    subst hA
    have hstp := any_stepX (fun x => !atB x i) L hlt
    rw [Hi.out, Bool.false_or] at hstp
    have hlx := Hll.out _ (List.getElem_mem hlt)
    have hany : ∀ x, L[k] = x → (!atB x i) = true → (L.any fun x => !atB x i) = true := fun x e h => List.any_eq_true.2 ⟨x, e ▸ List.getElem_mem hlt, h⟩
    obtain ⟨x, hx⟩ : ∃ x, L[k] = x := ⟨_, rfl⟩
    rw [hx] at hcell hri hlx hstp
    have Hstp := Lib.hid hstp; have Hany := Lib.hid (hany x hx)
    have hb := all1_any g AX x cx i wr hri (by omega) ((hbl.cell (lt_of_cell c1)).trans c1)
    have Hb := Lib.hid hb
    clear hstp hany hx hb
    go_wp2_with fail
    refine Hb.out.mono ?_
    rintro e w1 ⟨rfl, rfl⟩
    cases hp : (!atB x i)
    · have Hp := Lib.hid hp; clear hp
      go_wp2_with fail
      go_roundw
      case rel => exact ⟨k + 1, by omega, by go_num, by rw [Hstp.out]; exact Hp.out, hbl⟩
      case measure => simp [intOf]; omega
    · have Hp := Lib.hid (Hany.out hp); clear hp
      go_wp2_with fail
      go_ret
      exact ⟨_, rfl, by rw [Hp.out]; simp, hbl⟩
set_option maxRecDepth 100000 in
set_option maxHeartbeats 2000000 in
theorem conAll_any (g : Nat) (A : Option Addr) (L : List (List Int)) (ca : Nat) (i : Int) (w : World) (hL : RS w A L) (hlL : L.length ≤ 100000) (hll : ∀ x ∈ L, x.length ≤ 1000) (c1 : w.cell? ⟨g, 0, none⟩ = some (.int .i64 i)) :
    Calls Tryd.prog 81 #[.slice A L.length ca, .func (.func 85) #[] #[.pointer (some ⟨g, 0, none⟩)]] w (RetB (.bool (L.any fun x => !atB x i)) w) := by
  have H := Lib.hid (idxAll_any g A L ca i w hL hlL hll c1)
  go_enter Tryd.func81, Tryd.ntmps81
  go_wp2_with fail
  refine H.out.mono ?_
  rintro e w1 ⟨j, rfl, hi, hb⟩
  have Hi := Lib.hid hi
  clear hi
  obtain ⟨r, hr⟩ : ∃ r, decide (0 ≤ j) = r := ⟨_, rfl⟩
  cases r
  all_goals
    have Hr := Lib.hid hr
    go_wp2_with fail
    go_ret
    exact ⟨rb (by rw [← Hi.out, Hr.out]), hb⟩
set_option maxRecDepth 100000 in
set_option maxHeartbeats 1000000 in
theorem xAll_any (A : Option Addr) (L : List (List Int)) (ca : Nat) (i : Int) (w : World) (hL : RS w A L) (hlL : L.length ≤ 100000) (hll : ∀ x ∈ L, x.length ≤ 1000) :
    Calls Tryd.prog 49 #[.slice A L.length ca, .int .i64 i] w (RetB (.bool (L.all fun x => atB x i)) w) := by
  have hmf : ∀ fn first cap w, (Instr.makeFunc fn first cap).run Tryd.prog w = .ok (.func fn first cap) w := fun _ _ _ _ => rfl
  have hres : (!(L.any fun x => !atB x i)) = (L.all fun x => atB x i) := by rw [List.not_any_eq_all_not]; simp
  have Hres := Lib.hid hres
  clear hres
  go_enter Tryd.func49, Tryd.ntmps49
  go_upto_region 1 with fail
  obtain ⟨W0, hW, c0, hb0⟩ := boxed1 w 3 (.int .i64 i)
  rw [hW]
  clear hW
  have hc := conAll_any w.heap.size A L ca i W0 (hL.below hb0) hlL hll c0
  have Hc := Lib.hid hc
  clear hc hll
  go_wp2_with fail
  refine Hc.out.mono ?_
  rintro e w1 ⟨rfl, hb1⟩
  obtain ⟨r, hr⟩ : ∃ r, (L.any fun x => !atB x i) = r := ⟨_, rfl⟩
  rw [hr]
  have Hr := Lib.hid hr
  clear hr
  go_wp2_with fail
  go_ret
  exact ⟨rb (by rw [← Hres.out, Hr.out]), endB hb0 hb1⟩
end Go.Proofs.YtajocnhebfpjaaaDoor
