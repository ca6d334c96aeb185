/- Package participant: valid, scripted (of a player without a script); network.Ascending. -/
import Derived.Test.YthkknlnfdckdfaaPt6
import Derived.Test.YthkknlnfdckdfaaLb
namespace Go.Proofs.Ythkknlnfdckdfaa
open Go.ChangeShapes Go.WideShapes Go.ChangeAt Go.RowKit

/-- ascending nodes of a graph -/
def AscP (n : Nat) (l : List Int) : Prop := ∀ i, i < l.length → 0 ≤ l.getD i 0 ∧ l.getD i 0 < n ∧ (0 < i → l.getD (i - 1) 0 < l.getD i 0)
theorem RI.c_ {w : World} {b o : Nat} {l : List Int} (h : RI w (some ⟨b, o, none⟩) l) {k : Nat} (hk : k < l.length) : w.cell? ⟨b, o + k, none⟩ = some (.int .i64 (l.getD k 0)) := by
  obtain ⟨b', o', hA, hc⟩ := h k hk
  injection hA with hA; injection hA with e1 e2 _
  subst e1 e2
  exact hc
set_option maxRecDepth 100000 in
set_option maxHeartbeats 1000000 in
theorem asc_any (A : Option Addr) (l : List Int) (c n : Nat) (w : World) (hr : RI w A l) (hl : l.length ≤ 100000) (ha : AscP n l) :
    Calls Try.prog 42 #[.slice A l.length c, .int .i64 (n : Int)] w (Ret (.bool true) w) := by
  have Ha := Lib.hid ha
  clear ha
  go_enter Try.func42, Try.ntmps42
  go_wp2_with fail
  go_loop [9] (fun t => ∃ k : Nat, k ≤ l.length ∧ t = .int .i64 k) (fun t => l.length - (intOf t).toNat)
  case atStart => exact ⟨0, Nat.zero_le _, rfl⟩
  case round =>
    obtain ⟨k, hk, rfl⟩ := hrel
    by_cases hlt : k < l.length
    case neg =>
      go_wp2_with fail
      go_ret
      exact ⟨rfl, rfl⟩
    case pos =>
    obtain ⟨h1, h2, h3⟩ := Ha.out k hlt
    have hk0 : (0 : Int) ≤ (k : Int) := by omega
    have hk1 : (k : Int) < (l.length : Int) := by omega
    obtain ⟨b, o, rfl, e0⟩ := hr k hlt
    have d1 : decide (l.getD k 0 < 0) = false := decide_eq_false (by omega)
    have d2 : decide ((n : Int) ≤ l.getD k 0) = false := decide_eq_false (by omega)
    rcases Nat.eq_zero_or_pos k with h0 | h0
    · subst h0
      clear h3
      rw [Nat.add_zero] at e0
      generalize l.getD 0 0 = x at *
      go_wp2_with fail
      go_round
      case rel => exact ⟨1, by omega, by go_num⟩
      case measure => simp [intOf]; omega
    · have e1 := hr.c_ (k := k - 1) (by omega)
      have hw : IntKind.i64.wrap ((k : Int) - 1) = ((k - 1 : Nat) : Int) := by rw [IntKind.wrap_i64]; omega
      have hk2 : (0 : Int) ≤ ((k - 1 : Nat) : Int) := by omega
      have hk3 : ((k - 1 : Nat) : Int) < (l.length : Int) := by omega
      have d3 : decide ((0 : Int) < (k : Int)) = true := decide_eq_true (by omega)
      have d4 : decide (l.getD k 0 ≤ l.getD (k - 1) 0) = false := decide_eq_false (by have := h3 h0; omega)
      clear h3
      generalize l.getD k 0 = x at *
      generalize l.getD (k - 1) 0 = y at *
      go_wp2_with fail
      go_round
      case rel => exact ⟨k + 1, by omega, by go_num⟩
      case measure => simp [intOf]; omega
set_option maxRecDepth 100000 in
set_option maxHeartbeats 1000000 in
theorem pvalid_any (n : Nat) (A : Option Addr) (k c : Nat) (root l0 l1 : Int) (M : Option Addr) (km cm : Nat) (P : Option Addr) (pool : List Int) (pc : Nat) (sty : Int) (w : World) (hp : RI w P pool) (hpl : pool.length ≤ 100000) (ha : AscP n pool) (h1 : 1 ≤ sty) (h3 : sty ≤ 3) :
    Calls Try.prog 27 #[.agg #[.int .i64 (n : Int), .slice A k c, .int .i64 root, .int .i64 l0, .int .i64 l1, .slice M km cm], .agg #[.slice P pool.length pc, .slice none 0 0, .slice none 0 0, .int .i64 sty]] w (RetB (.int .i64 0) w) := by
  go_enter Try.func27, Try.ntmps27
  go_upto_region 1 with fail
  obtain ⟨W0, hW, k0, k1, hb0, hs0⟩ := boxed2A w 34 41 #[.int .i64 (n : Int), .slice A k c, .int .i64 root, .int .i64 l0, .int .i64 l1, .slice M km cm] #[.slice P pool.length pc, .slice none 0 0, .slice none 0 0, .int .i64 sty]
  rw [hW]
  obtain ⟨z0, z1, z2, z3, z4, z5⟩ := dgC k0
  obtain ⟨y0, y1, y2, y3, _, _, _, _⟩ := mvC k1
  have hp0 := hp.below hb0
  have d1 : decide (sty < 1) = false := decide_eq_false (by omega)
  have d2 : decide (3 < sty) = false := decide_eq_false (by omega)
  have Hb0 := Lib.hid hb0
  clear hW k0 k1 hb0 hs0 hp
  go_wp2_with fail
  refine (asc_any P pool pc n W0 hp0 hpl ha).mono ?_
  rintro e w1 ⟨rfl, rfl⟩
  go_wp2_with fail
  refine (asc_any none [] 0 n W0 (RI.nil _ _) (by simp) (fun i hi => absurd hi (by simp))).mono ?_
  rintro e w1 ⟨rfl, rfl⟩
  go_wp2_with fail
  go_ret
  exact ⟨rfl, Hb0.out⟩
set_option maxRecDepth 100000 in
set_option maxHeartbeats 2000000 in
theorem scripted_any (n : Nat) (A : Option Addr) (l : List (Int × Int)) (c : Nat) (root l0 l1 : Int) (M : Option Addr) (ms : List Mv) (cm : Nat) (P : Option Addr) (kp pc : Nat) (sty : Int) (T : Option Addr) (kt ct : Nat) (w : World) (hp : RP w A l) (hr : RM w M ms) (hm : OkM ms) (hl : ms.length ≤ 300) (hll : l.length ≤ 1600) :
    Calls Try.prog 49 #[.agg #[.int .i64 (n : Int), .slice A l.length c, .int .i64 root, .int .i64 l0, .int .i64 l1, .slice M ms.length cm], .agg #[.slice P kp pc, .slice none 0 0, .slice none 0 0, .int .i64 sty], .slice T kt ct] w (RetB (.tuple #[.agg #[.int .i64 0, .int .i64 0, .int .i64 0, .int .i64 0], .bool false]) w) := by
  have HM := Lib.hid hm
  clear hm
  go_enter Try.func49, Try.ntmps49
  go_upto_region 1 with fail
  obtain ⟨W0, hW, k0, k1, k2, hb0, hs0⟩ := boxed3A w 34 41 46 #[.int .i64 (n : Int), .slice A l.length c, .int .i64 root, .int .i64 l0, .int .i64 l1, .slice M ms.length cm] #[.slice P kp pc, .slice none 0 0, .slice none 0 0, .int .i64 sty] #[.int .i64 0, .int .i64 0, .int .i64 0, .int .i64 0]
  rw [hW]
  obtain ⟨z0, z1, z2, z3, z4, z5⟩ := dgC k0
  have hp0 := hp.below hb0; have hr0 := hr.below hb0
  clear hW hp hr
  go_wp2_with fail
  refine (turn_any n A l c root l0 l1 M ms cm W0 hp0 hr0 HM.out hl hll).mono ?_
  rintro e w1 ⟨rfl, hb1⟩
  generalize turnF l0 l1 l ms = tn
  have hr1 := hr0.below hb1
  have k0' := k0.below hb1 (by omega); have k1' := k1.below hb1 (by omega); have k2' := k2.below hb1 (by omega)
  have hg0 := k0'.lt; have hg1 := k1'.lt; have hg2 := k2'.lt
  have y5 : w1.cell? ⟨w.heap.size, 5, none⟩ = some (.slice M ms.length cm) := k0'.cell 5
  have y2 : w1.cell? ⟨w.heap.size + 1, 2, none⟩ = some (.slice none 0 0) := k1'.cell 2
  have Hk2 := Lib.hid k2'
  have Hb1 := Lib.hid (hb0.trans (hb1.mono hb0.size))
  have Hr1 := Lib.hid hr1
  clear k0 k1 k2 hb0 hs0 hp0 hr0 hb1 z0 z1 z2 z3 z4 z5 k0' k1' k2' hr1
  go_wp2_with fail
  go_loopw [9, 20] (fun s t wr => ∃ j k : Nat, j ≤ ms.length ∧ k ≤ j ∧ t = .int .i64 j ∧ s = .int .i64 k ∧ Below w1.heap.size w1 wr) (fun _ t _ => ms.length - (intOf t).toNat)
  case atStart => exact ⟨0, 0, Nat.zero_le _, Nat.le_refl _, rfl, rfl, Below.refl _ _⟩
  case round =>
    obtain ⟨j, k, hj, hkj, rfl, rfl, hbl⟩ := hrel
    by_cases hlt : j < ms.length
    case neg =>
      have hkt := Hk2.out.below hbl hg2
      obtain ⟨q0, q1, q2, q3, f0, f1, f2, f3⟩ := mvC hkt
      have x2 := (hbl.cell (lt_of_cell y2)).trans y2
      have hk0 : (0 : Int) ≤ (k : Int) := by omega
      have d1 : decide ((0 : Int) ≤ (k : Int)) = true := decide_eq_true hk0
      have Hkt := Lib.hid hkt; have Hbl := Lib.hid hbl
      clear hkt hbl
      go_wp2_with fail
      have hk4 := set4 Hkt.out (.int .i64 0) (.int .i64 0) (.int .i64 0) (.int .i64 0)
      obtain ⟨r0, r1, r2, r3, _, _, _, _⟩ := mvC hk4
      refine bodyPost_ret (v := .tuple #[.agg #[.int .i64 0, .int .i64 0, .int .i64 0, .int .i64 0], .bool false]) (by simp [results, Try.results49, go_sem, r0, r1, r2, r3]) rfl ?_
      exact ⟨rfl, below_set4 (Hb1.out.trans (Hbl.out.mono Hb1.out.size)) (by omega) _ _ _ _⟩
    case pos =>
    have hjl : (j : Int) < (ms.length : Int) := by omega
    obtain ⟨b, o, rfl, e0, e1, e2, e3⟩ := (Hr1.out.below hbl) j hlt
    have hbs := hbl.size
    cases ha : ((mv ms j).1 == tn)
    · go_wp2_with fail
      go_roundw
      case rel => exact ⟨j + 1, k, by omega, by omega, by go_num, rfl, hbl.alloc hbs _⟩
      case measure => simp [intOf]; omega
    · cases hc : ((mv ms j).2.1 != 1)
      · go_wp2_with fail
        go_roundw
        case rel => exact ⟨j + 1, k, by omega, by omega, by go_num, rfl, hbl.alloc hbs _⟩
        case measure => simp [intOf]; omega
      · go_wp2_with fail
        go_roundw
        case rel => exact ⟨j + 1, k + 1, by omega, by omega, by go_num, by go_num, hbl.alloc hbs _⟩
        case measure => simp [intOf]; omega
end Go.Proofs.Ythkknlnfdckdfaa
