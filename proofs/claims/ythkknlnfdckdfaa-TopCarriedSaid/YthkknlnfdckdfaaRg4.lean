/- Package referee: framed, Agree, Same at transcripts that agree; slices.Equal of equal lists. -/
import Derived.Test.YthkknlnfdckdfaaRg3
import Derived.Test.YthkknlnfdckdfaaCaP
import Derived.ChangeKeysEq
namespace Go.Proofs.Ythkknlnfdckdfaa
open Go.ChangeShapes Go.WideShapes Go.ChangeAt Go.RowKit

theorem run_neqP2 (f t x y : Int) (w : World) : (binOp .neq 73 (.agg #[.int .i64 f, .int .i64 t]) (.agg #[.int .i64 x, .int .i64 y])).run Try.prog w = .ok (.bool (!(f == x && t == y))) w := by
  have u2 := Try.underlying73
  have u3 := Try.underlying3
  have a3 := Try.isAgg3
  have z3 := Try.sizeOf3
  have hp : Try.prog.stoodInHeld 73 = false := by kernel_rfl
  have hu : Try.prog.underlying 73 = some (.struct (Try.prog.fieldsOf 73)) := by kernel_rfl
  rw [run_neq_struct, show (10000 : Nat) = 9999 + 1 from rfl, run_equalIn_agg w 9999 73 _ _ hu hp]
  simp only [Program.fieldsOf, u2]
  go_simp
  by_cases h1 : f = x <;> by_cases h2 : t = y <;> simp [h1, h2]
theorem run_gdP2 (op : BinOp) (X Y : Operand) (xs ys : Array Value) (w : World) : (eqGuard op 73 X Y (.agg xs) (.agg ys)).run Try.prog w = .ok () w :=
  run_eqGuard_agg w op 73 X Y xs ys (by kernel_rfl)
theorem run_gdM2 (op : BinOp) (X Y : Operand) (xs ys : Array Value) (w : World) : (eqGuard op 46 X Y (.agg xs) (.agg ys)).run Try.prog w = .ok () w :=
  run_eqGuard_agg w op 46 X Y xs ys (by kernel_rfl)
set_option maxRecDepth 100000 in
set_option maxHeartbeats 2000000 in
theorem equalP_same (A B : Option Addr) (l : List (Int × Int)) (c d : Nat) (w : World) (hl : RP w A l) (hm : RP w B l) (hll : l.length ≤ 100000) :
    Calls Try.prog 55 #[.slice A l.length c, .slice B l.length d] w (RetB (.bool true) w) := by
  have hd : ((l.length : Int) != (l.length : Int)) = false := by simp
  go_enter Try.func55, Try.ntmps55
  go_wp2_with fail
  clear hd
  go_loopw [13] (fun t wr => ∃ (k : Nat), k ≤ l.length ∧ t = .int .i64 k ∧ Below w.heap.size w wr) (fun t _ => l.length - (intOf t).toNat)
  case atStart => exact ⟨0, Nat.zero_le _, rfl, Below.refl _ _⟩
  case round =>
    obtain ⟨k, hk, rfl, hbl⟩ := hrel
    by_cases hlt : k < l.length
    case neg =>
      go_wp2_with fail
      go_ret
      exact ⟨rfl, hbl⟩
    case pos =>
    obtain ⟨b, o, rfl, hc0, hc1⟩ := (hl.below hbl).at_ hlt
    obtain ⟨b', o', rfl, hc0', hc1'⟩ := (hm.below hbl).at_ hlt
    have hgd := run_gdP2
    have hlt' : (k : Int) < (l.length : Int) := by omega
    generalize l[k] = p1 at *
    obtain ⟨x, y⟩ := p1
    have heq := run_neqP2 x y x y
    have hd : (!(x == x && y == y)) = false := by simp
    rw [hd] at heq
    clear hd
    go_wp2_with fail
    go_quiet (fail)
    clear heq hgd
    go_wp2_with fail
    go_roundw
    case rel => exact ⟨k + 1, by omega, by go_num, below_drewN hbl nq⟩
    case measure => simp [intOf]; omega
set_option maxRecDepth 100000 in
set_option maxHeartbeats 2000000 in
theorem equalM_same (A B : Option Addr) (l : List Mv) (c d : Nat) (w : World) (hl : RM w A l) (hm : RM w B l) (hll : l.length ≤ 100000) :
    Calls Try.prog 40 #[.slice A l.length c, .slice B l.length d] w (RetB (.bool true) w) := by
  have hd : ((l.length : Int) != (l.length : Int)) = false := by simp
  go_enter Try.func40, Try.ntmps40
  go_wp2_with fail
  clear hd
  go_loopw [13] (fun t wr => ∃ (k : Nat), k ≤ l.length ∧ t = .int .i64 k ∧ Below w.heap.size w wr) (fun t _ => l.length - (intOf t).toNat)
  case atStart => exact ⟨0, Nat.zero_le _, rfl, Below.refl _ _⟩
  case round =>
    obtain ⟨k, hk, rfl, hbl⟩ := hrel
    by_cases hlt : k < l.length
    case neg =>
      go_wp2_with fail
      go_ret
      exact ⟨rfl, hbl⟩
    case pos =>
    obtain ⟨b, o, rfl, hc0, hc1, hc2, hc3⟩ := (hl.below hbl) k hlt
    obtain ⟨b', o', rfl, hc0', hc1', hc2', hc3'⟩ := (hm.below hbl) k hlt
    have hgd := run_gdM2
    have hlt' : (k : Int) < (l.length : Int) := by omega
    generalize mv l k = p1 at *
    obtain ⟨x, y, z, v⟩ := p1
    have heq := run_neqM x y z v x y z v
    have hd : (!(x == x && (y == y && (z == z && v == v)))) = false := by simp
    rw [hd] at heq
    clear hd
    go_wp2_with fail
    go_quiet (fail)
    clear heq hgd
    go_wp2_with fail
    go_roundw
    case rel => exact ⟨k + 1, by omega, by go_num, below_drewN hbl nq⟩
    case measure => simp [intOf]; omega
theorem run_eqlL (a b : Int) (w : World) : (binOp .eql 31 (.agg #[.int .i64 a, .int .i64 b]) (.agg #[.int .i64 a, .int .i64 b])).run Try.prog w = .ok (.bool true) w := by
  have u3 := Try.underlying3
  have a3 := Try.isAgg3
  have z3 := Try.sizeOf3
  obtain ⟨i0, hi, hz0, hz1, hz2⟩ := info_parts info_int
  have hu : Try.prog.underlying 31 = some (.array 2 3) := by kernel_rfl
  have hc : Try.prog.cellsOf 3 = 1 := by kernel_rfl
  rw [run_eql_struct, show (10000 : Nat) = 9999 + 1 from rfl, run_equalIn_array w 9999 _ _ hu hi, hc]
  simp [List.range_succ, Op.eqItems]
  go_simp
theorem run_gdL (op : BinOp) (X Y : Operand) (xs ys : Array Value) (w : World) : (eqGuard op 31 X Y (.agg xs) (.agg ys)).run Try.prog w = .ok () w :=
  run_eqGuard_agg w op 31 X Y xs ys (by kernel_rfl)
set_option maxRecDepth 100000 in
set_option maxHeartbeats 2000000 in
theorem framed_any (n : Nat) (A B : Option Addr) (l : List (Int × Int)) (c d : Nat) (root l0 l1 : Int) (M M' : Option Addr) (ms ms' : List Mv) (cm cm' : Nat) (w : World) (hp : RP w A l) (hp' : RP w B l) (hll : l.length ≤ 1600) :
    Calls Try.prog 38 #[.agg #[.int .i64 (n : Int), .slice A l.length c, .int .i64 root, .int .i64 l0, .int .i64 l1, .slice M ms.length cm], .agg #[.int .i64 (n : Int), .slice B l.length d, .int .i64 root, .int .i64 l0, .int .i64 l1, .slice M' ms'.length cm']] w (RetB (.bool true) w) := by
  have hd0 : ((n : Int) == (n : Int)) = true := by simp
  have hd1 : (root == root) = true := by simp
  have heq := run_eqlL l0 l1
  have hgd := run_gdL
  go_enter Try.func38, Try.ntmps38
  go_upto_region 1 with fail
  obtain ⟨W0, hW, k0, k1, hb0, hs0⟩ := boxed2A w 43 43 #[.int .i64 (n : Int), .slice A l.length c, .int .i64 root, .int .i64 l0, .int .i64 l1, .slice M ms.length cm] #[.int .i64 (n : Int), .slice B l.length d, .int .i64 root, .int .i64 l0, .int .i64 l1, .slice M' ms'.length cm']
  rw [hW]
  obtain ⟨d0, d1, d2, d3, d4, d5⟩ := dgC k0
  obtain ⟨e0, e1, e2, e3, e4, e5⟩ := dgC k1
  have hp0 := hp.below hb0; have hp0' := hp'.below hb0
  clear hW hp hp'
  go_wp2_with fail
  refine (equalP_same A B l c d W0 hp0 hp0' (by omega)).mono ?_
  rintro e w1 ⟨rfl, hb1⟩
  obtain ⟨d0, d1, d2, d3, d4, d5⟩ := dgC (k0.below hb1 k0.lt)
  obtain ⟨e0, e1, e2, e3, e4, e5⟩ := dgC (k1.below hb1 k1.lt)
  clear hp0 hp0' k0 k1
  have Hb := Lib.hid (endB hb0 hb1)
  clear hb0 hb1
  go_wp2_with fail
  go_ret
  exact ⟨rfl, Hb.out⟩
set_option maxRecDepth 100000 in
set_option maxHeartbeats 2000000 in
theorem rSame_any (n : Nat) (A B : Option Addr) (l : List (Int × Int)) (c d : Nat) (root l0 l1 : Int) (M M' : Option Addr) (ms : List Mv) (cm cm' : Nat) (w : World) (hp : RP w A l) (hp' : RP w B l) (hll : l.length ≤ 1600) (hr : RM w M ms) (hr' : RM w M' ms) (hml : ms.length ≤ 1600) :
    Calls Try.prog 22 #[.agg #[.int .i64 (n : Int), .slice A l.length c, .int .i64 root, .int .i64 l0, .int .i64 l1, .slice M ms.length cm], .agg #[.int .i64 (n : Int), .slice B l.length d, .int .i64 root, .int .i64 l0, .int .i64 l1, .slice M' ms.length cm']] w (RetB (.bool true) w) := by
  go_enter Try.func22, Try.ntmps22
  go_upto_region 1 with fail
  obtain ⟨W0, hW, k0, k1, hb0, hs0⟩ := boxed2A w 43 43 #[.int .i64 (n : Int), .slice A l.length c, .int .i64 root, .int .i64 l0, .int .i64 l1, .slice M ms.length cm] #[.int .i64 (n : Int), .slice B l.length d, .int .i64 root, .int .i64 l0, .int .i64 l1, .slice M' ms.length cm']
  rw [hW]
  obtain ⟨d0, d1, d2, d3, d4, d5⟩ := dgC k0
  obtain ⟨e0, e1, e2, e3, e4, e5⟩ := dgC k1
  have hp0 := hp.below hb0; have hp0' := hp'.below hb0; have hr0 := hr.below hb0; have hr0' := hr'.below hb0
  clear hW hp hp' hr hr'
  go_wp2_with fail
  refine (framed_any n A B l c d root l0 l1 M M' ms ms cm cm' W0 hp0 hp0' hll).mono ?_
  rintro e w1 ⟨rfl, hb1⟩
  obtain ⟨d0, d1, d2, d3, d4, d5⟩ := dgC (k0.below hb1 k0.lt)
  obtain ⟨e0, e1, e2, e3, e4, e5⟩ := dgC (k1.below hb1 k1.lt)
  have hr1 := hr0.below hb1; have hr1' := hr0'.below hb1
  clear hp0 hp0' k0 k1 hr0 hr0'
  have hbb := endB hb0 hb1
  clear hb0 hb1
  go_wp2_with fail
  refine (equalM_same M M' ms cm cm' w1 hr1 hr1' (by omega)).mono ?_
  rintro e w2 ⟨rfl, hb2⟩
  have Hb := Lib.hid (endB hbb hb2)
  clear hbb hb2 hr1 hr1' d0 d1 d2 d3 d4 d5 e0 e1 e2 e3 e4 e5
  go_wp2_with fail
  go_ret
  exact ⟨rfl, Hb.out⟩
set_option maxRecDepth 100000 in
set_option maxHeartbeats 4000000 in
/-- the second transcript is a beginning of the first -/
theorem agree_any (n : Nat) (A B : Option Addr) (l : List (Int × Int)) (c d : Nat) (root l0 l1 : Int) (M M' : Option Addr) (ms ms' : List Mv) (cm cm' : Nat) (w : World) (hp : RP w A l) (hp' : RP w B l) (hll : l.length ≤ 1600) (hr : RM w M ms) (hr' : RM w M' ms') (hml : ms.length ≤ 1600) (hle : ms'.length ≤ ms.length) (hsm : ∀ k, k < ms'.length → mv ms' k = mv ms k) :
    Calls Try.prog 18 #[.agg #[.int .i64 (n : Int), .slice A l.length c, .int .i64 root, .int .i64 l0, .int .i64 l1, .slice M ms.length cm], .agg #[.int .i64 (n : Int), .slice B l.length d, .int .i64 root, .int .i64 l0, .int .i64 l1, .slice M' ms'.length cm']] w (RetB (.int .i64 (ms'.length : Int)) w) := by
  have Hsm := Lib.hid hsm
  clear hsm
  go_enter Try.func18, Try.ntmps18
  go_upto_region 1 with fail
  obtain ⟨W0, hW, k0, k1, hb0, hs0⟩ := boxed2A w 43 43 #[.int .i64 (n : Int), .slice A l.length c, .int .i64 root, .int .i64 l0, .int .i64 l1, .slice M ms.length cm] #[.int .i64 (n : Int), .slice B l.length d, .int .i64 root, .int .i64 l0, .int .i64 l1, .slice M' ms'.length cm']
  rw [hW]
  obtain ⟨d0, d1, d2, d3, d4, d5⟩ := dgC k0
  obtain ⟨e0, e1, e2, e3, e4, e5⟩ := dgC k1
  have hp0 := hp.below hb0; have hp0' := hp'.below hb0; have hr0 := hr.below hb0; have hr0' := hr'.below hb0
  clear hW hp hp' hr hr'
  go_wp2_with fail
  refine (framed_any n A B l c d root l0 l1 M M' ms ms' cm cm' W0 hp0 hp0' hll).mono ?_
  rintro e w1 ⟨rfl, hb1⟩
  have K0 := Lib.hid (k0.below hb1 k0.lt)
  have K1 := Lib.hid (k1.below hb1 k1.lt)
  have hr1 := hr0.below hb1; have hr1' := hr0'.below hb1
  clear hp0 hp0' k0 k1 hr0 hr0' d0 d1 d2 d3 d4 d5 e0 e1 e2 e3 e4 e5
  have Hbb := Lib.hid (endB hb0 hb1)
  clear hb0 hb1
  go_wp2_with fail
  go_loopw [5] (fun t wr => ∃ (k : Nat), k ≤ ms'.length ∧ t = .int .i64 k ∧ Below w1.heap.size w1 wr) (fun t _ => ms'.length - (intOf t).toNat)
  case atStart => exact ⟨0, Nat.zero_le _, rfl, Below.refl _ _⟩
  case round =>
    obtain ⟨k, hk, rfl, hbl⟩ := hrel
    obtain ⟨d0, d1, d2, d3, d4, d5⟩ := dgC (K0.out.below hbl K0.out.lt)
    obtain ⟨e0, e1, e2, e3, e4, e5⟩ := dgC (K1.out.below hbl K1.out.lt)
    have hk0 : (0 : Int) ≤ (k : Int) := by omega
    have hmi : (ms'.length : Int) ≤ (ms.length : Int) := by omega
    by_cases hlt : k < ms'.length
    case neg =>
      obtain rfl : k = ms'.length := by omega
      have hd : decide ((ms'.length : Int) < (ms'.length : Int)) = false := by simp
      have Hd := Lib.hid (endB Hbb.out hbl)
      by_cases hl2 : ms'.length < ms.length
      · have hd2 : decide ((ms'.length : Int) < (ms.length : Int)) = true := by simp; omega
        go_upto_region 4 with fail
        go_quiet (fail)
        go_wp2_with fail
        go_ret
        exact ⟨rfl, below_drewN Hd.out _⟩
      · have hd2 : decide ((ms'.length : Int) < (ms.length : Int)) = false := by simp; omega
        go_upto_region 4 with fail
        go_quiet (fail)
        go_wp2_with fail
        go_ret
        exact ⟨rfl, below_drewN Hd.out _⟩
    case pos =>
    obtain ⟨b, o, rfl, hc0, hc1, hc2, hc3⟩ := (hr1.below hbl) k (by omega)
    obtain ⟨b', o', rfl, hc0', hc1', hc2', hc3'⟩ := (hr1'.below hbl) k hlt
    rw [Hsm.out k hlt] at hc0' hc1' hc2' hc3'
    have hgd := run_gdM2
    have hlt' : (k : Int) < (ms'.length : Int) := by omega
    have hlt2 : (k : Int) < (ms.length : Int) := by omega
    have hd : decide ((k : Int) < (ms'.length : Int)) = true := by simp; omega
    have hd2 : decide ((k : Int) < (ms.length : Int)) = true := by simp; omega
    have hwi : IntKind.i64.wrap ((k : Int) + 1) = ((k + 1 : Nat) : Int) := by rw [IntKind.wrap_i64]; omega
    generalize mv ms k = p1 at *
    obtain ⟨x, y, z, v⟩ := p1
    simp only at hc0 hc1 hc2 hc3 hc0' hc1' hc2' hc3'
    have heq := run_eqlM x y z v x y z v
    have hd3 : (x == x && (y == y && (z == z && v == v))) = true := by simp
    rw [hd3] at heq
    clear hd3 hr1 hr1'
    go_upto_region 4 with fail
    go_quiet (fail)
    clear heq hgd
    go_wp2_with fail
    go_roundw
    case rel => exact ⟨k + 1, by omega, by go_num, below_drewN hbl nq⟩
    case measure => simp [intOf]; omega

/-! Moves as numbers. -/
set_option maxHeartbeats 2000000 in
theorem code_any (m : Mv) (w : World) (h : SmM m) : Calls Try.prog 12 #[.agg #[.int .i64 m.1, .int .i64 m.2.1, .int .i64 m.2.2.1, .int .i64 m.2.2.2]] w (RetB (.int .i64 (codeM m)) w) := by
  obtain ⟨a, b, c, d⟩ := m
  unfold SmM at h
  simp only at h
  have hw1 : IntKind.i64.wrap (a * 8) = a * 8 := by rw [IntKind.wrap_i64]; omega
  have hw2 : IntKind.i64.wrap (a * 8 + b) = a * 8 + b := by rw [IntKind.wrap_i64]; omega
  have hw3 : IntKind.i64.wrap ((a * 8 + b) * 1024) = (a * 8 + b) * 1024 := by rw [IntKind.wrap_i64]; omega
  have hw4 : IntKind.i64.wrap ((a * 8 + b) * 1024 + c) = (a * 8 + b) * 1024 + c := by rw [IntKind.wrap_i64]; omega
  have hw5 : IntKind.i64.wrap (((a * 8 + b) * 1024 + c) * 1024) = ((a * 8 + b) * 1024 + c) * 1024 := by rw [IntKind.wrap_i64]; omega
  have hw6 : IntKind.i64.wrap (((a * 8 + b) * 1024 + c) * 1024 + d) = ((a * 8 + b) * 1024 + c) * 1024 + d := by rw [IntKind.wrap_i64]; omega
  clear h
  go_enter Try.func12, Try.ntmps12
  go_upto_region 1 with fail
  obtain ⟨W0, hW, k0, hb0, hs0⟩ := boxedA w 46 #[.int .i64 a, .int .i64 b, .int .i64 c, .int .i64 d]
  rw [hW]
  obtain ⟨u0, u1, u2, u3, _, _, _, _⟩ := mvC k0
  clear hW k0
  go_wp2_with fail
  go_ret
  exact ⟨rfl, hb0⟩
theorem two63' : (2 : Int) ^ 63 = 9223372036854775808 := by decide
theorem maskI (k : Nat) (hk : k ≤ 30) (x : Int) (h0 : 0 ≤ x) (h1 : x < 1000000000000) : bits BinOp.and IntKind.i64 x (2 ^ k - 1) = x % 2 ^ k :=
  bits_mask .i64 63 (by decide) (fun n h0 h1 => by rw [two63'] at h1; rw [IntKind.wrap_i64]; omega) k (by omega) x h0 (by rw [two63']; omega)
set_option maxHeartbeats 2000000 in
theorem move_any (x : Int) (w : World) (h0 : 0 ≤ x) (h1 : x < 33554432) : Calls Try.prog 16 #[.int .i64 x] w (RetB (.agg #[.int .i64 (moveM x).1, .int .i64 (moveM x).2.1, .int .i64 (moveM x).2.2.1, .int .i64 (moveM x).2.2.2]) w) := by
  unfold moveM
  simp only
  have hm1 : bits BinOp.and IntKind.i64 (x / 1048576) 7 = x / 1048576 % 8 := maskI 3 (by omega) _ (by omega) (by omega)
  have hm2 : bits BinOp.and IntKind.i64 (x / 1024) 1023 = x / 1024 % 1024 := maskI 10 (by omega) _ (by omega) (by omega)
  have hm3 : bits BinOp.and IntKind.i64 x 1023 = x % 1024 := maskI 10 (by omega) _ (by omega) (by omega)
  clear h0 h1
  go_enter Try.func16, Try.ntmps16
  go_wp2_with fail
  refine bodyPost_ret (v := .agg #[.int .i64 (x / 8388608), .int .i64 (x / 1048576 % 8), .int .i64 (x / 1024 % 1024), .int .i64 (x % 1024)]) (by simp [results, Try.results16, go_sem]) rfl ?_
  exact ⟨rfl, newB w _⟩
end Go.Proofs.Ythkknlnfdckdfaa
