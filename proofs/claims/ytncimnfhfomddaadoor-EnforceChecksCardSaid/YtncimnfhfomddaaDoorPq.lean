/- Pairs are equal; slices.Contains at pairs. -/
import Derived.Test.YtncimnfhfomddaaDoorEnR
import Derived.Laws.StructEq
namespace Go.Proofs.YtncimnfhfomddaaDoor
open Go.ChangeShapes Go.WideShapes Go.ChangeAt Go.RowKit

/-- an index that is at least 0 exactly if b -/
def RetIe (b : Bool) (w : World) : Ending → World → Prop := fun e w' => ∃ i : Int, e = .returned (.int .i64 i) ∧ decide (0 ≤ i) = b ∧ Below w.heap.size w w'
theorem und_pairE : Tryd.prog.underlying 42 = some (.struct (Tryd.prog.fieldsOf 42)) := by kernel_rfl
theorem run_eqlE (f t x y : Int) (w : World) : (binOp .eql 42 (.agg #[.int .i64 f, .int .i64 t]) (.agg #[.int .i64 x, .int .i64 y])).run Tryd.prog w = .ok (.bool (f == x && t == y)) w := by
  have u3 := Tryd.underlying3
  have a3 := Tryd.isAgg3
  have z3 := Tryd.sizeOf3
  have hp : Tryd.prog.stoodInHeld 42 = false := by kernel_rfl
  rw [run_eql_struct, show (10000 : Nat) = 9999 + 1 from rfl, run_equalIn_agg w 9999 42 _ _ und_pairE hp]
  simp only [Program.fieldsOf, Tryd.underlying42]
  go_simp
  by_cases h1 : f = x <;> by_cases h2 : t = y <;> simp [h1, h2]
theorem run_neqE (f t x y : Int) (w : World) : (binOp .neq 42 (.agg #[.int .i64 f, .int .i64 t]) (.agg #[.int .i64 x, .int .i64 y])).run Tryd.prog w = .ok (.bool (!(f == x && t == y))) w := by
  have u3 := Tryd.underlying3
  have a3 := Tryd.isAgg3
  have z3 := Tryd.sizeOf3
  have hp : Tryd.prog.stoodInHeld 42 = false := by kernel_rfl
  rw [run_neq_struct, show (10000 : Nat) = 9999 + 1 from rfl, run_equalIn_agg w 9999 42 _ _ und_pairE hp]
  simp only [Program.fieldsOf, Tryd.underlying42]
  go_simp
  by_cases h1 : f = x <;> by_cases h2 : t = y <;> simp [h1, h2]
theorem run_gdE (op : BinOp) (X Y : Operand) (xs ys : Array Value) (w : World) : (eqGuard op 42 X Y (.agg xs) (.agg ys)).run Tryd.prog w = .ok () w :=
  run_eqGuard_agg w op 42 X Y xs ys (by kernel_rfl)
set_option maxHeartbeats 1000000 in
theorem idxE_any (A : Option Addr) (l : List (Int × Int)) (c : Nat) (f t : Int) (w : World) (hr : RP w A l) (hl : l.length ≤ 100000) :
    Calls Tryd.prog 131 #[.slice A l.length c, .agg #[.int .i64 f, .int .i64 t]] w (RetIe (hasB l f t) w) := by
  go_enter Tryd.func131, Tryd.ntmps131
  go_wp2_with fail
  obtain ⟨W0, hW, c0, c1, hb0, hlt0⟩ := boxed w 42 (.int .i64 f) (.int .i64 t)
  rw [hW]
  have hr0 := hr.below hb0
  clear hW hr
  go_loopw [8] (fun i wr => ∃ k : Nat, k ≤ l.length ∧ i = .int .i64 k ∧ hasB (l.take k) f t = false ∧ Below W0.heap.size W0 wr) (fun i _ => l.length - (intOf i).toNat)
  case atStart => exact ⟨0, Nat.zero_le _, rfl, by simp [hasB], Below.refl _ _⟩
  case round =>
    obtain ⟨k, hk, rfl, hi, hbl⟩ := hrel
    have Hi := Lib.hid hi; clear hi
    by_cases hlt : k < l.length
    case neg =>
      have hall : hasB l f t = false := by have := Hi.out; rwa [List.take_of_length_le (by omega)] at this
      have Hall := Lib.hid hall
      clear hall
      go_wp2_with fail
      go_ret
      exact ⟨_, rfl, by rw [Hall.out]; rfl, endB hb0 hbl⟩
    case pos =>
    obtain ⟨b, o, rfl, hc0, hc1⟩ := (hr0.below hbl).at_ hlt
    have d0 := (hbl.cell (lt_of_cell c0)).trans c0
    have d1 := (hbl.cell (lt_of_cell c1)).trans c1
    have hhit := @hasB_hit l f t k hlt
    have hnx := @hasB_next l f t k hlt Hi.out
    have Hhit := Lib.hid hhit; have Hnx := Lib.hid hnx
    clear hhit hnx c0 c1
    generalize l[k] = pr at *
    obtain ⟨x, y⟩ := pr
    have hgd := run_gdE
    have heq := run_eqlE f t x y
    by_cases he : x = f ∧ y = t
    · obtain ⟨rfl, rfl⟩ := he
      have Hh := Lib.hid (Hhit.out rfl rfl)
      have hd : (x == x && y == y) = true := by simp
      go_wp2_with fail
      go_quiet (fail)
      go_wp2_with fail
      go_ret
      exact ⟨_, rfl, by rw [Hh.out]; simp, endB hb0 (below_drewN hbl nq)⟩
    · have hd : (f == x && t == y) = false := by
        rw [Bool.and_eq_false_iff, beq_eq_false_iff_ne, beq_eq_false_iff_ne]
        by_cases h : f = x
        · exact .inr (fun e => he ⟨h.symm, e.symm⟩)
        · exact .inl h
      have He := Lib.hid (Hnx.out (fun e => he (by injection e with a b; exact ⟨a, b⟩)))
      rw [hd] at heq
      clear he hd
      go_wp2_with fail
      go_quiet (fail)
      clear heq hgd
      go_wp2_with fail
      go_roundw
      case rel => exact ⟨k + 1, by omega, by go_num, He.out, below_drewN hbl nq⟩
      case measure => simp [intOf]; omega
set_option maxHeartbeats 400000 in
theorem conE_any (A : Option Addr) (l : List (Int × Int)) (c : Nat) (f t : Int) (w : World) (hr : RP w A l) (hl : l.length ≤ 100000) :
    Calls Tryd.prog 103 #[.slice A l.length c, .agg #[.int .i64 f, .int .i64 t]] w (RetB (.bool (hasB l f t)) w) := by
  go_enter Tryd.func103, Tryd.ntmps103
  go_wp2_with fail
  obtain ⟨W0, hW, c0, c1, hb0, hlt0⟩ := boxed w 42 (.int .i64 f) (.int .i64 t)
  rw [hW]
  have H := Lib.hid (idxE_any A l c f t W0 (hr.below hb0) hl)
  clear hW hr
  go_wp2_with fail
  refine H.out.mono ?_
  rintro e w1 ⟨i, rfl, hi, hb⟩
  have Hi := Lib.hid hi
  clear hi
  obtain ⟨r, hr⟩ : ∃ r, decide (0 ≤ i) = r := ⟨_, rfl⟩
  cases r
  all_goals
    have Hr := Lib.hid hr
    go_wp2_with fail
    go_ret
    exact ⟨rb (by rw [← Hi.out, Hr.out]), endB hb0 hb⟩
end Go.Proofs.YtncimnfhfomddaaDoor
