/- graph.Has, ref10.Same. -/
import Derived.Test.YtkflanjlnbdkmaaGreatDoorCmx
import Derived.Laws.StructEq
namespace Go.Proofs.YtkflanjlnbdkmaaGreatDoor
open Go.ChangeShapes Go.WideShapes Go.ChangeAt Go.RowKit

theorem und_pair : Tryz.prog.underlying 54 = some (.struct (Tryz.prog.fieldsOf 54)) := by kernel_rfl
theorem run_eqlP (f t x y : Int) (w : World) : (binOp .eql 54 (.agg #[.int .i64 f, .int .i64 t]) (.agg #[.int .i64 x, .int .i64 y])).run Tryz.prog w = .ok (.bool (f == x && t == y)) w := by
  have u3 := Tryz.underlying3
  have a3 := Tryz.isAgg3
  have z3 := Tryz.sizeOf3
  have hp : Tryz.prog.stoodInHeld 54 = false := by kernel_rfl
  rw [run_eql_struct, show (10000 : Nat) = 9999 + 1 from rfl, run_equalIn_agg w 9999 54 _ _ und_pair hp]
  simp only [Program.fieldsOf, Tryz.underlying54]
  go_simp
  by_cases h1 : f = x <;> by_cases h2 : t = y <;> simp [h1, h2]
theorem run_neqP (f t x y : Int) (w : World) : (binOp .neq 54 (.agg #[.int .i64 f, .int .i64 t]) (.agg #[.int .i64 x, .int .i64 y])).run Tryz.prog w = .ok (.bool (!(f == x && t == y))) w := by
  have u3 := Tryz.underlying3
  have a3 := Tryz.isAgg3
  have z3 := Tryz.sizeOf3
  have hp : Tryz.prog.stoodInHeld 54 = false := by kernel_rfl
  rw [run_neq_struct, show (10000 : Nat) = 9999 + 1 from rfl, run_equalIn_agg w 9999 54 _ _ und_pair hp]
  simp only [Program.fieldsOf, Tryz.underlying54]
  go_simp
  by_cases h1 : f = x <;> by_cases h2 : t = y <;> simp [h1, h2]
theorem run_gdP (op : BinOp) (X Y : Operand) (xs ys : Array Value) (w : World) : (eqGuard op 54 X Y (.agg xs) (.agg ys)).run Tryz.prog w = .ok () w :=
  run_eqGuard_agg w op 54 X Y xs ys (by kernel_rfl)
set_option maxHeartbeats 1000000 in
theorem idxPr_any (A : Option Addr) (l : List (Int × Int)) (c : Nat) (f t : Int) (w : World) (hr : RP w A l) (hl : l.length ≤ 100000) :
    Calls Tryz.prog 96 #[.slice A l.length c, .agg #[.int .i64 f, .int .i64 t]] w (RetIy (hasB l f t) w) := by
  go_enter Tryz.func96, Tryz.ntmps96
  go_wp2_with fail
  obtain ⟨W0, hW, c0, c1, hb0, hlt0⟩ := boxed w 54 (.int .i64 f) (.int .i64 t)
  rw [hW]
  have hr0 := hr.below hb0
  clear hW hr
  go_loopw [8] (fun i wr => ∃ k : Nat, k ≤ l.length ∧ i = .int .i64 k ∧ hasB (l.take k) f t = false ∧ Below W0.heap.size W0 wr) (fun i _ => l.length - (intOf i).toNat)
  case atStart => exact ⟨0, Nat.zero_le _, rfl, by simp [hasB], Below.refl _ _⟩
  case round =>
    obtain ⟨k, hk, rfl, hi, hbl⟩ := hrel
    have Hi := Lib.hid hi; clear hi
    by_cases hlt : k < l.length
    case neg =>
      have hall : hasB l f t = false := by have := Hi.out; rwa [List.take_of_length_le (by omega)] at this
      have Hall := Lib.hid hall
      clear hall
      go_wp2_with fail
      go_ret
      exact ⟨_, rfl, by rw [Hall.out]; rfl, endB hb0 hbl⟩
    case pos =>
    obtain ⟨b, o, rfl, hc0, hc1⟩ := (hr0.below hbl).at_ hlt
    have d0 := (hbl.cell (lt_of_cell c0)).trans c0
    have d1 := (hbl.cell (lt_of_cell c1)).trans c1
    have hhit := @hasB_hit l f t k hlt
    have hnx := @hasB_next l f t k hlt Hi.out
    have Hhit := Lib.hid hhit; have Hnx := Lib.hid hnx
    clear hhit hnx c0 c1
    generalize l[k] = pr at *
    obtain ⟨x, y⟩ := pr
    have hgd := run_gdP
    have heq := run_eqlP f t x y
    by_cases he : x = f ∧ y = t
    · obtain ⟨rfl, rfl⟩ := he
      have Hh := Lib.hid (Hhit.out rfl rfl)
      have hd : (x == x && y == y) = true := by simp
      go_wp2_with fail
      go_quiet (fail)
      go_wp2_with fail
      go_ret
      exact ⟨_, rfl, by rw [Hh.out]; simp, endB hb0 (below_drewN hbl nq)⟩
    · have hd : (f == x && t == y) = false := by
        rw [Bool.and_eq_false_iff, beq_eq_false_iff_ne, beq_eq_false_iff_ne]
        by_cases h : f = x
        · exact .inr (fun e => he ⟨h.symm, e.symm⟩)
        · exact .inl h
      have He := Lib.hid (Hnx.out (fun e => he (by injection e with a b; exact ⟨a, b⟩)))
      rw [hd] at heq
      clear he hd
      go_wp2_with fail
      go_quiet (fail)
      clear heq hgd
      go_wp2_with fail
      go_roundw
      case rel => exact ⟨k + 1, by omega, by go_num, He.out, below_drewN hbl nq⟩
      case measure => simp [intOf]; omega
set_option maxHeartbeats 400000 in
theorem conPr_any (A : Option Addr) (l : List (Int × Int)) (c : Nat) (f t : Int) (w : World) (hr : RP w A l) (hl : l.length ≤ 100000) :
    Calls Tryz.prog 77 #[.slice A l.length c, .agg #[.int .i64 f, .int .i64 t]] w (RetB (.bool (hasB l f t)) w) := by
  go_enter Tryz.func77, Tryz.ntmps77
  go_wp2_with fail
  obtain ⟨W0, hW, c0, c1, hb0, hlt0⟩ := boxed w 54 (.int .i64 f) (.int .i64 t)
  rw [hW]
  have H := Lib.hid (idxPr_any A l c f t W0 (hr.below hb0) hl)
  clear hW hr
  go_wp2_with fail
  refine H.out.mono ?_
  rintro e w1 ⟨i, rfl, hi, hb⟩
  have Hi := Lib.hid hi
  clear hi
  obtain ⟨r, hr⟩ : ∃ r, decide (0 ≤ i) = r := ⟨_, rfl⟩
  cases r
  all_goals
    have Hr := Lib.hid hr
    go_wp2_with fail
    go_ret
    exact ⟨rb (by rw [← Hi.out, Hr.out]), endB hb0 hb⟩
theorem run_fieldL (n : Int) (A : Option Addr) (k c : Nat) (w : World) : (Instr.field 24 (.agg #[.int .i64 n, .slice A k c]) 1).run Tryz.prog w = .ok (.slice A k c) w := by
  unfold Instr.field
  go_simp
  simp [asAgg]
set_option maxRecDepth 100000 in
set_option maxHeartbeats 1000000 in
theorem gHas_any (A : Option Addr) (N : Int) (l : List (Int × Int)) (c : Nat) (f t : Int) (w : World) (hr : RP w A l) (hlen : l.length ≤ 100000) :
    Calls Tryz.prog 58 #[.agg #[.int .i64 N, .slice A l.length c], .int .i64 f, .int .i64 t] w (RetB (.bool (hasB (nGl N l) f t)) w) := by
  go_enter Tryz.func58, Tryz.ntmps58
  go_wp2_with fail
  obtain ⟨W0, hW, c0, c1, hb0, hlt0⟩ := boxed w 24 (.int .i64 N) (.slice A l.length c)
  rw [hW]
  have hr0 := hr.below hb0
  clear hW hr
  refine (proper_any _ _ _ _ _ hr0 hlen).mono ?_
  rintro e w1 ⟨A', c', rfl, hr1, -, hb⟩
  have hlen' := nGl_len (N := N) hlen
  have H := Lib.hid (conPr_any A' (nGl N l) c' f t w1 hr1 hlen')
  have hbb := endB hb0 hb
  clear hr1 hr0 hb hb0
  generalize nGl N l = l' at *
  generalize nGn N l = n' at *
  have hfd := run_fieldL n' A' l'.length c'
  go_wp2_with fail
  refine H.out.mono ?_
  rintro e w2 ⟨rfl, hb2⟩
  clear hfd
  go_wp2_with fail
  go_ret
  exact ⟨rfl, endB hbb hb2⟩

/-- two graphs are equal -/
def sameB (N : Int) (l : List (Int × Int)) (M : Int) (m : List (Int × Int)) : Bool := N == M && l == m
theorem sameB_refl (N : Int) (l : List (Int × Int)) : sameB N l N l = true := by simp [sameB]
theorem sameB_iff {N : Int} {l : List (Int × Int)} {M : Int} {m : List (Int × Int)} : sameB N l M m = true ↔ N = M ∧ l = m := by simp [sameB]
set_option maxRecDepth 100000 in
set_option maxHeartbeats 2000000 in
theorem r10Same_any (A B : Option Addr) (N M : Int) (l m : List (Int × Int)) (c d : Nat) (w : World) (hl : RP w A l) (hm : RP w B m) (hll : l.length ≤ 100000) (hml : m.length ≤ 100000) :
    Calls Tryz.prog 25 #[.agg #[.int .i64 N, .slice A l.length c], .agg #[.int .i64 M, .slice B m.length d]] w (RetB (.bool (sameB N l M m)) w) := by
  by_cases h1 : N = M
  case neg =>
    have hf : sameB N l M m = false := by simp [sameB, h1]
    have Hf := Lib.hid hf
    have hd : (N != M) = true := by rw [bne_iff_ne]; exact h1
    clear hf h1
    go_enter Tryz.func25, Tryz.ntmps25
    go_wp2_with fail
    go_ret
    exact ⟨rb Hf.out.symm, ((Below.refl _ _).alloc (Nat.le_refl _) _).alloc (by simp) _⟩
  case pos =>
  subst h1
  by_cases h2 : l.length = m.length
  case neg =>
    have hf : sameB N l N m = false := by
      simp only [sameB, Bool.and_eq_false_iff, beq_eq_false_iff_ne]
      exact .inr (fun e => h2 (by rw [e]))
    have Hf := Lib.hid hf
    have hd0 : (N != N) = false := by simp
    have hd : ((l.length : Int) != (m.length : Int)) = true := by rw [bne_iff_ne]; omega
    clear hf h2
    go_enter Tryz.func25, Tryz.ntmps25
    go_wp2_with fail
    go_ret
    exact ⟨rb Hf.out.symm, ((Below.refl _ _).alloc (Nat.le_refl _) _).alloc (by simp) _⟩
  case pos =>
  have hd0 : (N != N) = false := by simp
  have hd : ((l.length : Int) != (m.length : Int)) = false := by rw [bne_eq_false_iff_eq]; omega
  have H2 := Lib.hid h2
  clear h2
  go_enter Tryz.func25, Tryz.ntmps25
  go_wp2_with fail
  obtain ⟨W0, hW, k0, k1, hb0, hlt0⟩ := boxed2 w 24 24 (.int .i64 N) (.slice A l.length c) (.int .i64 N) (.slice B m.length d)
  rw [hW]
  have hl0 := hl.below hb0
  have hm0 := hm.below hb0
  obtain ⟨a0, a1, _, _⟩ := k0.two
  obtain ⟨b0, b1, _, _⟩ := k1.two
  clear hW hl hm a0 b0 hd hd0 k0 k1
  go_loopw [5] (fun t wr => ∃ (k : Nat), k ≤ l.length ∧ t = .int .i64 k ∧ l.take k = m.take k ∧ Below W0.heap.size W0 wr) (fun t _ => l.length - (intOf t).toNat)
  case atStart => exact ⟨0, Nat.zero_le _, rfl, rfl, Below.refl _ _⟩
  case round =>
    obtain ⟨k, hk, rfl, ht, hbl⟩ := hrel
    have Ht := Lib.hid ht; clear ht
    have a1r := (hbl.cell (lt_of_cell a1)).trans a1
    have b1r := (hbl.cell (lt_of_cell b1)).trans b1
    by_cases hlt : k < l.length
    case neg =>
      have hall : sameB N l N m = true := sameB_iff.2 ⟨rfl, by have := Ht.out; rwa [List.take_of_length_le (by omega), List.take_of_length_le (by rw [← H2.out]; omega)] at this⟩
      have Hall := Lib.hid hall
      clear hall
      go_wp2_with fail
      go_ret
      exact ⟨rb Hall.out.symm, endB hb0 hbl⟩
    case pos =>
    have hltm : k < m.length := by have := H2.out; omega
    obtain ⟨b, o, rfl, hc0, hc1⟩ := (hl0.below hbl).at_ hlt
    obtain ⟨b', o', rfl, hc0', hc1'⟩ := (hm0.below hbl).at_ hltm
    have hgd := run_gdP
    have hnx : l[k] = m[k] → l.take (k + 1) = m.take (k + 1) := fun h => by
      rw [List.take_succ_eq_append_getElem hlt, List.take_succ_eq_append_getElem hltm, Ht.out, h]
    have hno : l[k] ≠ m[k] → sameB N l N m = false := fun h => by
      simp only [sameB, Bool.and_eq_false_iff, beq_eq_false_iff_ne]
      exact .inr (fun e => h (by subst e; rfl))
    have Hnx := Lib.hid hnx; have Hno := Lib.hid hno
    clear hnx hno
    generalize l[k] = p1 at *
    generalize m[k] = p2 at *
    obtain ⟨x, y⟩ := p1
    obtain ⟨z, v⟩ := p2
    have heq := run_neqP x y z v
    by_cases he : x = z ∧ y = v
    · obtain ⟨rfl, rfl⟩ := he
      have Hx := Lib.hid (Hnx.out rfl)
      have hd : (!(x == x && y == y)) = false := by simp
      rw [hd] at heq
      clear hd
      go_wp2_with fail
      go_quiet (fail)
      clear heq hgd
      go_wp2_with fail
      go_roundw
      case rel => exact ⟨k + 1, by omega, by go_num, Hx.out, below_drewN hbl nq⟩
      case measure => simp [intOf]; omega
    · have Hx := Lib.hid (Hno.out (fun e => he (by injection e with a b; exact ⟨a, b⟩)))
      have hd : (!(x == z && y == v)) = true := by
        rw [Bool.not_eq_true', Bool.and_eq_false_iff, beq_eq_false_iff_ne, beq_eq_false_iff_ne]
        by_cases h : x = z
        · exact .inr (fun e => he ⟨h, e⟩)
        · exact .inl h
      rw [hd] at heq
      clear hd he
      go_wp2_with fail
      go_quiet (fail)
      clear heq hgd
      go_wp2_with fail
      go_ret
      exact ⟨rb Hx.out.symm, endB hb0 (below_drewN hbl nq)⟩
end Go.Proofs.YtkflanjlnbdkmaaGreatDoor
