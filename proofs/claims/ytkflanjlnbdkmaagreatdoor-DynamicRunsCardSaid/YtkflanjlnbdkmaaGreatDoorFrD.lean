/- The frame, for arguments that are states, changes and lists of changes. -/
import Derived.Test.YtkflanjlnbdkmaaGreatDoorFrC
import Derived.Test.YtkflanjlnbdkmaaGreatDoorOrdP
import Derived.Deep.Strs
namespace Go.Proofs.YtkflanjlnbdkmaaGreatDoor
open Go.ChangeShapes Go.WideShapes Go.ChangeAt Go.RowKit Go.Deep

theorem cellsDyn : Tryz.prog.cellsOf 27 = 3 := by kernel_rfl
theorem cellsChg : Tryz.prog.cellsOf 29 = 3 := by kernel_rfl
theorem cellsInts1 : Tryz.prog.cellsOf 25 = 1 := by kernel_rfl
theorem plainC (b off i : Nat) : (⟨b, off, none⟩ : Addr).add i = ⟨b, off + i, none⟩ := by unfold Addr.add; split <;> simp_all

set_option maxRecDepth 100000 in
/-- an argument of type Dynamic; it reads the same in a later world -/
theorem open_dyn {H : Type} {enc : TypeId × Value → H} {W : World} {v : Value} {d : DataW H} {ps : List MemPlace} {base : Nat} (hv : Value.okWide Tryz.prog W .any base 27 v)
    (h : DataW.Trod enc Tryz.prog W 0 (fun _ => true) true 27 v d ps) (hlt : ∀ x ∈ ps, x.block < W.heap.size) :
    ∃ (N : Int) (A : Option Addr) (l : List (Int × Int)) (c : Nat) (B : Option Addr) (b : List Int) (e : Nat), v = .agg #[.int .i64 N, .slice A l.length c, .slice B b.length e] ∧ RP W A l ∧ (A = none → l = [] ∧ c = 0) ∧ RI W B b ∧ (B = none → b = [] ∧ e = 0) ∧ (l.length ≤ c ∧ c ≤ 9223372036854775807) ∧ (b.length ≤ e ∧ e ≤ 9223372036854775807) ∧ (-9223372036854775808 ≤ N ∧ N ≤ 9223372036854775807) ∧
      ∀ W', Below W.heap.size W W' → ∀ sp : Nat → Bool, (∀ x ∈ ps, sp x.block = true) → DataW.Trod enc Tryz.prog W' 0 sp true 27 v d ps := by
  have again : ∀ W', Below W.heap.size W W' → ∀ sp : Nat → Bool, (∀ x ∈ ps, sp x.block = true) → DataW.Trod enc Tryz.prog W' 0 sp true 27 v d ps := fun W' hb sp hsp =>
    WideElems.Trod_stays laidOut (by kernel_rfl) (of_decide_eq_true (by kernel_rfl)) h (fun x hx => hb.same (hlt x hx)) hsp
  obtain ⟨cs, rfl, hcs⟩ := okWide_struct Tryz.underlying27 hv
  rw [cellsDyn] at hcs
  obtain ⟨x0, x1, x2, rfl⟩ : ∃ a b c, cs = #[a, b, c] := by
    match cs, hcs with
    | ⟨[a, b, c]⟩, _ => exact ⟨a, b, c, rfl⟩
  obtain ⟨fuel, hf⟩ := h
  obtain ⟨y0, y1, n, _, _, t0, t1⟩ := trod_struct2 Tryz.underlying27 hf
  simp only [Value.cells, cellsGraph, cellsInts1, List.drop, List.take] at t0 t1
  obtain ⟨z0, z1, n', _, _, t2, t3⟩ := trod_struct2 Tryz.underlying24 t0
  simp only [cellsInt, cellsPairs, List.drop, List.take] at t2 t3
  obtain ⟨N, hc1, _, wN⟩ := DataW.trod_int Tryz.underlying3 t2
  simp only [List.cons.injEq, and_true] at hc1
  subst hc1
  simp only [Lit.wf, Bool.and_eq_true, decide_eq_true_eq] at wN
  have wN' : -9223372036854775808 ≤ N ∧ N ≤ 9223372036854775807 := by simpa [IntKind.min, IntKind.max, IntKind.signed, IntKind.bits] using wN
  obtain ⟨A, l, c, rfl, hrp, hn, hlc⟩ : ∃ (A : Option Addr) (l : List (Int × Int)) (c : Nat), x1 = .slice A l.length c ∧ RP W A l ∧ (A = none → l = [] ∧ c = 0) ∧ (l.length ≤ c ∧ c ≤ 9223372036854775807) := by
    rcases open_slice_pairs Tryz.underlying22 Tryz.underlying54 cellsPair rfl rfl cellsInt cellsInt t3 with ⟨hcs, _⟩ | ⟨aa, len, cap, m, n2, V0, V1, D0, D1, P0, P1, hcs, _, hl, hm, hmm, _, hx⟩
    · simp only [List.cons.injEq, and_true] at hcs
      exact ⟨none, [], 0, hcs, RP.nil _ _, (fun _ => ⟨rfl, rfl⟩), Nat.le_refl _, by omega⟩
    · simp only [List.cons.injEq, and_true] at hcs
      have each : ∀ i, i < m → ∃ q : Int × Int, W.cell? (aa.add (i * 2)) = some (.int .i64 q.1) ∧ W.cell? (aa.add (i * 2 + 1)) = some (.int .i64 q.2) := fun i hi => by
        obtain ⟨h1, h2, h3, h4⟩ := hx i hi
        obtain ⟨z0, e0, _, _⟩ := DataW.trod_int Tryz.underlying3 h3
        obtain ⟨z1, e1, _, _⟩ := DataW.trod_int Tryz.underlying3 h4
        simp only [List.cons.injEq, and_true] at e0 e1
        exact ⟨(z0, z1), by rw [h1, e0], by rw [h2, e1]⟩
      obtain ⟨q, hq⟩ := choose_lt each
      have hlm : len ≤ m := by rw [hmm]; split <;> omega
      have hlen : ((List.range len).map q).length = len := by simp
      refine ⟨some aa, (List.range len).map q, cap, by rw [hlen]; exact hcs, fun k hk => ?_, (fun e => by cases e), by rw [hlen]; exact hl, by simp only [maxLen] at hm; omega⟩
      rw [hlen] at hk
      obtain ⟨h1, h2⟩ := hq k (by omega)
      obtain ⟨b, off, spot⟩ := aa
      have hspot : spot = none := by simpa [Addr.add] using World.cell?_spot (hq 0 (by omega)).1
      subst hspot
      rw [plainC] at h1 h2
      refine ⟨b, off, rfl, ?_, ?_⟩
      · rw [h1]
        simp [List.getD, hk]
      · rw [show off + k * 2 + 1 = off + (k * 2 + 1) by omega, h2]
        simp [List.getD, hk]
  obtain ⟨B, b, e, rfl, hri, hbn, hbe⟩ : ∃ (B : Option Addr) (b : List Int) (e : Nat), x2 = .slice B b.length e ∧ RI W B b ∧ (B = none → b = [] ∧ e = 0) ∧ (b.length ≤ e ∧ e ≤ 9223372036854775807) := by
    rcases open_ints Tryz.underlying25 Tryz.underlying3 cellsInt t1 with ⟨hcs, _⟩ | ⟨a, len, cap, zs, hcs, _, hl, hm, hz, _, hcell, hwz⟩
    · simp only [List.cons.injEq, and_true] at hcs
      exact ⟨none, [], 0, hcs, RI.nil _ _, (fun _ => ⟨rfl, rfl⟩), Nat.le_refl _, by omega⟩
    · simp only [List.cons.injEq, and_true] at hcs
      simp only [if_true] at hz
      have hlen : (zs.take len).length = len := by simp; omega
      refine ⟨some a, zs.take len, cap, by rw [hlen]; exact hcs, fun k hk => ?_, (fun e => by cases e), by rw [hlen]; exact hl, by simp only [maxLen] at hm; omega⟩
      rw [hlen] at hk
      have hc := hcell k (by omega)
      obtain ⟨b, off, spot⟩ := a
      have hspot : spot = none := by simpa [Addr.add] using World.cell?_spot (hcell 0 (by omega))
      subst hspot
      refine ⟨b, off, rfl, ?_⟩
      rw [plainC] at hc
      rw [hc]
      simp [List.getD, hk]
  exact ⟨N, A, l, c, B, b, e, rfl, hrp, hn, hri, hbn, hlc, hbe, wN', again⟩

theorem trod_int1 {H : Type} {enc : TypeId × Value → H} {W : World} {sp : Nat → Bool} {hd : Bool} {base fuel : Nat} {x : Value} {y : DataW H × List MemPlace} (h : DataW.trod enc Tryz.prog W base sp hd fuel 3 [x] = some y) : ∃ z : Int, x = .int .i64 z ∧ -9223372036854775808 ≤ z ∧ z ≤ 9223372036854775807 := by
  obtain ⟨N, hc1, _, wN⟩ := DataW.trod_int Tryz.underlying3 h
  simp only [List.cons.injEq, and_true] at hc1
  simp only [Lit.wf, Bool.and_eq_true, decide_eq_true_eq] at wN
  exact ⟨N, hc1, by simpa [IntKind.min, IntKind.max, IntKind.signed, IntKind.bits] using wN⟩
set_option maxRecDepth 100000 in
/-- an argument of type Change -/
theorem open_chg {H : Type} {enc : TypeId × Value → H} {W : World} {v : Value} {d : DataW H} {ps : List MemPlace} {base : Nat} (hv : Value.okWide Tryz.prog W .any base 29 v)
    (h : DataW.Trod enc Tryz.prog W 0 (fun _ => true) true 29 v d ps) (hlt : ∀ x ∈ ps, x.block < W.heap.size) :
    ∃ k f t : Int, v = .agg #[.int .i64 k, .int .i64 f, .int .i64 t] ∧ (-9223372036854775808 ≤ k ∧ k ≤ 9223372036854775807) ∧ (-9223372036854775808 ≤ f ∧ f ≤ 9223372036854775807) ∧ (-9223372036854775808 ≤ t ∧ t ≤ 9223372036854775807) ∧
      ∀ W', Below W.heap.size W W' → ∀ sp : Nat → Bool, (∀ x ∈ ps, sp x.block = true) → DataW.Trod enc Tryz.prog W' 0 sp true 29 v d ps := by
  have again : ∀ W', Below W.heap.size W W' → ∀ sp : Nat → Bool, (∀ x ∈ ps, sp x.block = true) → DataW.Trod enc Tryz.prog W' 0 sp true 29 v d ps := fun W' hb sp hsp =>
    WideElems.Trod_stays laidOut (by kernel_rfl) (of_decide_eq_true (by kernel_rfl)) h (fun x hx => hb.same (hlt x hx)) hsp
  obtain ⟨cs, rfl, hcs⟩ := okWide_struct Tryz.underlying29 hv
  rw [cellsChg] at hcs
  obtain ⟨x0, x1, x2, rfl⟩ : ∃ a b c, cs = #[a, b, c] := by
    match cs, hcs with
    | ⟨[a, b, c]⟩, _ => exact ⟨a, b, c, rfl⟩
  obtain ⟨fuel, hf⟩ := h
  obtain ⟨y0, y1, y2, n, _, _, t0, t1, t2⟩ := trod_struct3 Tryz.underlying29 hf
  simp only [Value.cells, cellsInt, List.drop, List.take] at t0 t1 t2
  obtain ⟨k, rfl, hk⟩ := trod_int1 t0
  obtain ⟨f, rfl, hf'⟩ := trod_int1 t1
  obtain ⟨t, rfl, ht⟩ := trod_int1 t2
  exact ⟨k, f, t, rfl, hk, hf', ht, again⟩
set_option maxRecDepth 100000 in
/-- an argument of type []Change -/
theorem open_chgs {H : Type} {enc : TypeId × Value → H} {W : World} {v : Value} {d : DataW H} {ps : List MemPlace} {base : Nat} (hv : Value.okWide Tryz.prog W .any base 40 v)
    (h : DataW.Trod enc Tryz.prog W 0 (fun _ => true) true 40 v d ps) (hlt : ∀ x ∈ ps, x.block < W.heap.size) :
    ∃ (A : Option Addr) (l : List (Int × Int × Int)) (c : Nat), v = .slice A l.length c ∧ l.length ≤ c ∧ c ≤ 9223372036854775807 ∧ RC W A l ∧ (A = none → l = [] ∧ c = 0) ∧
      ∀ W', Below W.heap.size W W' → ∀ sp : Nat → Bool, (∀ x ∈ ps, sp x.block = true) → DataW.Trod enc Tryz.prog W' 0 sp true 40 v d ps := by
  have again : ∀ W', Below W.heap.size W W' → ∀ sp : Nat → Bool, (∀ x ∈ ps, sp x.block = true) → DataW.Trod enc Tryz.prog W' 0 sp true 40 v d ps := fun W' hb sp hsp =>
    WideElems.Trod_stays laidOut (by kernel_rfl) (of_decide_eq_true (by kernel_rfl)) h (fun x hx => hb.same (hlt x hx)) hsp
  obtain ⟨a0, len, cap, rfl⟩ := okWide_slice Tryz.underlying40 hv
  obtain ⟨fuel, hf⟩ := h
  rcases open_slice Tryz.underlying40 hf with ⟨hcs, _⟩ | ⟨aa, len', cap', m, n, D, Pl, hcs, _, hl, hm, hmm, _, hx⟩
  · simp [Value.cells] at hcs
    obtain ⟨rfl, rfl, rfl⟩ := hcs
    exact ⟨none, [], 0, rfl, Nat.le_refl _, by omega, RC.nil _ _, (fun _ => ⟨rfl, rfl⟩), again⟩
  · simp [Value.cells] at hcs
    obtain ⟨rfl, rfl, rfl⟩ := hcs
    have hlm : len ≤ m := by rw [hmm]; split <;> omega
    have each : ∀ i, i < m → ∃ q : Int × Int × Int, W.cell? (aa.add (i * 3)) = some (.int .i64 q.1) ∧ W.cell? (aa.add (i * 3 + 1)) = some (.int .i64 q.2.1) ∧ W.cell? (aa.add (i * 3 + 2)) = some (.int .i64 q.2.2) := fun i hi => by
      obtain ⟨cs', h1, h2⟩ := hx i hi
      rw [cellsChg] at h1
      obtain ⟨_, hlen, hcell⟩ := World.cells?_some h1
      obtain ⟨y0, y1, y2, k, _, _, t0, t1, t2⟩ := trod_struct3 Tryz.underlying29 h2
      match cs', hlen with
      | [v0, v1, v2], _ =>
        simp only [cellsInt, List.drop, List.take] at t0 t1 t2
        have e0 := hcell 0 (by omega)
        have e1 := hcell 1 (by omega)
        have e2 := hcell 2 (by omega)
        rw [add_add] at e0 e1 e2
        obtain ⟨k, rfl, _⟩ := trod_int1 t0
        obtain ⟨f, rfl, _⟩ := trod_int1 t1
        obtain ⟨t, rfl, _⟩ := trod_int1 t2
        exact ⟨(k, f, t), by simpa using e0, by simpa using e1, by simpa using e2⟩
    obtain ⟨q, hq⟩ := choose_lt each
    have hlen : ((List.range len).map q).length = len := by simp
    refine ⟨some aa, (List.range len).map q, cap, by rw [hlen], by rw [hlen]; exact hl, by simp only [maxLen] at hm; omega, fun k hk => ?_, (fun e => by cases e), again⟩
    rw [hlen] at hk
    obtain ⟨h1, h2, h3⟩ := hq k (by omega)
    obtain ⟨b, off, spot⟩ := aa
    have hspot : spot = none := by simpa [Addr.add] using World.cell?_spot (hq 0 (by omega)).1
    subst hspot
    rw [plainC] at h1 h2 h3
    have hg : ((List.range len).map q).getD k (0, 0, 0) = q k := by simp [List.getD, hk]
    rw [hg]
    exact ⟨b, off, rfl, h1, by rw [show off + k * 3 + 1 = off + (k * 3 + 1) by omega]; exact h2, by rw [show off + k * 3 + 2 = off + (k * 3 + 2) by omega]; exact h3⟩
end Go.Proofs.YtkflanjlnbdkmaaGreatDoor
