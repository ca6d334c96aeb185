/- The frame, for arguments that are graphs. -/
import Derived.Test.YtncimnfhfomddaaDoorFrB
import Derived.Deep.SlicePairs
namespace Go.Proofs.YtncimnfhfomddaaDoor
open Go.ChangeShapes Go.WideShapes Go.ChangeAt Go.RowKit Go.Deep

theorem cellsGraph : Tryd.prog.cellsOf 24 = 2 := by kernel_rfl
theorem cellsPair : Tryd.prog.cellsOf 42 = 2 := by kernel_rfl
theorem cellsPairs : Tryd.prog.cellsOf 22 = 1 := by kernel_rfl

set_option maxRecDepth 100000 in
/-- an argument of type Graph; it reads the same in a later world -/
theorem open_graph {H : Type} {enc : TypeId × Value → H} {W : World} {v : Value} {d : DataW H} {ps : List MemPlace} {base : Nat} (hv : Value.okWide Tryd.prog W .any base 24 v)
    (h : DataW.Trod enc Tryd.prog W 0 (fun _ => true) true 24 v d ps) (hlt : ∀ x ∈ ps, x.block < W.heap.size) :
    ∃ (N : Int) (A : Option Addr) (l : List (Int × Int)) (c : Nat), v = .agg #[.int .i64 N, .slice A l.length c] ∧ l.length ≤ c ∧ c ≤ 9223372036854775807 ∧ RP W A l ∧ (A = none → l = [] ∧ c = 0) ∧ (-9223372036854775808 ≤ N ∧ N ≤ 9223372036854775807) ∧
      ∀ W', Below W.heap.size W W' → ∀ sp : Nat → Bool, (∀ x ∈ ps, sp x.block = true) → DataW.Trod enc Tryd.prog W' 0 sp true 24 v d ps := by
  have again : ∀ W', Below W.heap.size W W' → ∀ sp : Nat → Bool, (∀ x ∈ ps, sp x.block = true) → DataW.Trod enc Tryd.prog W' 0 sp true 24 v d ps := fun W' hb sp hsp =>
    WideElems.Trod_stays laidOut (by kernel_rfl) (of_decide_eq_true (by kernel_rfl)) h (fun x hx => hb.same (hlt x hx)) hsp
  obtain ⟨cs, rfl, hcs⟩ := okWide_struct Tryd.underlying24 hv
  rw [cellsGraph] at hcs
  obtain ⟨x0, x1, rfl⟩ : ∃ a b, cs = #[a, b] := by
    match cs, hcs with
    | ⟨[a, b]⟩, _ => exact ⟨a, b, rfl⟩
  obtain ⟨fuel, hf⟩ := h
  obtain ⟨y0, y1, n, _, _, t0, t1⟩ := trod_struct2 Tryd.underlying24 hf
  simp only [Value.cells, cellsInt, cellsPairs, List.drop, List.take] at t0 t1
  obtain ⟨N, hc1, _, wN⟩ := DataW.trod_int Tryd.underlying3 t0
  simp only [List.cons.injEq, and_true] at hc1
  subst hc1
  simp only [Lit.wf, Bool.and_eq_true, decide_eq_true_eq] at wN
  have wN' : -9223372036854775808 ≤ N ∧ N ≤ 9223372036854775807 := by simpa [IntKind.min, IntKind.max, IntKind.signed, IntKind.bits] using wN
  rcases open_slice_pairs Tryd.underlying22 Tryd.underlying42 cellsPair rfl rfl cellsInt cellsInt t1 with ⟨hcs, _⟩ | ⟨aa, len, cap, m, n2, V0, V1, D0, D1, P0, P1, hcs, _, hl, hm, hmm, _, hx⟩
  · simp only [List.cons.injEq, and_true] at hcs
    subst hcs
    exact ⟨N, none, [], 0, rfl, Nat.le_refl _, by omega, RP.nil _ _, (fun _ => ⟨rfl, rfl⟩), wN', again⟩
  · simp only [List.cons.injEq, and_true] at hcs
    subst hcs
    have each : ∀ i, i < m → ∃ q : Int × Int, W.cell? (aa.add (i * 2)) = some (.int .i64 q.1) ∧ W.cell? (aa.add (i * 2 + 1)) = some (.int .i64 q.2) := fun i hi => by
      obtain ⟨h1, h2, h3, h4⟩ := hx i hi
      obtain ⟨z0, e0, _, _⟩ := DataW.trod_int Tryd.underlying3 h3
      obtain ⟨z1, e1, _, _⟩ := DataW.trod_int Tryd.underlying3 h4
      simp only [List.cons.injEq, and_true] at e0 e1
      exact ⟨(z0, z1), by rw [h1, e0], by rw [h2, e1]⟩
    obtain ⟨q, hq⟩ := choose_lt each
    have hlm : len ≤ m := by rw [hmm]; split <;> omega
    have hlen : ((List.range len).map q).length = len := by simp
    refine ⟨N, some aa, (List.range len).map q, cap, by rw [hlen], by rw [hlen]; exact hl, by simp only [maxLen] at hm; omega, fun k hk => ?_, (fun e => by cases e), wN', again⟩
    rw [hlen] at hk
    obtain ⟨h1, h2⟩ := hq k (by omega)
    obtain ⟨b, off, spot⟩ := aa
    have hspot : spot = none := by simpa [Addr.add] using World.cell?_spot (hq 0 (by omega)).1
    subst hspot
    refine ⟨b, off, rfl, ?_, ?_⟩
    · rw [show (⟨b, off, none⟩ : Addr).add (k * 2) = ⟨b, off + k * 2, none⟩ by unfold Addr.add; split <;> simp_all] at h1
      rw [h1]
      simp [List.getD, hk]
    · rw [show (⟨b, off, none⟩ : Addr).add (k * 2 + 1) = ⟨b, off + (k * 2 + 1), none⟩ by unfold Addr.add; split <;> simp_all] at h2
      first
        | (rw [show off + k * 2 + 1 = off + (k * 2 + 1) by omega]; rw [h2]; simp [List.getD, hk])
        | (rw [h2]; simp [List.getD, hk])
end Go.Proofs.YtncimnfhfomddaaDoor
