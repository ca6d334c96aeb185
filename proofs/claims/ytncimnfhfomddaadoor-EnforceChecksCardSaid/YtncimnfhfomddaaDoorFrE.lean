import Derived.Test.YtncimnfhfomddaaDoorFrC
import Derived.Deep.Strs
import Derived.Test.YtncimnfhfomddaaDoorEnR
import Derived.Test.YtncimnfhfomddaaDoorMapP
/- The frame, for arguments that are lists of pairs and enforcements. -/
namespace Go.Proofs.YtncimnfhfomddaaDoor
open Go.ChangeShapes Go.WideShapes Go.ChangeAt Go.RowKit Go.Deep

theorem cellsEnf : Tryd.prog.cellsOf 28 = 3 := by kernel_rfl
theorem cellsInts1 : Tryd.prog.cellsOf 25 = 1 := by kernel_rfl
theorem cellsOuts : Tryd.prog.cellsOf 26 = 1 := by kernel_rfl
theorem plainC (b off i : Nat) : (⟨b, off, none⟩ : Addr).add i = ⟨b, off + i, none⟩ := by unfold Addr.add; split <;> simp_all
theorem trod_int1 {H : Type} {enc : TypeId × Value → H} {W : World} {sp : Nat → Bool} {hd : Bool} {base fuel : Nat} {x : Value} {y : DataW H × List MemPlace} (h : DataW.trod enc Tryd.prog W base sp hd fuel 3 [x] = some y) : ∃ z : Int, x = .int .i64 z ∧ -9223372036854775808 ≤ z ∧ z ≤ 9223372036854775807 := by
  obtain ⟨N, hc1, _, wN⟩ := DataW.trod_int Tryd.underlying3 h
  simp only [List.cons.injEq, and_true] at hc1
  simp only [Lit.wf, Bool.and_eq_true, decide_eq_true_eq] at wN
  exact ⟨N, hc1, by simpa [IntKind.min, IntKind.max, IntKind.signed, IntKind.bits] using wN⟩
/-- what a slice of pairs holds -/
def HoldP (W : World) (x : Value) (A : Option Addr) (l : List (Int × Int)) (c : Nat) : Prop := x = .slice A l.length c ∧ l.length ≤ c ∧ c ≤ 9223372036854775807 ∧ RP W A l ∧ (A = none → l = [] ∧ c = 0) ∧ ∀ p ∈ l, I64 p
theorem trod_prs {H : Type} {enc : TypeId × Value → H} {W : World} {hd : Bool} {base fuel : Nat} {x : Value} {y : DataW H × List MemPlace} (h : DataW.trod enc Tryd.prog W base (fun _ => true) hd fuel 22 [x] = some y) : ∃ A l c, HoldP W x A l c := by
  rcases open_slice_pairs Tryd.underlying22 Tryd.underlying42 cellsPair rfl rfl cellsInt cellsInt h with ⟨hcs, _⟩ | ⟨aa, len, cap, m, n2, V0, V1, D0, D1, P0, P1, hcs, _, hl, hm, hmm, _, hx⟩
  · simp only [List.cons.injEq, and_true] at hcs
    exact ⟨none, [], 0, hcs, Nat.le_refl _, by omega, RP.nil _ _, (fun _ => ⟨rfl, rfl⟩), fun p hp => by cases hp⟩
  · simp only [List.cons.injEq, and_true] at hcs
    have each : ∀ i, i < m → ∃ q : Int × Int, W.cell? (aa.add (i * 2)) = some (.int .i64 q.1) ∧ W.cell? (aa.add (i * 2 + 1)) = some (.int .i64 q.2) ∧ I64 q := fun i hi => by
      obtain ⟨h1, h2, h3, h4⟩ := hx i hi
      obtain ⟨z0, e0, w0⟩ := trod_int1 h3
      obtain ⟨z1, e1, w1⟩ := trod_int1 h4
      exact ⟨(z0, z1), by rw [h1, e0], by rw [h2, e1], by unfold I64; exact ⟨w0, w1⟩⟩
    obtain ⟨q, hq⟩ := choose_lt each
    have hlm : len ≤ m := by rw [hmm]; split <;> omega
    have hlen : ((List.range len).map q).length = len := by simp
    refine ⟨some aa, (List.range len).map q, cap, by rw [hlen]; exact hcs, by rw [hlen]; exact hl, by simp only [maxLen] at hm; omega, fun k hk => ?_, (fun e => by cases e), fun p hp => ?_⟩
    · rw [hlen] at hk
      obtain ⟨h1, h2, _⟩ := hq k (by omega)
      obtain ⟨b, off, spot⟩ := aa
      have hspot : spot = none := by simpa [Addr.add] using World.cell?_spot (hq 0 (by omega)).1
      subst hspot
      rw [plainC] at h1 h2
      refine ⟨b, off, rfl, ?_, ?_⟩
      · rw [h1]
        simp [List.getD, hk]
      · rw [show off + k * 2 + 1 = off + (k * 2 + 1) by omega, h2]
        simp [List.getD, hk]
    · obtain ⟨i, hi, rfl⟩ := List.mem_map.1 hp
      exact (hq i (by have := List.mem_range.1 hi; omega)).2.2
set_option maxRecDepth 100000 in
/-- an argument of type []Pair; it reads the same in a later world -/
theorem open_prs {H : Type} {enc : TypeId × Value → H} {W : World} {v : Value} {d : DataW H} {ps : List MemPlace} {base : Nat} (hv : Value.okWide Tryd.prog W .any base 22 v)
    (h : DataW.Trod enc Tryd.prog W 0 (fun _ => true) true 22 v d ps) (hlt : ∀ x ∈ ps, x.block < W.heap.size) :
    ∃ (A : Option Addr) (l : List (Int × Int)) (c : Nat), v = .slice A l.length c ∧ l.length ≤ c ∧ c ≤ 9223372036854775807 ∧ RP W A l ∧ (A = none → l = [] ∧ c = 0) ∧ (∀ p ∈ l, I64 p) ∧
      ∀ W', Below W.heap.size W W' → ∀ sp : Nat → Bool, (∀ x ∈ ps, sp x.block = true) → DataW.Trod enc Tryd.prog W' 0 sp true 22 v d ps := by
  have again : ∀ W', Below W.heap.size W W' → ∀ sp : Nat → Bool, (∀ x ∈ ps, sp x.block = true) → DataW.Trod enc Tryd.prog W' 0 sp true 22 v d ps := fun W' hb sp hsp =>
    WideElems.Trod_stays laidOut (by kernel_rfl) (of_decide_eq_true (by kernel_rfl)) h (fun x hx => hb.same (hlt x hx)) hsp
  obtain ⟨a0, len, cap, rfl⟩ := okWide_slice Tryd.underlying22 hv
  obtain ⟨fuel, hf⟩ := h
  obtain ⟨A, l, c, e, h1, h2, h3, h4, h5⟩ := trod_prs hf
  exact ⟨A, l, c, e, h1, h2, h3, h4, h5, again⟩
/-- what an enforcement holds -/
def HoldE (W : World) (A : Option Addr) (s : List Int) (c : Nat) (B : Option Addr) (C : List (Int × Int)) (d : Nat) (D : Option Addr) (O : List (List (Int × Int))) (e : Nat) : Prop :=
  s.length ≤ c ∧ c ≤ 9223372036854775807 ∧ RI W A s ∧ (A = none → s = [] ∧ c = 0) ∧ C.length ≤ d ∧ d ≤ 9223372036854775807 ∧ RP W B C ∧ (B = none → C = [] ∧ d = 0) ∧ O.length ≤ e ∧ e ≤ 9223372036854775807 ∧ RTo W D O ∧ (D = none → O = [] ∧ e = 0) ∧ ∀ l ∈ O, l.length ≤ 9223372036854775807 ∧ ∀ p ∈ l, I64 p
set_option maxRecDepth 100000 in
/-- an argument of type Enforcement; it reads the same in a later world -/
theorem open_enf {H : Type} {enc : TypeId × Value → H} {W : World} {v : Value} {d : DataW H} {ps : List MemPlace} {base : Nat} (hv : Value.okWide Tryd.prog W .any base 28 v)
    (h : DataW.Trod enc Tryd.prog W 0 (fun _ => true) true 28 v d ps) (hlt : ∀ x ∈ ps, x.block < W.heap.size) :
    ∃ (A : Option Addr) (s : List Int) (c : Nat) (B : Option Addr) (C : List (Int × Int)) (cB : Nat) (D : Option Addr) (O : List (List (Int × Int))) (e : Nat), v = .agg #[.slice A s.length c, .slice B C.length cB, .slice D O.length e] ∧ HoldE W A s c B C cB D O e ∧
      ∀ W', Below W.heap.size W W' → ∀ sp : Nat → Bool, (∀ x ∈ ps, sp x.block = true) → DataW.Trod enc Tryd.prog W' 0 sp true 28 v d ps := by
  have again : ∀ W', Below W.heap.size W W' → ∀ sp : Nat → Bool, (∀ x ∈ ps, sp x.block = true) → DataW.Trod enc Tryd.prog W' 0 sp true 28 v d ps := fun W' hb sp hsp =>
    WideElems.Trod_stays laidOut (by kernel_rfl) (of_decide_eq_true (by kernel_rfl)) h (fun x hx => hb.same (hlt x hx)) hsp
  obtain ⟨cs, rfl, hcs⟩ := okWide_struct Tryd.underlying28 hv
  rw [cellsEnf] at hcs
  obtain ⟨x0, x1, x2, rfl⟩ : ∃ a b c, cs = #[a, b, c] := by
    match cs, hcs with
    | ⟨[a, b, c]⟩, _ => exact ⟨a, b, c, rfl⟩
  obtain ⟨fuel, hf⟩ := h
  obtain ⟨y0, y1, y2, n, _, _, t0, t1, t2⟩ := trod_struct3 Tryd.underlying28 hf
  simp only [Value.cells, cellsInts1, cellsPairs, cellsOuts, List.drop, List.take] at t0 t1 t2
  obtain ⟨A, s, c, rfl, hs1, hs2, hs3, hs4⟩ : ∃ (B : Option Addr) (b : List Int) (e : Nat), x0 = .slice B b.length e ∧ b.length ≤ e ∧ e ≤ 9223372036854775807 ∧ RI W B b ∧ (B = none → b = [] ∧ e = 0) := by
    rcases open_ints Tryd.underlying25 Tryd.underlying3 cellsInt t0 with ⟨hcs, _⟩ | ⟨a, len, cap, zs, hcs, _, hl, hm, hz, _, hcell, hwz⟩
    · simp only [List.cons.injEq, and_true] at hcs
      exact ⟨none, [], 0, hcs, Nat.le_refl _, by omega, RI.nil _ _, (fun _ => ⟨rfl, rfl⟩)⟩
    · simp only [List.cons.injEq, and_true] at hcs
      simp only [if_true] at hz
      have hlen : (zs.take len).length = len := by simp; omega
      refine ⟨some a, zs.take len, cap, by rw [hlen]; exact hcs, by rw [hlen]; exact hl, by simp only [maxLen] at hm; omega, fun k hk => ?_, (fun e => by cases e)⟩
      rw [hlen] at hk
      have hc := hcell k (by omega)
      obtain ⟨b, off, spot⟩ := a
      have hspot : spot = none := by simpa [Addr.add] using World.cell?_spot (hcell 0 (by omega))
      subst hspot
      refine ⟨b, off, rfl, ?_⟩
      rw [plainC] at hc
      rw [hc]
      simp [List.getD, hk]
  obtain ⟨B, C, cB, rfl, hC⟩ := trod_prs t1
  obtain ⟨D, O, e, rfl, hO⟩ : ∃ (D : Option Addr) (O : List (List (Int × Int))) (e : Nat), x2 = .slice D O.length e ∧ O.length ≤ e ∧ e ≤ 9223372036854775807 ∧ RTo W D O ∧ (D = none → O = [] ∧ e = 0) ∧ ∀ l ∈ O, l.length ≤ 9223372036854775807 ∧ ∀ p ∈ l, I64 p := by
    rcases open_slice1 Tryd.underlying26 cellsPairs t2 with ⟨hcs, _⟩ | ⟨a, len, cap, m, n, V, D, Pl, hcs, _, hl, hm, hmm, _, hx⟩
    · simp only [List.cons.injEq, and_true] at hcs
      exact ⟨none, [], 0, hcs, Nat.le_refl _, by omega, RTo.nil _ _, (fun _ => ⟨rfl, rfl⟩), fun l hl => by cases hl⟩
    · simp only [List.cons.injEq, and_true] at hcs
      have hlm : len ≤ m := by rw [hmm]; split <;> omega
      have each : ∀ i, i < m → ∃ q : Option Addr × List (Int × Int) × Nat, W.cell? (a.add i) = some (V i) ∧ HoldP W (V i) q.1 q.2.1 q.2.2 := fun i hi => by
        obtain ⟨h1, h2⟩ := hx i hi
        obtain ⟨A', l', c', h3⟩ := trod_prs h2
        exact ⟨(A', l', c'), h1, h3⟩
      obtain ⟨q, hq⟩ := choose_lt each
      have hlen : ((List.range len).map fun i => (q i).2.1).length = len := by simp
      refine ⟨some a, (List.range len).map fun i => (q i).2.1, cap, by rw [hlen]; exact hcs, by rw [hlen]; exact hl, by simp only [maxLen] at hm; omega, fun k hk => ?_, (fun e => by cases e), fun l hl' => ?_⟩
      · have hk' := hk
        rw [hlen] at hk'
        obtain ⟨h1, h2, h3, h4, h5, h6⟩ := hq k (by omega)
        obtain ⟨b, off, spot⟩ := a
        have hspot : spot = none := by simpa [Addr.add] using World.cell?_spot (hq 0 (by omega)).1
        subst hspot
        rw [plainC] at h1
        have hg : ((List.range len).map fun i => (q i).2.1)[k] = (q k).2.1 := by simp
        rw [hg]
        exact ⟨b, off, (q k).1, (q k).2.2, rfl, by rw [h1, h2], h5⟩
      · obtain ⟨i, hi, rfl⟩ := List.mem_map.1 hl'
        obtain ⟨h1, h2, h3, h4, h5, h6, h7⟩ := hq i (by have := List.mem_range.1 hi; omega)
        exact ⟨by omega, h7⟩
  exact ⟨A, s, c, B, C, cB, D, O, e, rfl, ⟨hs1, hs2, hs3, hs4, hC.1, hC.2.1, hC.2.2.1, hC.2.2.2.1, hO.1, hO.2.1, hO.2.2.1, hO.2.2.2.1, hO.2.2.2.2⟩, again⟩
end Go.Proofs.YtncimnfhfomddaaDoor

/- The frame: how long the slices of an enforcement are, by their weights. -/
namespace Go.Proofs.YtncimnfhfomddaaDoor
open Go.ChangeShapes Go.WideShapes Go.ChangeAt Go.RowKit Go.Deep

theorem bytesPair : Tryd.prog.bytesOf 42 = 16 := by kernel_rfl
theorem bytesInt : Tryd.prog.bytesOf 3 = 8 := by kernel_rfl
theorem wall_mem {H : Type} {P : Program} {e : TypeId} {ds : List (DataW H)} (h : (DataW.weightsAll P e ds).all (· ≤ reachBytes) = true) : ∀ d ∈ ds, (d.weights P e).all (· ≤ reachBytes) = true := by
  induction ds with
  | nil => intro d hd; cases hd
  | cons a r ih =>
    rw [DataW.weightsAll, List.all_append, Bool.and_eq_true] at h
    intro d hd
    rcases List.mem_cons.1 hd with rfl | hd
    · exact h.1
    · exact ih h.2 d hd
theorem wt_slice {H : Type} {P : Program} {t e : TypeId} {es rs : List (DataW H)} (ht : P.underlying t = some (.slice e)) (h : ((DataW.slice es rs).weights P t).all (· ≤ reachBytes) = true) :
    (es.length + rs.length) * P.bytesOf e ≤ reachBytes ∧ ∀ d ∈ es, (d.weights P e).all (· ≤ reachBytes) = true := by
  rw [DataW.weights, ht] at h
  simp only [List.all_cons, List.all_append, Bool.and_eq_true, decide_eq_true_eq] at h
  exact ⟨h.1, wall_mem h.2.1⟩
set_option maxRecDepth 100000 in
theorem wt_prs {H : Type} {enc : TypeId × Value → H} {W : World} {hd : Bool} {base fuel : Nat} {A : Option Addr} {len c : Nat} {y : DataW H × List MemPlace} (h : DataW.trod enc Tryd.prog W base (fun _ => true) hd fuel 22 [.slice A len c] = some y)
    (hw : (y.1.weights Tryd.prog 22).all (· ≤ reachBytes) = true) : len ≤ 140737488355328 := by
  rcases open_slice_pairs Tryd.underlying22 Tryd.underlying42 cellsPair rfl rfl cellsInt cellsInt h with ⟨hcs, _⟩ | ⟨aa, len', cap, m, n2, V0, V1, D0, D1, P0, P1, hcs, _, hl, hm, hmm, rfl, hx⟩
  · simp only [List.cons.injEq, and_true] at hcs
    injection hcs with _ h2
    omega
  · simp only [List.cons.injEq, and_true] at hcs
    injection hcs with _ h2
    have := (wt_slice Tryd.underlying22 hw).1
    rw [bytesPair] at this
    simp only [List.length_map, List.length_range, reachBytes] at this
    omega
set_option maxRecDepth 100000 in
theorem wt_ints {H : Type} {enc : TypeId × Value → H} {W : World} {hd : Bool} {base fuel : Nat} {A : Option Addr} {len c : Nat} {y : DataW H × List MemPlace} (h : DataW.trod enc Tryd.prog W base (fun _ => true) hd fuel 25 [.slice A len c] = some y)
    (hw : (y.1.weights Tryd.prog 25).all (· ≤ reachBytes) = true) : len ≤ 140737488355328 := by
  rcases open_ints Tryd.underlying25 Tryd.underlying3 cellsInt h with ⟨hcs, _⟩ | ⟨a, len', cap, zs, hcs, _, hl, hm, hz, rfl, hcell, hwz⟩
  · simp only [List.cons.injEq, and_true] at hcs
    injection hcs with _ h2
    omega
  · simp only [List.cons.injEq, and_true] at hcs
    injection hcs with _ h2
    have := (wt_slice Tryd.underlying25 hw).1
    rw [bytesInt] at this
    simp only [if_true] at hz
    simp only [lits, List.length_map, List.length_take, List.length_drop, reachBytes] at this
    omega
/-- how long the slices of an enforcement are -/
def WtE (s : List Int) (C : List (Int × Int)) (O : List (List (Int × Int))) : Prop := s.length ≤ 140737488355328 ∧ C.length ≤ 140737488355328 ∧ ∀ l ∈ O, l.length ≤ 140737488355328
set_option maxRecDepth 100000 in
theorem wt_enf {H : Type} {enc : TypeId × Value → H} {W : World} {A : Option Addr} {s : List Int} {c : Nat} {B : Option Addr} {C : List (Int × Int)} {cB : Nat} {D : Option Addr} {O : List (List (Int × Int))} {e : Nat} {d : DataW H} {ps : List MemPlace}
    (h : DataW.Trod enc Tryd.prog W 0 (fun _ => true) true 28 (.agg #[.slice A s.length c, .slice B C.length cB, .slice D O.length e]) d ps) (hO : RTo W D O) (hw : (d.weights Tryd.prog 28).all (· ≤ reachBytes) = true) : WtE s C O := by
  obtain ⟨fuel, hf⟩ := h
  obtain ⟨y0, y1, y2, n, hxy, _, t0, t1, t2⟩ := trod_struct3 Tryd.underlying28 hf
  simp only [Value.cells, cellsInts1, cellsPairs, cellsOuts, List.drop, List.take] at t0 t1 t2
  injection hxy with hd _
  subst hd
  rw [DataW.weights, Tryd.underlying28] at hw
  simp only [List.map, DataW.weightsEach, List.all_append, Bool.and_eq_true] at hw
  obtain ⟨w0, w1, w2, _⟩ := hw
  refine ⟨wt_ints t0 w0, wt_prs t1 w1, fun l hl => ?_⟩
  obtain ⟨k, hk, rfl⟩ := List.getElem_of_mem hl
  obtain ⟨b, o, A', c', rfl, hc, _⟩ := hO k hk
  rcases open_slice1 Tryd.underlying26 cellsPairs t2 with ⟨hcs, _⟩ | ⟨a, len, cap, m, n, V, D, Pl, hcs, _, hl, hm, hmm, rfl, hx⟩
  · simp only [List.cons.injEq, and_true] at hcs
    cases hcs
  · simp only [List.cons.injEq, and_true] at hcs
    injection hcs with h1 h2
    injection h1 with h1
    subst h1
    have hkm : k < m := by rw [hmm]; split <;> omega
    obtain ⟨h3, h4⟩ := hx k hkm
    rw [plainC, hc] at h3
    injection h3 with h3
    rw [← h3] at h4
    exact wt_prs h4 ((wt_slice Tryd.underlying26 w2).2 _ (List.mem_map.2 ⟨k, List.mem_range.2 (by omega), rfl⟩))
end Go.Proofs.YtncimnfhfomddaaDoor
