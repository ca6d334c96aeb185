/- Package referee: Record, Replay, Judge. -/
import Derived.Test.YthkknlnfdckdfaaRg1
namespace Go.Proofs.Ythkknlnfdckdfaa
open Go.ChangeShapes Go.WideShapes Go.ChangeAt Go.RowKit

/-- the call returns the transcript of a dialogue -/
def RetRec (n : Nat) (l : List (Int × Int)) (root l0 l1 : Int) (ms : List Mv) (w : World) : Ending → World → Prop := fun e w' => ∃ A c M cm, e = .returned (.agg #[.int .i64 (n : Int), .slice A l.length c, .int .i64 root, .int .i64 l0, .int .i64 l1, .slice M ms.length cm]) ∧ OwnP w' w.heap.size (.slice A l.length c) l ∧ OwnM w' w.heap.size (.slice M ms.length cm) ms ∧ Below w.heap.size w w'
set_option maxRecDepth 100000 in
set_option maxHeartbeats 4000000 in
theorem record_any (n : Nat) (A : Option Addr) (l : List (Int × Int)) (c : Nat) (root l0 l1 : Int) (M : Option Addr) (ms : List Mv) (cm : Nat) (w : World) (hp : RP w A l) (hA : A = none → l = [] ∧ c = 0) (hll : l.length ≤ 1600) (hr : RM w M ms) (hM : M = none → ms = [] ∧ cm = 0) (hl : ms.length ≤ 300) :
    Calls Try.prog 11 #[.agg #[.int .i64 (n : Int), .slice A l.length c, .int .i64 root, .int .i64 l0, .int .i64 l1, .slice M ms.length cm]] w (RetRec n l root l0 l1 ms w) := by
  go_enter Try.func11, Try.ntmps11
  go_upto_region 1 with fail
  obtain ⟨W0, hW, k0, k1, hb0, hs0⟩ := boxed2A w 34 43 #[.int .i64 (n : Int), .slice A l.length c, .int .i64 root, .int .i64 l0, .int .i64 l1, .slice M ms.length cm] #[.int .i64 0, .slice none 0 0, .int .i64 0, .int .i64 0, .int .i64 0, .slice none 0 0]
  rw [hW]
  have hp0 := hp.below hb0; have hr0 := hr.below hb0
  clear hW hp hr
  refine wp_region_textZ [6, 14, 16] (fun w' => Below W0.heap.size W0 w') (fun _ => True) (by kernel_rfl) (by kernel_rfl) (by kernel_rfl) (by kernel_rfl) (Below.refl _ _).drew trivial ?_
  repeat (first
    | (refine TxtZL.skip (by rfl) ?_; simp only [Act.put, List.setIfInBounds_toArray, List.set_cons_zero, List.set_cons_succ])
    | (refine TxtZL.take (by rfl) (by rfl) ?_; apply Exists.intro; refine ⟨fun w1 hS1 => ?_, ?_⟩; (focus ((obtain ⟨g0, g1, g2, g3, g4, g5⟩ := dgC (k0.below hS1 (by omega))); go_simp; with_reducible rfl)); simp only [Act.put, List.setIfInBounds_toArray, List.set_cons_zero, List.set_cons_succ])
    | (refine TxtZL.takeE' (by rfl) (by rfl) ?_; apply Exists.intro; refine ⟨fun w1 hS1 => ?_, ?_⟩; (focus ((obtain ⟨g0, g1, g2, g3, g4, g5⟩ := dgC (k0.below hS1 (by omega))); go_simp; with_reducible rfl)); simp only [Act.put, List.setIfInBounds_toArray, List.set_cons_zero, List.set_cons_succ]))
  refine TxtZL.call (f := 24) (args := #[.slice A l.length c]) (fun u => ∃ A' c', u = Value.slice A' l.length c') (fun u w' => OwnP w' W0.heap.size u l) (by rfl) (by rfl) ⟨_, none, 0, rfl⟩ (fun w1 hS1 hJ1 => by go_simp) (fun w1 hS1 hJ1 => ?_) ?_
  · refine (clonePs_any A l c w1 (hp0.below hS1) hA (by omega)).mono ?_
    rintro e w' ⟨A', c', rfl, ho, hb⟩
    exact ⟨_, rfl, hS1.trans (hb.mono hS1.size), ⟨A', c', rfl⟩, ownsRow_mono ho hS1.size⟩
  rintro v9 ⟨A1, c1, rfl⟩
  simp only [Act.put, List.setIfInBounds_toArray, List.set_cons_zero, List.set_cons_succ]
  repeat (first
    | (refine TxtZL.skip (by rfl) ?_; simp only [Act.put, List.setIfInBounds_toArray, List.set_cons_zero, List.set_cons_succ])
    | (refine TxtZL.take (by rfl) (by rfl) ?_; apply Exists.intro; refine ⟨fun w1 hS1 => ?_, ?_⟩; (focus ((obtain ⟨g0, g1, g2, g3, g4, g5⟩ := dgC (k0.below hS1 (by omega))); go_simp; with_reducible rfl)); simp only [Act.put, List.setIfInBounds_toArray, List.set_cons_zero, List.set_cons_succ])
    | (refine TxtZL.takeE' (by rfl) (by rfl) ?_; apply Exists.intro; refine ⟨fun w1 hS1 => ?_, ?_⟩; (focus ((obtain ⟨g0, g1, g2, g3, g4, g5⟩ := dgC (k0.below hS1 (by omega))); go_simp; with_reducible rfl)); simp only [Act.put, List.setIfInBounds_toArray, List.set_cons_zero, List.set_cons_succ]))
  refine TxtZL.call (f := 28) (args := #[.slice M ms.length cm]) (fun u => ∃ M1 cm1, u = Value.slice M1 ms.length cm1) (fun u w' => OwnP w' W0.heap.size (.slice A1 l.length c1) l ∧ OwnM w' W0.heap.size u ms) (by rfl) (by rfl) ⟨_, none, 0, rfl⟩ (fun w1 hS1 hJ1 => by go_simp) (fun w1 hS1 hJ1 => ?_) ?_
  · refine (cloneM_any M ms cm w1 (hr0.below hS1) hM (by omega)).mono ?_
    rintro e w' ⟨M1, cm1, rfl, ho, hb⟩
    exact ⟨_, rfl, hS1.trans (hb.mono hS1.size), ⟨M1, cm1, rfl⟩, ownsRow_below hJ1 hb, ho.mono hS1.size⟩
  rintro v17 ⟨M1, cm1, rfl⟩
  simp only [Act.put, List.setIfInBounds_toArray, List.set_cons_zero, List.set_cons_succ]
  repeat (first
    | (refine TxtZL.skip (by rfl) ?_; simp only [Act.put, List.setIfInBounds_toArray, List.set_cons_zero, List.set_cons_succ])
    | (refine TxtZL.take (by rfl) (by rfl) ?_; apply Exists.intro; refine ⟨fun w1 hS1 => ?_, ?_⟩; (focus (skip; go_simp; with_reducible rfl)); simp only [Act.put, List.setIfInBounds_toArray, List.set_cons_zero, List.set_cons_succ])
    | (refine TxtZL.takeE' (by rfl) (by rfl) ?_; apply Exists.intro; refine ⟨fun w1 hS1 => ?_, ?_⟩; (focus (skip; go_simp; with_reducible rfl)); simp only [Act.put, List.setIfInBounds_toArray, List.set_cons_zero, List.set_cons_succ]))
  refine TxtZL.last (fun w' => Blk w' (w.heap.size + 1) 43 #[.int .i64 (n : Int), .slice A1 l.length c1, .int .i64 root, .int .i64 l0, .int .i64 l1, .slice M1 ms.length cm1] ∧ OwnP w' W0.heap.size (.slice A1 l.length c1) l ∧ OwnM w' W0.heap.size (.slice M1 ms.length cm1) ms ∧ Below w.heap.size w w') (by rfl) (by rfl) (fun w1 hS1 hJ1 => ?_) ?_
  · have hk := k1.below hS1 (by omega)
    obtain ⟨g0, g1, g2, g3, g4, g5⟩ := dgC hk
    obtain ⟨f0, f1, f2, f3, f4, f5⟩ := dgF hk
    exact Eff.skip (w' := (((((w1.setCell ⟨w.heap.size + 1, 0, none⟩ (.int .i64 (n : Int))).setCell ⟨w.heap.size + 1, 1, none⟩ (.slice A1 l.length c1)).setCell ⟨w.heap.size + 1, 2, none⟩ (.int .i64 root)).setCell ⟨w.heap.size + 1, 3, none⟩ (.int .i64 l0)).setCell ⟨w.heap.size + 1, 4, none⟩ (.int .i64 l1)).setCell ⟨w.heap.size + 1, 5, none⟩ (.slice M1 ms.length cm1)) (by go_simp) ⟨set6 hk .., own_set6 hJ1.1 (by omega) .., own_set6 hJ1.2 (by omega) .., below_set6 (endB hb0 hS1) (by omega) ..⟩
  rintro v w2 ⟨hk, ho, hm, hb⟩
  obtain ⟨r0, r1, r2, r3, r4, r5⟩ := dgC hk
  have Ho := Lib.hid ho; have Hm := Lib.hid hm; have Hb := Lib.hid hb
  clear ho hm hb k0 k1 hk
  go_wp2_with fail
  refine bodyPost_ret (v := .agg #[.int .i64 (n : Int), .slice A1 l.length c1, .int .i64 root, .int .i64 l0, .int .i64 l1, .slice M1 ms.length cm1]) (by simp [results, Try.results11, go_sem, r0, r1, r2, r3, r4, r5]) rfl ?_
  exact ⟨A1, c1, M1, cm1, rfl, ownsRow_mono Ho.out hb0.size, Hm.out.mono hb0.size, Hb.out⟩
/-- a list of moves that a run may have made -/
structure PlayL (l0 l1 : Int) (l : List (Int × Int)) (root : Int) (ms : List Mv) : Prop where
  pos : 0 < ms.length
  head : mv ms 0 = (1, 1, root, 0)
  step : ∀ k, 0 < k → k < ms.length → turnF l0 l1 l (ms.take k) ≠ 0 ∧ MayB l (ms.take k) (mv ms k)
theorem take_one {ms : List Mv} (h : 0 < ms.length) : ms.take 1 = [mv ms 0] := by
  cases ms with
  | nil => simp at h
  | cons m r => rfl
theorem take_next {ms : List Mv} {k : Nat} (h : k < ms.length) : ms.take (k + 1) = ms.take k ++ [mv ms k] := by rw [List.take_succ_eq_append_getElem h, mv_at h]
theorem PlayL.ok {l0 l1 : Int} {l : List (Int × Int)} {root : Int} {ms : List Mv} (h : PlayL l0 l1 l root ms) : ∀ k, 0 < k → k ≤ ms.length → OkM (ms.take k)
  | 0, h0, _ => by omega
  | 1, _, _ => by rw [take_one h.pos, h.head]; exact clm_ok root
  | k + 2, _, hk => by
    rw [take_next (by omega)]
    obtain ⟨h1, h2⟩ := h.step (k + 1) (by omega) (by omega)
    exact (PlayL.ok h (k + 1) (by omega) (by omega)).snoc (turn_run h1).1 h2
theorem PlayL.len {l0 l1 : Int} {l : List (Int × Int)} {root : Int} {ms : List Mv} (h : PlayL l0 l1 l root ms) : ms.length ≤ 200 := by
  rcases Nat.lt_or_ge ms.length 2 with h2 | h2
  · omega
  · have := (turn_run (h.step (ms.length - 1) (by omega) (by omega)).1).2.1
    rw [List.length_take] at this; omega
theorem mv_take {ms : List Mv} {k i : Nat} (h : i < k) (hk : k ≤ ms.length) : mv (ms.take k) i = mv ms i := by
  rw [mv_at (by rw [List.length_take]; omega), mv_at (by omega), List.getElem_take]
theorem run_neqM (k f t u k' x y z : Int) (w : World) : (binOp .neq 46 (.agg #[.int .i64 k, .int .i64 f, .int .i64 t, .int .i64 u]) (.agg #[.int .i64 k', .int .i64 x, .int .i64 y, .int .i64 z])).run Try.prog w = .ok (.bool (!(k == k' && (f == x && (t == y && u == z))))) w := by
  have u3 := Try.underlying3
  have a3 := Try.isAgg3
  have z3 := Try.sizeOf3
  have hp : Try.prog.stoodInHeld 46 = false := by kernel_rfl
  rw [run_neq_struct, show (10000 : Nat) = 9999 + 1 from rfl, run_equalIn_agg w 9999 46 _ _ und_mv hp]
  simp only [Program.fieldsOf, Try.underlying46]
  go_simp
  by_cases h0 : k = k' <;> by_cases h1 : f = x <;> by_cases h2 : t = y <;> by_cases h3 : u = z <;> simp [h0, h1, h2, h3]
theorem run_eqlO (x y x' y' : Int) (w : World) : (binOp .eql 64 (.agg #[.int .i64 x, .int .i64 y]) (.agg #[.int .i64 x', .int .i64 y'])).run Try.prog w = .ok (.bool (x == x' && y == y')) w := by
  have u3 := Try.underlying3
  have a3 := Try.isAgg3
  have z3 := Try.sizeOf3
  have hp : Try.prog.stoodInHeld 64 = false := by kernel_rfl
  have hu : Try.prog.underlying 64 = some (.struct (Try.prog.fieldsOf 64)) := by kernel_rfl
  rw [run_eql_struct, show (10000 : Nat) = 9999 + 1 from rfl, run_equalIn_agg w 9999 64 _ _ hu hp]
  simp only [Program.fieldsOf, Try.underlying64]
  go_simp
  by_cases h0 : x = x' <;> by_cases h1 : y = y' <;> simp [h0, h1]
end Go.Proofs.Ythkknlnfdckdfaa
