import Derived.Test.YthkknlnfdckdfaaBas
import Derived.Test.YthkknlnfdckdfaaRows
import Derived.Lib.LaidTab
import Derived.LaidLaws
import Derived.OpenShut
import Derived.Below
import Derived.Carry
import Derived.ChangeSame
import Derived.ChangeSlices
import Derived.Deep.DeepHandedRow
import Derived.Deep.SlicePairs
import Derived.Deep.Strs
/- The frame of this seat's row, which has no card: the arguments' data opened and shut. -/
namespace Go.Proofs.Ythkknlnfdckdfaa
open Go.ChangeShapes Go.WideShapes Go.ChangeAt Go.RowKit Go.Deep

theorem own : ownKnob Try.prog.godebug = none := by kernel_rfl
theorem cellsInt : Try.prog.cellsOf 3 = 1 := by kernel_rfl
theorem cellsEv : Try.prog.cellsOf 54 = 2 := by kernel_rfl
theorem laidOut : laidOutB Try.prog = true := by kernel_rfl

theorem post_of_below {H : Type} {enc : TypeId × Value → H} {P : Program} {f : Func} {s : ChangeSpec} {apart fresh handsOn again : Bool} {W W' : World} {args : Array Value} {v : Value} {ds gs : List (DataW H)} {before pa pv : List MemPlace}
    (hW : DataW.Whole enc P f.params.toList s.vars apart W args.toList ds gs before)
    (hres : ∀ (b : Nat) (sp : Nat → Bool) (hd : Bool), DataW.TrodAll enc P W' b sp hd f.resultTypes.toList (v.resultList f.resultTypes.size) (s.fn H (ds ++ gs)).results [])
    (hargs : ∀ sp : Nat → Bool, (∀ p ∈ before, sp p.block = true) → DataW.TrodAll enc P W' 0 sp true f.params.toList args.toList (s.fn H (ds ++ gs)).args pa)
    (hvars : ∀ sp : Nat → Bool, (∀ p ∈ before, sp p.block = true) → DataW.TrodVars enc P W' sp s.vars (s.fn H (ds ++ gs)).vars pv)
    (hps : before = pa ++ pv) (hb : Below W.heap.size W W')
    (hok : ∀ (j : Nat) (t : TypeId) (r : Value), f.resultTypes[j]? = some t → (v.resultList f.resultTypes.size)[j]? = some r → Value.okWide P W' .any 0 t r) :
    s.post enc P f apart fresh handsOn again W args v W' := by
  have hlt : ∀ p ∈ before, p.block < W.heap.size := fun p hp => hW.lt p hp
  have hold : ∀ p ∈ before, (fun b => decide (b < W.heap.size)) p.block = true := fun p hp => by simpa using hlt p hp
  refine ⟨ds, gs, before, [], pa, pv, hW, hres _ _ _, hargs _ hold, hvars _ hold, World.keptBut_mono (fun p hp => ⟨hp, ?_⟩) (hb.frame (· ∈ before)), fun _ => ?_⟩
  · rw [hps, List.mem_append] at hp
    exact Or.inr hp
  · obtain ⟨_, _, _, _, _, hz, hn⟩ := hW
    refine ⟨hok, _, _, ([] ++ pa) ++ pv, ⟨[] ++ pa, pv, trodAll_append (hargs _ (fun _ _ => rfl)) (hres _ _ _), hvars _ (fun _ _ => rfl), rfl, ?_, ?_⟩, ?_⟩
    · intro b off hp
      have hin : MemPlace.cell b off ∈ before := by rw [hps]; simpa using hp
      rw [hb.frozen (hlt _ hin)]
      exact hz b off hin
    · intro ha
      have := hn ha
      rw [hps] at this
      simpa using this
    · intro p hp _
      rw [hps]
      simpa using hp

set_option maxRecDepth 100000 in
/-- an argument of type []int: the list that it holds, and where; it reads the same in a later world -/
theorem open_arg2 {H : Type} {enc : TypeId × Value → H} {W : World} {v : Value} {d : DataW H} {ps : List MemPlace} {base : Nat} (hv : Value.okWide Try.prog W .any base 22 v)
    (h : DataW.Trod enc Try.prog W 0 (fun _ => true) true 22 v d ps) (hlt : ∀ x ∈ ps, x.block < W.heap.size) :
    ∃ (A : Option Addr) (l : List Int) (c : Nat), v = .slice A l.length c ∧ l.length ≤ c ∧ c ≤ 9223372036854775807 ∧ RI W A l ∧ (A = none → l = [] ∧ c = 0) ∧ (∀ x ∈ l, -9223372036854775808 ≤ x ∧ x ≤ 9223372036854775807) ∧
      ∀ W', Below W.heap.size W W' → ∀ sp : Nat → Bool, (∀ x ∈ ps, sp x.block = true) → DataW.Trod enc Try.prog W' 0 sp true 22 v d ps := by
  have again : ∀ W', Below W.heap.size W W' → ∀ sp : Nat → Bool, (∀ x ∈ ps, sp x.block = true) → DataW.Trod enc Try.prog W' 0 sp true 22 v d ps := fun W' hb sp hsp =>
    WideElems.Trod_stays laidOut (by kernel_rfl) (of_decide_eq_true (by kernel_rfl)) h (fun x hx => hb.same (hlt x hx)) hsp
  obtain ⟨a0, len, cap, rfl⟩ := okWide_slice Try.underlying22 hv
  obtain ⟨fuel, hf⟩ := h
  rcases open_ints Try.underlying22 Try.underlying3 cellsInt hf with ⟨hcs, _⟩ | ⟨a, len', cap', zs, hcs, _, hl, hm, hz, _, hcell, hwz⟩
  · simp [Value.cells] at hcs
    obtain ⟨rfl, rfl, rfl⟩ := hcs
    exact ⟨none, [], 0, rfl, Nat.le_refl _, by omega, RI.nil _ _, (fun _ => ⟨rfl, rfl⟩), (fun x hx => by cases hx), again⟩
  · simp [Value.cells] at hcs
    obtain ⟨rfl, rfl, rfl⟩ := hcs
    simp only [if_true] at hz
    have hlen : (zs.take len).length = len := by simp; omega
    refine ⟨some a, zs.take len, cap, by rw [hlen], by rw [hlen]; exact hl, by simp only [maxLen] at hm; omega, fun k hk => ?_, (fun e => by cases e), fun x hx => ?_, again⟩
    · rw [hlen] at hk
      have hc := hcell k (by omega)
      obtain ⟨b, off, spot⟩ := a
      have hspot : spot = none := by simpa [Addr.add] using World.cell?_spot (hcell 0 (by omega))
      subst hspot
      refine ⟨b, off, rfl, ?_⟩
      rw [show (⟨b, off, none⟩ : Addr).add k = ⟨b, off + k, none⟩ by unfold Addr.add; split <;> simp_all] at hc
      rw [hc]
      simp [List.getD, hk]
    · have := hwz x (List.mem_of_mem_take hx)
      simp only [Lit.wf, Bool.and_eq_true, decide_eq_true_eq] at this
      simpa [IntKind.min, IntKind.max, IntKind.signed, IntKind.bits] using this

/-- a list of events, as pairs of a kind and a number -/
def RE (w : World) (A : Option Addr) (l : List (Int × Int)) : Prop := RP w A l
set_option maxRecDepth 100000 in
/-- an argument of type []NetEvent; it reads the same in a later world -/
theorem open_evs {H : Type} {enc : TypeId × Value → H} {W : World} {v : Value} {d : DataW H} {ps : List MemPlace} {base : Nat} (hv : Value.okWide Try.prog W .any base 23 v)
    (h : DataW.Trod enc Try.prog W 0 (fun _ => true) true 23 v d ps) (hlt : ∀ x ∈ ps, x.block < W.heap.size) :
    ∃ (A : Option Addr) (l : List (Int × Int)) (c : Nat), v = .slice A l.length c ∧ l.length ≤ c ∧ c ≤ 9223372036854775807 ∧ RP W A l ∧ (A = none → l = [] ∧ c = 0) ∧ (∀ p ∈ l, -9223372036854775808 ≤ p.2 ∧ p.2 ≤ 9223372036854775807) ∧
      ∀ W', Below W.heap.size W W' → ∀ sp : Nat → Bool, (∀ x ∈ ps, sp x.block = true) → DataW.Trod enc Try.prog W' 0 sp true 23 v d ps := by
  have again : ∀ W', Below W.heap.size W W' → ∀ sp : Nat → Bool, (∀ x ∈ ps, sp x.block = true) → DataW.Trod enc Try.prog W' 0 sp true 23 v d ps := fun W' hb sp hsp =>
    WideElems.Trod_stays laidOut (by kernel_rfl) (of_decide_eq_true (by kernel_rfl)) h (fun x hx => hb.same (hlt x hx)) hsp
  obtain ⟨a0, len, cap, rfl⟩ := okWide_slice Try.underlying23 hv
  obtain ⟨fuel, t1⟩ := h
  rcases open_slice_pairs Try.underlying23 Try.underlying54 cellsEv rfl rfl cellsInt cellsInt t1 with ⟨hcs, _⟩ | ⟨aa, len, cap, m, n2, V0, V1, D0, D1, P0, P1, hcs, _, hl, hm, hmm, _, hx⟩
  · simp [Value.cells] at hcs
    obtain ⟨rfl, rfl, rfl⟩ := hcs
    exact ⟨none, [], 0, rfl, Nat.le_refl _, by omega, RP.nil _ _, (fun _ => ⟨rfl, rfl⟩), (fun p hp => by cases hp), again⟩
  · simp [Value.cells] at hcs
    obtain ⟨rfl, rfl, rfl⟩ := hcs
    have each : ∀ i, i < m → ∃ q : Int × Int, W.cell? (aa.add (i * 2)) = some (.int .i64 q.1) ∧ W.cell? (aa.add (i * 2 + 1)) = some (.int .i64 q.2) ∧ -9223372036854775808 ≤ q.2 ∧ q.2 ≤ 9223372036854775807 := fun i hi => by
      obtain ⟨h1, h2, h3, h4⟩ := hx i hi
      obtain ⟨z0, e0, _, _⟩ := DataW.trod_int Try.underlying3 h3
      obtain ⟨z1, e1, _, wN⟩ := DataW.trod_int Try.underlying3 h4
      simp only [List.cons.injEq, and_true] at e0 e1
      simp only [Lit.wf, Bool.and_eq_true, decide_eq_true_eq] at wN
      have wN' : -9223372036854775808 ≤ z1 ∧ z1 ≤ 9223372036854775807 := by simpa [IntKind.min, IntKind.max, IntKind.signed, IntKind.bits] using wN
      exact ⟨(z0, z1), by rw [h1, e0], by rw [h2, e1], wN'⟩
    obtain ⟨q, hq⟩ := choose_lt each
    have hlm : len ≤ m := by rw [hmm]; split <;> omega
    have hlen : ((List.range len).map q).length = len := by simp
    refine ⟨some aa, (List.range len).map q, cap, by rw [hlen], by rw [hlen]; exact hl, by simp only [maxLen] at hm; omega, fun k hk => ?_, (fun e => by cases e), fun p hp => ?_, again⟩
    · rw [hlen] at hk
      obtain ⟨h1, h2, _⟩ := hq k (by omega)
      obtain ⟨b, off, spot⟩ := aa
      have hspot : spot = none := by simpa [Addr.add] using World.cell?_spot (hq 0 (by omega)).1
      subst hspot
      refine ⟨b, off, rfl, ?_, ?_⟩
      · rw [show (⟨b, off, none⟩ : Addr).add (k * 2) = ⟨b, off + k * 2, none⟩ by unfold Addr.add; split <;> simp_all] at h1
        rw [h1]
        simp [List.getD, hk]
      · rw [show (⟨b, off, none⟩ : Addr).add (k * 2 + 1) = ⟨b, off + (k * 2 + 1), none⟩ by unfold Addr.add; split <;> simp_all] at h2
        first
          | (rw [show off + k * 2 + 1 = off + (k * 2 + 1) by omega]; rw [h2]; simp [List.getD, hk])
          | (rw [h2]; simp [List.getD, hk])
    · rw [List.mem_map] at hp
      obtain ⟨i, hi, rfl⟩ := hp
      rw [List.mem_range] at hi
      exact (hq i (by omega)).2.2
end Go.Proofs.Ythkknlnfdckdfaa
