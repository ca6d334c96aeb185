/- The frame, for arguments that are tried themselves. -/
import Derived.Test.YtiljbfeipfdmdaaDoorFr
namespace Go.Proofs.YtiljbfeipfdmdaaDoor
open Go.ChangeShapes Go.WideShapes Go.ChangeAt Go.RowKit

set_option maxRecDepth 100000 in
/-- an argument of type []int: the list that it holds, and where; it reads the same in a later world -/
theorem open_arg2 {H : Type} {enc : TypeId × Value → H} {W : World} {v : Value} {d : DataW H} {ps : List MemPlace} {base : Nat} (hv : Value.okWide Tryd.prog W .any base 22 v)
    (h : DataW.Trod enc Tryd.prog W 0 (fun _ => true) true 22 v d ps) (hlt : ∀ x ∈ ps, x.block < W.heap.size) :
    ∃ (A : Option Addr) (l : List Int) (c : Nat), v = .slice A l.length c ∧ l.length ≤ c ∧ c ≤ 9223372036854775807 ∧ RI W A l ∧ (A = none → l = [] ∧ c = 0) ∧ (∀ x ∈ l, -9223372036854775808 ≤ x ∧ x ≤ 9223372036854775807) ∧
      ∀ W', Below W.heap.size W W' → ∀ sp : Nat → Bool, (∀ x ∈ ps, sp x.block = true) → DataW.Trod enc Tryd.prog W' 0 sp true 22 v d ps := by
  have again : ∀ W', Below W.heap.size W W' → ∀ sp : Nat → Bool, (∀ x ∈ ps, sp x.block = true) → DataW.Trod enc Tryd.prog W' 0 sp true 22 v d ps := fun W' hb sp hsp =>
    WideElems.Trod_stays laidOut (by kernel_rfl) (of_decide_eq_true (by kernel_rfl)) h (fun x hx => hb.same (hlt x hx)) hsp
  obtain ⟨a0, len, cap, rfl⟩ := okWide_slice Tryd.underlying22 hv
  obtain ⟨fuel, hf⟩ := h
  rcases open_ints Tryd.underlying22 Tryd.underlying3 cellsInt hf with ⟨hcs, _⟩ | ⟨a, len', cap', zs, hcs, _, hl, hm, hz, _, hcell, hwz⟩
  · simp [Value.cells] at hcs
    obtain ⟨rfl, rfl, rfl⟩ := hcs
    exact ⟨none, [], 0, rfl, Nat.le_refl _, by omega, RI.nil _ _, (fun _ => ⟨rfl, rfl⟩), (fun x hx => by cases hx), again⟩
  · simp [Value.cells] at hcs
    obtain ⟨rfl, rfl, rfl⟩ := hcs
    simp only [if_true] at hz
    have hlen : (zs.take len).length = len := by simp; omega
    refine ⟨some a, zs.take len, cap, by rw [hlen], by rw [hlen]; exact hl, by simp only [maxLen] at hm; omega, fun k hk => ?_, (fun e => by cases e), fun x hx => ?_, again⟩
    · rw [hlen] at hk
      have hc := hcell k (by omega)
      obtain ⟨b, off, spot⟩ := a
      have hspot : spot = none := by simpa [Addr.add] using World.cell?_spot (hcell 0 (by omega))
      subst hspot
      refine ⟨b, off, rfl, ?_⟩
      rw [show (⟨b, off, none⟩ : Addr).add k = ⟨b, off + k, none⟩ by unfold Addr.add; split <;> simp_all] at hc
      rw [hc]
      simp [List.getD, hk]
    · have := hwz x (List.mem_of_mem_take hx)
      simp only [Lit.wf, Bool.and_eq_true, decide_eq_true_eq] at this
      simpa [IntKind.min, IntKind.max, IntKind.signed, IntKind.bits] using this

end Go.Proofs.YtiljbfeipfdmdaaDoor
