/- The frame, for arguments that are lists of lists. -/
import Derived.Test.YtcpombepajapjaaGreatDoorFrB
import Derived.Deep.Matrix
namespace Go.Proofs.YtcpombepajapjaaGreatDoor
open Go.ChangeShapes Go.WideShapes Go.ChangeAt Go.RowKit Go.Deep

theorem cellsInts : Tryz.prog.cellsOf 26 = 1 := by kernel_rfl
theorem RS.nil (w : World) (A : Option Addr) : RS w A [] := fun k hk => absurd hk (by simp)

set_option maxRecDepth 100000 in
/-- an argument of type [][]int; it reads the same in a later world -/
theorem open_lists {H : Type} {enc : TypeId × Value → H} {W : World} {v : Value} {d : DataW H} {ps : List MemPlace} {base : Nat} (hv : Value.okWide Tryz.prog W .any base 25 v)
    (h : DataW.Trod enc Tryz.prog W 0 (fun _ => true) true 25 v d ps) (hlt : ∀ x ∈ ps, x.block < W.heap.size) :
    ∃ (A : Option Addr) (L : List (List Int)) (c : Nat), v = .slice A L.length c ∧ L.length ≤ c ∧ c ≤ 9223372036854775807 ∧ RS W A L ∧ (A = none → L = [] ∧ c = 0) ∧ (∀ x ∈ L, x.length ≤ 9223372036854775807 ∧ ∀ y ∈ x, -9223372036854775808 ≤ y ∧ y ≤ 9223372036854775807) ∧
      ∀ W', Below W.heap.size W W' → ∀ sp : Nat → Bool, (∀ x ∈ ps, sp x.block = true) → DataW.Trod enc Tryz.prog W' 0 sp true 25 v d ps := by
  have again : ∀ W', Below W.heap.size W W' → ∀ sp : Nat → Bool, (∀ x ∈ ps, sp x.block = true) → DataW.Trod enc Tryz.prog W' 0 sp true 25 v d ps := fun W' hb sp hsp =>
    WideElems.Trod_stays laidOut (by kernel_rfl) (of_decide_eq_true (by kernel_rfl)) h (fun x hx => hb.same (hlt x hx)) hsp
  obtain ⟨a0, len, cap, rfl⟩ := okWide_slice Tryz.underlying25 hv
  obtain ⟨fuel, hf⟩ := h
  rcases open_int_rows Tryz.underlying25 Tryz.underlying26 Tryz.underlying3 cellsInts cellsInt hf with ⟨hcs, _⟩ | ⟨a, len', cap', A, L, C, Z, hcs, _, hl, hm, _, hx⟩
  · simp [Value.cells] at hcs
    obtain ⟨rfl, rfl, rfl⟩ := hcs
    exact ⟨none, [], 0, rfl, Nat.le_refl _, by omega, RS.nil _ _, (fun _ => ⟨rfl, rfl⟩), (fun x hx => by cases hx), again⟩
  · simp [Value.cells] at hcs
    obtain ⟨rfl, rfl, rfl⟩ := hcs
    have hlen : ((List.range len).map fun r => (Z r).take (L r)).length = len := by simp
    have hrow : ∀ r, r < cap → ((Z r).take (L r)).length = L r := fun r hr => by
      obtain ⟨_, h2, _, h4, _⟩ := hx r hr
      rw [List.length_take]; omega
    refine ⟨some a, (List.range len).map fun r => (Z r).take (L r), cap, by rw [hlen], by rw [hlen]; exact hl, by simp only [maxLen] at hm; omega, fun k hk => ?_, (fun e => by cases e), fun x hx' => ?_, again⟩
    · rw [hlen] at hk
      have hkc : k < cap := by omega
      have hg : ((List.range len).map fun r => (Z r).take (L r)).getD k [] = (Z k).take (L k) := by simp [List.getD, hk]
      rw [hg, hrow k hkc]
      obtain ⟨h1, h2, h3, h4, h5, h6, h7⟩ := hx k hkc
      obtain ⟨b, off, spot⟩ := a
      have hspot : spot = none := by simpa [Addr.add] using World.cell?_spot (hx 0 (by omega)).1
      subst hspot
      rw [show (⟨b, off, none⟩ : Addr).add k = ⟨b, off + k, none⟩ by unfold Addr.add; split <;> simp_all] at h1
      refine ⟨b, off, A k, C k, rfl, h1, fun j hj => ?_⟩
      rw [hrow k hkc] at hj
      cases hA : A k with
      | none => have := h6 hA; omega
      | some a' =>
        have hc := (h7 a' hA).2 j (by omega)
        obtain ⟨b', off', spot'⟩ := a'
        have hspot : spot' = none := by simpa [Addr.add] using World.cell?_spot ((h7 _ hA).2 0 (by omega))
        subst hspot
        rw [show (⟨b', off', none⟩ : Addr).add j = ⟨b', off' + j, none⟩ by unfold Addr.add; split <;> simp_all] at hc
        refine ⟨b', off', rfl, ?_⟩
        rw [hc]
        have : j < (Z k).length := by omega
        simp [List.getD, hj]
    · obtain ⟨r, hr, rfl⟩ := List.mem_map.1 hx'
      have hr := List.mem_range.1 hr
      obtain ⟨h1, h2, h3, h4, h5, h6, h7⟩ := hx r (by omega)
      refine ⟨by rw [hrow r (by omega)]; simp only [maxLen] at h3; omega, fun y hy => ?_⟩
      have := h5 y (List.mem_of_mem_take hy)
      simp only [Lit.wf, Bool.and_eq_true, decide_eq_true_eq] at this
      simpa [IntKind.min, IntKind.max, IntKind.signed, IntKind.bits] using this
end Go.Proofs.YtcpombepajapjaaGreatDoor
