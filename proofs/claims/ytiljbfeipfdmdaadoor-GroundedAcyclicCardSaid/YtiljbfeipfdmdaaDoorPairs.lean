/- Slices of pairs, graphs by value; rows that the call itself made. -/
import Derived.Test.YtiljbfeipfdmdaaDoorSrc
namespace Go.Proofs.YtiljbfeipfdmdaaDoor
open Go.ChangeShapes Go.WideShapes Go.ChangeAt Go.RowKit

/-- an address from which the pairs of the list can be read -/
def RP (w : World) (A : Option Addr) (l : List (Int × Int)) : Prop :=
  ∀ k, k < l.length → ∃ b o, A = some ⟨b, o, none⟩ ∧ w.cell? ⟨b, o + k * 2, none⟩ = some (.int .i64 (l.getD k (0, 0)).1) ∧ w.cell? ⟨b, o + k * 2 + 1, none⟩ = some (.int .i64 (l.getD k (0, 0)).2)
theorem RP.below {w w' : World} {A : Option Addr} {l : List (Int × Int)} (h : RP w A l) (hb : Below w.heap.size w w') : RP w' A l := by
  intro k hk
  obtain ⟨b, o, hA, hc, hd⟩ := h k hk
  exact ⟨b, o, hA, (hb.cell (p := ⟨b, o + k * 2, none⟩) (lt_of_cell hc)).trans hc, (hb.cell (p := ⟨b, o + k * 2 + 1, none⟩) (lt_of_cell hd)).trans hd⟩
theorem RP.nil (w : World) (A : Option Addr) : RP w A [] := fun k hk => absurd hk (by simp)
theorem RP.at_ {w : World} {A : Option Addr} {l : List (Int × Int)} (h : RP w A l) {k : Nat} (hk : k < l.length) :
    ∃ b o, A = some ⟨b, o, none⟩ ∧ w.cell? ⟨b, o + k * 2, none⟩ = some (.int .i64 l[k].1) ∧ w.cell? ⟨b, o + k * 2 + 1, none⟩ = some (.int .i64 l[k].2) := by
  obtain ⟨b, o, hA, hc, hd⟩ := h k hk
  exact ⟨b, o, hA, by rw [hc]; simp [List.getD, hk], by rw [hd]; simp [List.getD, hk]⟩
end Go.Proofs.YtiljbfeipfdmdaaDoor
