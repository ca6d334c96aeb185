/- search.Naive: list, choose. -/
import Derived.Test.YtncimnfhfomddaaDoorSch
namespace Go.Proofs.YtncimnfhfomddaaDoor
open Go.ChangeShapes Go.WideShapes Go.ChangeAt Go.RowKit

section
variable {w : World} {g : Nat} {t : TypeId} {x y z : Value}
theorem Blk.three (h : Blk w g t #[x, y, z]) : w.cell? ⟨g, 0, none⟩ = some x ∧ w.cell? ⟨g, 1, none⟩ = some y ∧ w.cell? ⟨g, 2, none⟩ = some z ∧ w.frozen? ⟨g, 1, none⟩ = false ∧ w.frozen? ⟨g, 2, none⟩ = false :=
  ⟨by rw [h.cell]; rfl, by rw [h.cell]; rfl, by rw [h.cell]; rfl, h.frozen 1, h.frozen 2⟩
end
/-- cf has the conflicts of each node with other ones -/
structure CfOk (n : Nat) (l : List (Int × Int)) (cf : Nat → Nat) : Prop where
  lt : ∀ i, cf i < 2 ^ n
  has : ∀ i, i < n → ∀ j, has (cf i) j ↔ i ≠ j ∧ confl l i j
variable {W w w' : World} {ch g n B : Nat} {cf : Nat → Nat} {v u : Value} {full : Bool}
theorem TxtZL.lastCall {P : Program} {ops : Array Oper} {Q : Exit → Act → World → Prop} {S : World → Prop} {es : List Nat} {k : Nat} {J : World → Prop} {o : Oper} {a : Act} {f : FuncId} {args : Array Value} (J' : World → Prop) (hk : es.contains k = true) (hw : Region.wanted o (yielded ops a.tmps) = true)
    (hrun : ∀ w, S w → J w → (execOp a.eval o).run P w = .ok (.enter f args) w) (h : ∀ w, S w → J w → Calls P f args w fun e w' => ∃ v, e = .returned v ∧ J' w') (hr : ∀ v w, J' w → Q .normal (a.put o.dst v) w) : TxtZL P ops Q S es k [o] J a := by
  refine TxtZL.last J' hk hw (fun w hS hJ => ?_) hr
  unfold Eff Oper.wp
  rw [hrun w hS hJ]
  refine (h w hS hJ).mono ?_
  rintro e w' ⟨v, rfl, h1⟩
  exact ⟨v, rfl, h1⟩
def ndL (m : Nat) : List Int := nodesB 64 m.testBit
theorem has_conf {n : Nat} {l : List (Int × Int)} {cf : Nat → Nat} (h : CfOk n l cf) {r i : Nat} (hi : i < n) (hz : (cf i &&& r) = 0) (hir : ¬ has r i) : ∀ j, has r j → ¬ confl l i j := fun j hj hc => by
  have h1 : has (cf i &&& r) j := has_and.2 ⟨(h.has i hi j).2 ⟨fun e => hir (by rw [e]; exact hj), hc⟩, hj⟩
  rw [hz] at h1
  exact has_zero h1

end Go.Proofs.YtncimnfhfomddaaDoor
