/- A box that may be laid already, while calls run. -/
import Derived.Test.YtncimnfhfomddaaDoorGam
namespace Go.Proofs.YtncimnfhfomddaaDoor
open Go.ChangeShapes Go.WideShapes Go.ChangeAt Go.RowKit
def BxC (t : TypeId) (cs : Array Value) (o : Option Nat) (m : Nat) (w : World) : Prop := ∀ q, o = some q → m ≤ q ∧ Blk w q t cs
section
variable {t : TypeId} {cs : Array Value} {o : Option Nat} {m p : Nat} {w w' : World}
theorem BxC.no : BxC t cs Option.none m w := fun q e => by cases e
theorem BxC.new (h : m ≤ w.heap.size) : BxC t cs (some w.heap.size) m (w.alloc (.cells cs t)) := fun q e => by
  injection e with e; subst e; exact ⟨h, Blk.new _ _ _⟩
theorem BxC.grown (h : BxC t cs o m w) (hg : w.grownBy w' (some p)) (hp : p < m) : BxC t cs o m w' := fun q e =>
  ⟨(h q e).1, (h q e).2.grown hg (fun e' => by injection e' with e'; have := (h q e).1; omega)⟩
theorem BxC.below (h : BxC t cs o m w) (hb : Below w.heap.size w w') : BxC t cs o m w' := fun q e => ⟨(h q e).1, (h q e).2.below hb (h q e).2.lt⟩
end
theorem grown_set2 {wr w : World} {p q : Nat} (hg : wr.grownBy w (some p)) (hq : wr.heap.size ≤ q) (i : Nat) (x : Value) : wr.grownBy (w.setCell ⟨q, i, none⟩ x) (some p) :=
  ⟨hg.os, hg.tape, hg.output, by simpa using hg.size, fun j hj hne => (Below.heap_setCell w ⟨q, i, none⟩ x j (by simp; omega)).trans (hg.block j hj hne)⟩
theorem src_set2 {w : World} {p D : Nat} (h : SrcOk w p) (hp : p < D) (i : Nat) (x : Value) : SrcOk (w.setCell ⟨D, i, none⟩ x) p := h.other (grownBy_setCell w D i x) (fun k hk => by injection hk with hk; omega)
theorem boxA (w : World) (t : TypeId) (cs : Array Value) : ∃ W0, w.alloc (.cells cs t) = W0 ∧ Blk W0 w.heap.size t cs ∧ Below w.heap.size w W0 ∧ W0.heap.size = w.heap.size + 1 :=
  ⟨_, rfl, Blk.new _ _ _, newB w _, by simp⟩
theorem grown_below {w X w' : World} {p : Nat} (hg : w.grownBy X (some p)) (hb : Below w.heap.size X w') : w.grownBy w' (some p) :=
  ⟨hb.os.trans hg.os, hb.tape.trans hg.tape, hb.output.trans hg.output, Nat.le_trans hg.size hb.size, fun j hj hne => (hb.block j hj).trans (hg.block j hj hne)⟩
theorem OwnR.formR {w : World} {b : Nat} {v : Value} {l : List (Int × Int)} (h : OwnR w b v l) : ∃ A c, v = .slice A l.length c := by
  rcases h.form with ⟨rfl, rfl⟩ | ⟨g, c, rfl, -, -⟩
  · exact ⟨none, 0, rfl⟩
  · exact ⟨_, c, rfl⟩
theorem OwnR.grown {w w' : World} {b p : Nat} {v : Value} {l : List (Int × Int)} (h : OwnR w b v l) (hg : w.grownBy w' (some p)) (hp : p < b) : OwnR w' b v l :=
  World.ownsRow.kept h hg (.inr fun e => by have := (World.ownsRow.lt h p e).1; omega)
theorem OwnR.rp {w : World} {b : Nat} {A : Option Addr} {c : Nat} {l : List (Int × Int)} (h : OwnR w b (.slice A l.length c) l) : RP w A l := by
  rcases h.form with ⟨e, rfl⟩ | ⟨g, c', e, -, -⟩
  · injection e with e; subst e; exact RP.nil _ _
  · injection e with e; subst e
    intro k hk
    have h0 := flatP_at l k hk
    have c0 := h.cells (g := g) rfl _ _ h0.1
    have c1 := h.cells (g := g) rfl _ _ h0.2
    rw [show (⟨g, 0, none⟩ : Addr).add (k * 2) = ⟨g, 0 + k * 2, none⟩ by unfold Addr.add; split <;> simp_all] at c0
    rw [show (⟨g, 0, none⟩ : Addr).add (k * 2 + 1) = ⟨g, 0 + k * 2 + 1, none⟩ by unfold Addr.add; split <;> simp_all] at c1
    exact ⟨g, 0, rfl, c0, c1⟩
theorem OwnR.farB {w : World} {b : Nat} {v : Value} {l : List (Int × Int)} (h : OwnR w b v l) {a : Addr} (hp : a.block < b) (x : Value) : OwnR (w.setCell a x) b v l := ownsRow_setCell_below h hp x
end Go.Proofs.YtncimnfhfomddaaDoor
