/- graph.Components: the parts: the sort of the sets, the search for the next one, and its deletion. -/
import Derived.Test.YtkflanjlnbdkmaaGreatDoorTj
import Derived.Test.YtkflanjlnbdkmaaGreatDoorRev
import Derived.Test.YtkflanjlnbdkmaaGreatDoorLb
import Derived.Test.YtkflanjlnbdkmaaGreatDoorSrtu
import Derived.Test.YtkflanjlnbdkmaaGreatDoorDelu
import Derived.Shelf.GgSortFunc.Compose
namespace Go.Proofs.YtkflanjlnbdkmaaGreatDoor
open Go.ChangeShapes Go.WideShapes Go.ChangeAt Go.RowKit Go.Sort

/-- a set that is not empty -/
abbrev NzU := { x : Nat // x ≠ 0 ∧ x < 18446744073709551616 }
instance : Inhabited NzU := ⟨⟨1, by decide⟩⟩
def encS (x : NzU) : Value := .int .u64 (x.1 : Int)
def cmpS (x y : NzU) : Int := cmpI (Lib.ctz 64 x.1 : Nat) (Lib.ctz 64 y.1 : Nat)
theorem ltOf_cmpS (x y : NzU) : ltOf cmpS x y = decide (Lib.ctz 64 x.1 < Lib.ctz 64 y.1) := by
  unfold ltOf cmpS cmpI
  rw [Bool.eq_iff_iff, decide_eq_true_iff, decide_eq_true_iff]
  split
  · omega
  · split <;> omega
theorem swoS : SWO (ltOf cmpS) where
  irrefl x := by rw [ltOf_cmpS]; simp
  trans x y z h1 h2 := by rw [ltOf_cmpS, decide_eq_true_iff] at *; omega
  ntrans x y z h1 h2 := by rw [ltOf_cmpS, decide_eq_false_iff_not] at *; omega

/-- the cells of a list of sets, from the block's start -/
def encU (x : Nat) : Value := .int .u64 (x : Int)
def HU (w : World) (g : Nat) (F : List Nat) : Prop := Holds encU w g 0 F.toArray
theorem HU.cell {w : World} {g : Nat} {F : List Nat} (h : HU w g F) {k : Nat} (hk : k < F.length) : w.cell? ⟨g, k, none⟩ = some (.int .u64 (F[k] : Nat)) := by
  have := (h k (by simpa using hk)).1
  rw [Nat.zero_add] at this
  rw [this]
  have e : F.toArray[k]! = F[k] := by rw [getElem!_pos _ k (by simpa using hk)]; simp
  rw [e]; rfl
theorem HU.block {w w' : World} {g : Nat} {F : List Nat} (h : HU w g F) (e : w'.heap[g]? = w.heap[g]?) : HU w' g F := fun j hj => by
  obtain ⟨h1, h2⟩ := h j hj
  exact ⟨(World.cell?_of_block (w := w) (a := ⟨g, 0 + j, none⟩) e).trans h1, (World.frozen?_of_block (w := w) (a := ⟨g, 0 + j, none⟩) e).trans h2⟩
theorem HU.pre {w : World} {g : Nat} {F F' : List Nat} (h : HU w g (F ++ F')) : HU w g F := fun j hj => by
  have hj' : j < F.length := by simpa using hj
  have := h j (by simp; omega)
  have e : (F ++ F').toArray[j]! = F.toArray[j]! := by
    rw [getElem!_pos _ j (by simp; omega), getElem!_pos _ j (by simpa using hj)]
    simp [List.getElem_append_left hj']
  rw [e] at this
  exact this
theorem OwnU.hu {w : World} {b g c : Nat} {F : List Nat} (h : OwnU w b (.slice (some ⟨g, 0, none⟩) F.length c) F) : HU w g F := by
  have h' := h
  obtain ⟨h1, h2⟩ := h
  rcases h2 with ⟨e, _⟩ | ⟨g', cap, cur, e, hg, hh, hn, hcap, hs, ht⟩
  · cases e
  · injection e with e1 e2 e3
    injection e1 with e1
    injection e1 with e1 _ _
    subst e1
    intro j hj
    have hj' : j < F.length := by simpa using hj
    refine ⟨?_, by simp [World.frozen?, hh]⟩
    have hc := World.ownsRow.cells (g := g) h' rfl j (encU F.toArray[j]!) (by
      rw [List.getElem?_map, List.getElem?_eq_getElem hj', getElem!_pos _ j hj]; simp [vU, encU])
    rw [show (⟨g, 0, none⟩ : Addr).add j = ⟨g, 0 + j, none⟩ by unfold Addr.add; split <;> simp_all] at hc
    exact hc
theorem OwnU.shape {w : World} {b : Nat} {v : Value} {F : List Nat} (h : OwnU w b v F) : (v = .slice none 0 0 ∧ F = []) ∨ ∃ g c, v = .slice (some ⟨g, 0, none⟩) F.length c ∧ b ≤ g ∧ g < w.heap.size ∧ F.length ≤ c ∧ c ≤ maxLen := by
  have hl := fun k hk => (OwnU.block h k hk).2
  obtain ⟨h1, h2⟩ := h
  rcases h2 with ⟨e, h0⟩ | ⟨g, cap, cur, e, hg, hh, hn, hcap, hs, ht⟩
  · exact .inl ⟨e, List.eq_nil_of_length_eq_zero h0⟩
  · exact .inr ⟨g, cap, e, hg, hl g (by rw [e]; rfl), hn, hcap⟩

/-- a row of another block -/
theorem putRow_grown {α : Type} [Inhabited α] (enc : α → Value) (w : World) (g off q : Nat) (d : Array α) : w.grownBy (putRow enc (Sort.ahead w q) g off d) (some g) :=
  ⟨rfl, rfl, rfl, Nat.le_of_eq (by simp [Sort.ahead]), fun k hk hne => by
    unfold putRow mapBlock
    simp only [Array.getElem?_modify, if_neg (fun e : g = k => hne (congrArg some e.symm))]
    rfl⟩
theorem sortedS {w : World} {g n : Nat} {d : Array NzU} {os : Array Obj} : w.grownBy (sortWorld encS w g 0 n d os) (some g) := by
  have h := putRow_grown encS w g 0 n d
  unfold sortWorld
  refine ⟨h.os, h.tape, h.output, Nat.le_trans h.size (by simp [grow]), fun k hk hne => ?_⟩
  rw [heap_grow_old _ os (Nat.lt_of_lt_of_le hk h.size)]
  exact h.block k hk hne

end Go.Proofs.YtkflanjlnbdkmaaGreatDoor
