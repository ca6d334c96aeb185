/- Slices that lie apart from the reader and below a bound. -/
import Derived.Test.YtplbnhfkndegaaaDoorGst
namespace Go.Proofs.YtplbnhfkndegaaaDoor
open Go.ChangeShapes Go.WideShapes Go.ChangeAt Go.RowKit

/-- v is a slice of numbers that lies apart from block p, and below b -/
def AnyB (b p : Nat) (w : World) (v : Value) : Prop := ∃ (A : Option Addr) (x : List Int) (c : Nat), v = .slice A x.length c ∧ RI w A x ∧ x.length ≤ 100000 ∧ (A = none → x = [] ∧ c = 0) ∧ ∀ b' o, A = some ⟨b', o, none⟩ → x ≠ [] → b' ≠ p ∧ b' < b
theorem AnyO.lift {p b : Nat} {w : World} {v : Value} (h : AnyO p w v) (hb : w.heap.size ≤ b) : AnyB b p w v := by
  obtain ⟨A, x, c, e, hr, hl, hn, hne⟩ := h
  refine ⟨A, x, c, e, hr, hl, hn, fun b' o hA hx => ⟨hne b' o hA hx, ?_⟩⟩
  obtain ⟨b2, o2, hA2, hc⟩ := hr 0 (List.length_pos_iff.2 hx)
  rw [hA] at hA2
  injection hA2 with hA2
  injection hA2 with hA2
  subst hA2
  have := lt_of_cell hc
  simp at this; omega
theorem AnyB.o {p b : Nat} {w : World} {v : Value} (h : AnyB b p w v) : AnyO p w v := by
  obtain ⟨A, x, c, e, hr, hl, hn, hne⟩ := h
  exact ⟨A, x, c, e, hr, hl, hn, fun b' o hA hx => (hne b' o hA hx).1⟩
theorem AnyB.grown {p b : Nat} {w w' : World} {v : Value} (h : AnyB b p w v) (hg : w.grownBy w' (some p)) : AnyB b p w' v := by
  obtain ⟨A, x, c, e, hr, hl, hn, hne⟩ := h
  exact ⟨A, x, c, e, hr.grown hg (fun b' o hA hx => (hne b' o hA hx).1), hl, hn, hne⟩
theorem AnyB.below {p b : Nat} {w w' : World} {v : Value} (h : AnyB b p w v) (hb : Below w.heap.size w w') : AnyB b p w' v := by
  obtain ⟨A, x, c, e, hr, hl, hn, hne⟩ := h
  exact ⟨A, x, c, e, hr.below hb, hl, hn, hne⟩
theorem AnyB.append {p b : Nat} {w w' : World} {v u : Value} {l : List Int} (h : AnyB b p w v) (ho : OwnI w b u l) (hg : w.grownBy w' u.ownBlock) : AnyB b p w' v := by
  obtain ⟨A, x, c, e, hr, hl, hn, hne⟩ := h
  refine ⟨A, x, c, e, fun k hk => ?_, hl, hn, hne⟩
  obtain ⟨b2, o2, hA2, hc⟩ := hr k hk
  have h2 := hne b2 o2 hA2 (fun e => by subst e; simp at hk)
  exact ⟨b2, o2, hA2, hg.cell hc (fun he => by have := (World.ownsRow.lt ho b2 he.symm).1; omega)⟩

/-- what is known between the call that makes a slice and the append to it -/
def Mid (G p : Nat) (V U U' : Value) (b : Nat) (y : List Int) (w' : World) (v : Value) : Prop := OwnI w' b v y ∧ y.length ≤ 40 ∧ b ≤ w'.heap.size ∧ p < b ∧ G < b ∧ AnyB b p w' V ∧ AnyB b p w' U ∧ AnyB b p w' U'
theorem Mid.grown {G p b : Nat} {V U U' v : Value} {y : List Int} {w w' : World} (h : Mid G p V U U' b y w v) (hg : w.grownBy w' (some p)) : Mid G p V U U' b y w' v := by
  obtain ⟨h1, h2, h3, h4, h5, h6, h7, h8⟩ := h
  exact ⟨ownsRow_far h1 hg h4, h2, Nat.le_trans h3 hg.size, h4, h5, h6.grown hg, h7.grown hg, h8.grown hg⟩
theorem Mid.below {G p b : Nat} {V U U' v : Value} {y : List Int} {w w' : World} (h : Mid G p V U U' b y w v) (hb : Below w.heap.size w w') : Mid G p V U U' b y w' v := by
  obtain ⟨h1, h2, h3, h4, h5, h6, h7, h8⟩ := h
  exact ⟨h1.below hb, h2, Nat.le_trans h3 hb.size, h4, h5, h6.below hb, h7.below hb, h8.below hb⟩
end Go.Proofs.YtplbnhfkndegaaaDoor
