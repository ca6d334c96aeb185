/- The words of this seat's proofs: slices that read as lists of numbers or pairs, and small facts on them. -/
import Derived.Test.YtiljbfeipfdmdaaDoorChecked
import Derived.WalkKit
import Derived.ProofKit
import Derived.Lib.Hide
import Derived.IntWalk
import Derived.Outline
import Derived.BigQuiet
import Derived.Deep.Draws
import Derived.Deep.QuietTactic
namespace Go.Proofs.YtiljbfeipfdmdaaDoor
open Go.ChangeShapes Go.WideShapes Go.ChangeAt Go.RowKit

/-- the call returns v and leaves the world as it was -/
def Ret (v : Value) (w : World) : Ending → World → Prop := fun e w' => e = .returned v ∧ w = w'
/-- the call returns v; what was there is as it was -/
def RetB (v : Value) (w : World) : Ending → World → Prop := fun e w' => e = .returned v ∧ Below w.heap.size w w'

/-- the call returns v; the world has drawn some answers more -/
def RetQ (v : Value) (w : World) : Ending → World → Prop := fun e w' => e = .returned v ∧ ∃ n, w' = w.drewN n
theorem RetQ.below {v : Value} {w w' : World} {e : Ending} (h : RetQ v w e w') : RetB v w e w' := by
  obtain ⟨rfl, n, rfl⟩ := h
  exact ⟨rfl, ⟨rfl, rfl, rfl, Nat.le_refl _, fun _ _ => rfl⟩⟩
theorem Ret.quiet {v : Value} {w w' : World} {e : Ending} (h : Ret v w e w') : RetQ v w e w' := by
  obtain ⟨rfl, rfl⟩ := h
  exact ⟨rfl, 0, rfl⟩
theorem below_drewN {B : Nat} {a w : World} (h : Below B a w) (n : Nat) : Below B a (w.drewN n) := ⟨h.os, h.tape, h.output, h.size, h.block⟩

theorem rb {a b : Bool} (h : a = b) : Ending.returned (.bool a) = .returned (.bool b) := by rw [h]
theorem ri {k : IntKind} {a b : Int} (h : a = b) : Ending.returned (.int k a) = .returned (.int k b) := by rw [h]

/-- an address from which n cells on the list of numbers can be read -/
def RI (w : World) (A : Option Addr) (l : List Int) : Prop :=
  ∀ k, k < l.length → ∃ b o, A = some ⟨b, o, none⟩ ∧ w.cell? ⟨b, o + k, none⟩ = some (.int .i64 (l.getD k 0))

theorem lt_of_cell {w : World} {a : Addr} {v : Value} (h : w.cell? a = some v) : a.block < w.heap.size := World.block_lt_of_cell? w a h

theorem RI.below {w w' : World} {A : Option Addr} {l : List Int} (h : RI w A l) (hb : Below w.heap.size w w') : RI w' A l := by
  intro k hk
  obtain ⟨b, o, hA, hc⟩ := h k hk
  exact ⟨b, o, hA, (hb.cell (p := ⟨b, o + k, none⟩) (lt_of_cell hc)).trans hc⟩
theorem RI.nil (w : World) (A : Option Addr) : RI w A [] := fun k hk => absurd hk (by simp)
theorem RI.at_ {w : World} {A : Option Addr} {l : List Int} (h : RI w A l) {k : Nat} (hk : k < l.length) :
    ∃ b o, A = some ⟨b, o, none⟩ ∧ w.cell? ⟨b, o + k, none⟩ = some (.int .i64 l[k]) := by
  obtain ⟨b, o, hA, hc⟩ := h k hk
  exact ⟨b, o, hA, by rw [hc]; simp [List.getD, hk]⟩

/-- a number in a list, as a Bool that simp does not open -/
def inB (l : List Int) (x : Int) : Bool := l.contains x
theorem inB_iff (l : List Int) (x : Int) : inB l x = true ↔ x ∈ l := by simp [inB]
theorem inB_hit (l : List Int) (x : Int) (k : Nat) (h : k < l.length) (hx : (l[k] == x) = true) : inB l x = true := by
  rw [inB_iff]; have : l[k] = x := by simpa using hx
  subst this; simp
theorem inB_take_succ (l : List Int) (x : Int) (k : Nat) (h : k < l.length) (h0 : inB (l.take k) x = false) (hx : (l[k] == x) = false) : inB (l.take (k + 1)) x = false := by
  have e : l.take (k + 1) = l.take k ++ [l[k]] := List.take_succ_eq_append_getElem h
  have hne : l[k] ≠ x := by simpa using hx
  have h0' : x ∉ l.take k := fun hm => by rw [(inB_iff _ _).2 hm] at h0; cases h0
  cases hb : inB (l.take (k + 1)) x
  · rfl
  · rw [inB_iff, e] at hb
    rcases List.mem_append.1 hb with h | h
    · exact absurd h h0'
    · simp at h; exact absurd h.symm hne
theorem inB_all (l : List Int) (x : Int) (k : Nat) (hk : ¬ k < l.length) (h0 : inB (l.take k) x = false) : inB l x = false := by
  rwa [List.take_of_length_le (by omega)] at h0

end Go.Proofs.YtiljbfeipfdmdaaDoor
