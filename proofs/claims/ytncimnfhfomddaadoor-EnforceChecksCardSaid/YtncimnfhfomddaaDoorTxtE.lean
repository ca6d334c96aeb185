/- The chained region with the append of one number to a slice of the call's own; slices that lie below a bound. -/
import Derived.Test.YtncimnfhfomddaaDoorGenM
namespace Go.Proofs.YtncimnfhfomddaaDoor
open Go.ChangeShapes Go.WideShapes Go.ChangeAt Go.RowKit

theorem Eff.of_list {P : Program} {ops : Array Oper} {o : Oper} {a : Act} {w : World} {Post : Value → World → Prop} (hw : Region.wanted o (yielded ops a.tmps) = true)
    (h : wpList P ops (fun x a' w' => x = .normal ∧ ∃ v, a' = a.put o.dst v ∧ Post v w') [o] a w) : Eff P o a w Post := by
  unfold wpList at h
  rw [if_pos hw] at h
  rcases h with h | ⟨_, h⟩
  · unfold Eff Oper.wp at *
    generalize (execOp a.eval o).run P w = r at *
    cases r with
    | ok n w' =>
      cases n <;> simp only [Oper.upon, wpList] at h ⊢
      case value v => exact h.2
      case skip => exact h.2
      case defer d => exact h.2
      case enter f args => exact Calls.mono h (fun e w'' he => by cases e <;> first | exact he.2 | (exact absurd he.1 (by simp)) | (obtain ⟨_, _, hf, _⟩ := he; cases hf))
      case row => exact Rows.mono h (fun _ _ he => he.2)
    | halt x w' => cases x <;> simp only [Oper.upon] at h; exact absurd h.1 (by simp)
  · obtain ⟨_, _, hf, _⟩ := h; cases hf

/-- v is a slice of numbers that lies apart from block p, below B -/
def AnyB (B p : Nat) (w : World) (v : Value) : Prop := ∃ (A : Option Addr) (x : List Int) (c : Nat), v = .slice A x.length c ∧ RI w A x ∧ x.length ≤ 100000 ∧ (A = none → x = [] ∧ c = 0) ∧ ∀ b o, A = some ⟨b, o, none⟩ → x ≠ [] → b ≠ p ∧ b < B
theorem AnyB.any {B p : Nat} {w : World} {v : Value} (h : AnyB B p w v) : AnyO p w v := by
  obtain ⟨A, x, c, e, hr, hl, hn, hb⟩ := h
  exact ⟨A, x, c, e, hr, hl, hn, fun b o h1 h2 => (hb b o h1 h2).1⟩
theorem AnyO.low {p : Nat} {w : World} {v : Value} (h : AnyO p w v) : AnyB w.heap.size p w v := by
  obtain ⟨A, x, c, e, hr, hl, hn, hb⟩ := h
  refine ⟨A, x, c, e, hr, hl, hn, fun b o h1 h2 => ⟨hb b o h1 h2, ?_⟩⟩
  obtain ⟨b', o', hA, hc⟩ := hr 0 (List.length_pos_iff.2 h2)
  rw [h1] at hA
  injection hA with hA
  injection hA with hA
  subst hA
  exact lt_of_cell hc
theorem AnyB.grown {B p : Nat} {w w' : World} {v : Value} (h : AnyB B p w v) (hg : w.grownBy w' (some p)) : AnyB B p w' v := by
  obtain ⟨A, x, c, e, hr, hl, hn, hb⟩ := h
  exact ⟨A, x, c, e, hr.grown hg (fun b o h1 h2 => (hb b o h1 h2).1), hl, hn, hb⟩
theorem AnyB.below {B p : Nat} {w w' : World} {v : Value} (h : AnyB B p w v) (hg : Below B w w') : AnyB B p w' v := by
  obtain ⟨A, x, c, e, hr, hl, hn, hb⟩ := h
  refine ⟨A, x, c, e, fun k hk => ?_, hl, hn, hb⟩
  obtain ⟨b, o, hA, hc⟩ := hr k hk
  have := (hb b o hA (fun e => by subst e; simp at hk)).2
  exact ⟨b, o, hA, (hg.cell (p := ⟨b, o + k, none⟩) this).trans hc⟩
theorem AnyB.mono {B B' p : Nat} {w : World} {v : Value} (h : AnyB B p w v) (hb : B ≤ B') : AnyB B' p w v := by
  obtain ⟨A, x, c, e, hr, hl, hn, hb2⟩ := h
  exact ⟨A, x, c, e, hr, hl, hn, fun b o h1 h2 => ⟨(hb2 b o h1 h2).1, by have := (hb2 b o h1 h2).2; omega⟩⟩
theorem AnyB.shape {B p : Nat} {w : World} {v : Value} (h : AnyB B p w v) : ∃ A k c, v = .slice A k c := h.any.shape
end Go.Proofs.YtncimnfhfomddaaDoor
