/- keep.Lists. -/
import Derived.Test.YtncimnfhfomddaaDoorRef13
import Derived.Test.YtncimnfhfomddaaDoorGenM
namespace Go.Proofs.YtncimnfhfomddaaDoor
open Go.ChangeShapes Go.WideShapes Go.ChangeAt Go.RowKit

/-- two lists of lists are equal -/
def eqLs (a b : List (List Int)) : Bool := a == b
theorem eqLs_iff (a b : List (List Int)) : eqLs a b = true ↔ a = b := by simp [eqLs]
theorem eqLs_len {a b : List (List Int)} (h : a.length ≠ b.length) : eqLs a b = false := by
  cases hb : eqLs a b
  · rfl
  · rw [eqLs_iff] at hb; exact absurd (congrArg List.length hb) h
theorem RSo.rs {w : World} {A : Option Addr} {ls : List (List Int)} (h : RSo w A ls) : RS w A ls := fun k hk => by
  obtain ⟨b, o, A', c', hA, hc, _, hr⟩ := h k hk
  have e : ls.getD k [] = ls[k] := by simp [List.getD, hk]
  exact ⟨b, o, A', c', hA, by rw [e]; exact hc, by rw [e]; exact hr⟩

theorem rs_new3 (w : World) {A1 A2 A3 : Option Addr} {x y z : List Int} {c1 c2 c3 : Nat} (h1 : RI w A1 x) (h2 : RI w A2 y) (h3 : RI w A3 z) : RS (w.alloc (.cells #[.slice A1 x.length c1, .slice A2 y.length c2, .slice A3 z.length c3] 25)) (some ⟨w.heap.size, 0, none⟩) [x, y, z] := fun k hk => by
  have hb := Blk.new w 25 #[.slice A1 x.length c1, .slice A2 y.length c2, .slice A3 z.length c3]
  match k, hk with
  | 0, _ => exact ⟨w.heap.size, 0, A1, c1, rfl, by rw [hb.cell]; rfl, h1.below (newB _ _)⟩
  | 1, _ => exact ⟨w.heap.size, 0, A2, c2, rfl, by rw [hb.cell]; rfl, h2.below (newB _ _)⟩
  | 2, _ => exact ⟨w.heap.size, 0, A3, c3, rfl, by rw [hb.cell]; rfl, h3.below (newB _ _)⟩
theorem rs_new2 (w : World) {A1 A2 : Option Addr} {x y : List Int} {c1 c2 : Nat} (h1 : RI w A1 x) (h2 : RI w A2 y) : RS (w.alloc (.cells #[.slice A1 x.length c1, .slice A2 y.length c2] 25)) (some ⟨w.heap.size, 0, none⟩) [x, y] := fun k hk => by
  have hb := Blk.new w 25 #[.slice A1 x.length c1, .slice A2 y.length c2]
  match k, hk with
  | 0, _ => exact ⟨w.heap.size, 0, A1, c1, rfl, by rw [hb.cell]; rfl, h1.below (newB _ _)⟩
  | 1, _ => exact ⟨w.heap.size, 0, A2, c2, rfl, by rw [hb.cell]; rfl, h2.below (newB _ _)⟩

end Go.Proofs.YtncimnfhfomddaaDoor
