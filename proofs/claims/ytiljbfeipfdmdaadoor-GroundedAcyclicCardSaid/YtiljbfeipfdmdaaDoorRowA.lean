/- Rows of cells that the call itself made, told by their index. -/
import Derived.Test.YtiljbfeipfdmdaaDoorPlain12
import Derived.Deep.OwnRows
namespace Go.Proofs.YtiljbfeipfdmdaaDoor
open Go.ChangeShapes Go.WideShapes Go.ChangeAt Go.RowKit

theorem rowIs_below {w w' : World} {g B n : Nat} {t : TypeId} {f : Nat → Value} (h : w.rowIs g t n f) (hb : Below B w w') (hg : g < B) : w'.rowIs g t n f := h.of_block (hb.block g hg)
theorem rowIs_new {w w' : World} {g n : Nat} {t : TypeId} {f : Nat → Value} (h : w.rowIs g t n f) (hb : Below w.heap.size w w') : w'.rowIs g t n f := rowIs_below h hb h.lt
theorem rowIs_grown {w w' : World} {g n : Nat} {t : TypeId} {f : Nat → Value} {row : Option Nat} (h : w.rowIs g t n f) (hb : w.grownBy w' row) (hg : some g ≠ row) : w'.rowIs g t n f := h.of_block (hb.block g h.lt hg)
theorem rowIs_append {w w' : World} {g n k : Nat} {t : TypeId} {f : Nat → Value} {v : Value} {base : Nat} {e : TypeId} {size : Nat} {xs : List Value} (h : w.rowIs g t n f) (ho : w.ownsRow base e size v k xs) (hb : w.grownBy w' v.ownBlock) (hg : g < base) : w'.rowIs g t n f :=
  rowIs_grown h hb (fun he => by have := (ho.lt g he.symm).1; omega)
/-- a row of numbers -/
def Row (w : World) (g n : Nat) (f : Nat → Int) : Prop := w.rowIs g 3 n fun i => .int .i64 (f i)
theorem Row.lt {w : World} {g n : Nat} {f : Nat → Int} (h : Row w g n f) : g < w.heap.size := World.rowIs.lt h
theorem Row.cell {w : World} {g n : Nat} {f : Nat → Int} (h : Row w g n f) {i : Nat} (hi : i < n) : w.cell? ⟨g, i, none⟩ = some (.int .i64 (f i)) := World.rowIs.cell h hi
theorem Row.frozen {w : World} {g n : Nat} {f : Nat → Int} (h : Row w g n f) (i : Nat) : w.frozen? ⟨g, i, none⟩ = false := World.rowIs.frozen h i
theorem Row.set {w : World} {g n : Nat} {f : Nat → Int} (h : Row w g n f) (i : Nat) (x : Int) : Row (w.setCell ⟨g, i, none⟩ (.int .i64 x)) g n (upd f i x) :=
  World.rowIs.congr (World.rowIs.set h i (.int .i64 x)) fun j _ => by unfold upd; split <;> rfl
theorem Row.far {w : World} {g n : Nat} {f : Nat → Int} (h : Row w g n f) {a : Addr} (ha : g ≠ a.block) (v : Value) : Row (w.setCell a v) g n f := World.rowIs.setOther h ha v
theorem Row.congr {w : World} {g n : Nat} {f f' : Nat → Int} (h : Row w g n f) (e : ∀ i, i < n → f i = f' i) : Row w g n f' := World.rowIs.congr h fun i hi => by rw [e i hi]
theorem Row.ri {w : World} {g n : Nat} {f : Nat → Int} (h : Row w g n f) : RI w (some ⟨g, 0, none⟩) (lst n f) := fun k hk => by
  rw [lst_length] at hk
  exact ⟨g, 0, rfl, by rw [Nat.zero_add, h.cell hk, lst_getD hk]⟩
theorem Row.own {w : World} {g n : Nat} {f : Nat → Int} (h : Row w g n f) {base : Nat} (hb : base ≤ g) (hn : n ≤ 1000000) : OwnI w base (.slice (some ⟨g, 0, none⟩) n n) (lst n f) := by
  obtain ⟨c, hh, hs, hc⟩ := h
  refine ⟨by simp [lst_length], .inr ⟨g, n, c, by rw [lst_length], hb, hh, by simp [lst_length], by unfold maxLen; omega, by simp [hs], ?_⟩⟩
  apply List.ext_getElem?
  intro i
  rw [lst_length, Nat.mul_one, List.getElem?_take]
  by_cases hi : i < n
  · rw [if_pos hi, Array.getElem?_toList, hc i hi, List.getElem?_map]
    simp [lst, hi]
  · rw [if_neg hi, List.getElem?_eq_none (by simp [lst]; omega)]

/-- a store into a slice of the call's own -/
theorem OwnI.store {w : World} {b g c : Nat} {l : List Int} (h : OwnI w b (.slice (some ⟨g, 0, none⟩) l.length c) l) {k : Nat} (_hk : k < l.length) (x : Int) :
    OwnI (w.setCell ⟨g, k, none⟩ (.int .i64 x)) b (.slice (some ⟨g, 0, none⟩) l.length c) (l.set k x) := by
  obtain ⟨h1, h2⟩ := h
  refine ⟨by simp, ?_⟩
  rcases h2 with ⟨e, _⟩ | ⟨g', cap, cur, e, hg, hh, hn, hcap, hs, ht⟩
  · cases e
  · injection e with e1 e2 e3
    injection e1 with e1
    injection e1 with e1 _ _
    subst e1 e3
    refine .inr ⟨g, c, cur.setIfInBounds k (.int .i64 x), by rw [List.length_set], hg, ?_, by rw [List.length_set]; exact hn, hcap, by simpa using hs, ?_⟩
    · simp [World.setCell, Array.getElem?_modify, hh]
    · rw [Array.toList_setIfInBounds, List.take_set, List.length_set, ht, List.map_set]
theorem OwnI.pos {w : World} {b : Nat} {A : Option Addr} {c : Nat} {l : List Int} (h : OwnI w b (.slice A l.length c) l) (hl : 0 < l.length) :
    ∃ g, A = some ⟨g, 0, none⟩ ∧ b ≤ g ∧ g < w.heap.size ∧ ∀ i, w.frozen? ⟨g, i, none⟩ = false := by
  have h' := h
  obtain ⟨h1, h2⟩ := h
  rcases h2 with ⟨e, hn⟩ | ⟨g', cap, cur, e, hg, hh, hn, hcap, hs, ht⟩
  · omega
  · injection e with e1 e2 e3
    subst e1
    refine ⟨g', rfl, hg, (World.ownsRow.lt h' g' rfl).2, fun i => ?_⟩
    simp [World.frozen?, hh]
theorem OwnI.cellAt {w : World} {b g c : Nat} {l : List Int} (h : OwnI w b (.slice (some ⟨g, 0, none⟩) l.length c) l) {k : Nat} (hk : k < l.length) : w.cell? ⟨g, k, none⟩ = some (.int .i64 (l.getD k 0)) := by
  obtain ⟨b', o, hA, hc⟩ := h.ri k hk
  injection hA with hA
  injection hA with e1 e2
  subst e1 e2
  rw [Nat.zero_add] at hc
  exact hc
/-- a store elsewhere -/
theorem OwnI.far {w : World} {b : Nat} {v : Value} {l : List Int} (h : OwnI w b v l) {a : Addr} (ha : v.ownBlock ≠ some a.block) (u : Value) : OwnI (w.setCell a u) b v l := by
  obtain ⟨h1, h2⟩ := h
  refine ⟨h1, ?_⟩
  rcases h2 with h2 | ⟨g', cap, cur, e, hg, hh, hr⟩
  · exact .inl h2
  · refine .inr ⟨g', cap, cur, e, hg, ?_, hr⟩
    rw [Below.heap_setCell w a u g' (fun e' => ha (by rw [e, ← e']; rfl))]
    exact hh
theorem info_u64 : (Tryd.prog.info? 68).map (fun i => (i.zero, i.size, i.bytes)) = some (some (.int .u64 0), 1, 8) := by kernel_rfl
end Go.Proofs.YtiljbfeipfdmdaaDoor
