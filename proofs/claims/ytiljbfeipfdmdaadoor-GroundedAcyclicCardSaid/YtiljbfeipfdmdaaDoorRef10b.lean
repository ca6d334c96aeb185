/- The reference of layer 10: Valid, Has, Attackers. -/
import Derived.Test.YtiljbfeipfdmdaaDoorRef10
namespace Go.Proofs.YtiljbfeipfdmdaaDoor
open Go.ChangeShapes Go.WideShapes Go.ChangeAt Go.RowKit

/-- the graph as it is treated: the one without nodes if it is not valid -/
def nGn (N : Int) (l : List (Int × Int)) : Int := if valE N l = 0 then N else 0
def nGl (N : Int) (l : List (Int × Int)) : List (Int × Int) := if valE N l = 0 then l else []
theorem nGl_len {N : Int} {l : List (Int × Int)} {B : Nat} (h : l.length ≤ B) : (nGl N l).length ≤ B := by unfold nGl; split <;> simp [h]

/-- the call returns a graph by value -/
def RetG (N : Int) (l : List (Int × Int)) (w : World) : Ending → World → Prop := fun e w' => ∃ A c, e = .returned (.agg #[.int .i64 N, .slice A l.length c]) ∧ RP w' A l ∧ Below w.heap.size w w'
/-- the same; the pairs lie where they lay -/
def RetGA (A0 : Option Addr) (N : Int) (l : List (Int × Int)) (w : World) : Ending → World → Prop := fun e w' => ∃ A c, e = .returned (.agg #[.int .i64 N, .slice A l.length c]) ∧ RP w' A l ∧ (A = A0 ∨ l = []) ∧ Below w.heap.size w w'

/-- the pairs lie in blocks that were there at w -/
theorem RP.far2 {w : World} {A : Option Addr} {l : List (Int × Int)} {g : Nat} (h : RP w A l) (hlt : ∀ b o, A = some ⟨b, o, none⟩ → 0 < l.length → b ≠ g) (x y : Value) : RP ((w.setCell ⟨g, 0, none⟩ x).setCell ⟨g, 1, none⟩ y) A l := by
  intro k hk
  obtain ⟨b, o, hA, hc, hd⟩ := h k hk
  have hne := hlt b o hA (by omega)
  exact ⟨b, o, hA, by rw [World.cell?_setCell_other _ _ _ _ (fun e => hne (congrArg Addr.block e).symm), World.cell?_setCell_other _ _ _ _ (fun e => hne (congrArg Addr.block e).symm)]; exact hc,
    by rw [World.cell?_setCell_other _ _ _ _ (fun e => hne (congrArg Addr.block e).symm), World.cell?_setCell_other _ _ _ _ (fun e => hne (congrArg Addr.block e).symm)]; exact hd⟩
theorem RP.lt {w : World} {A : Option Addr} {l : List (Int × Int)} (h : RP w A l) {b o : Nat} (hA : A = some ⟨b, o, none⟩) (hl : 0 < l.length) : b < w.heap.size := by
  obtain ⟨b', o', hA', hc, _⟩ := h 0 hl
  rw [hA] at hA'
  injection hA' with hA'
  injection hA' with hb _ _
  have h3 : b' < w.heap.size := lt_of_cell hc
  omega

/-- an attack in a list, as a Bool that simp does not open -/
def hasB (l : List (Int × Int)) (f t : Int) : Bool := l.contains (f, t)
theorem hasB_iff {l : List (Int × Int)} {f t : Int} : hasB l f t = true ↔ (f, t) ∈ l := by simp [hasB]
theorem hasB_false {l : List (Int × Int)} {f t : Int} : hasB l f t = false ↔ (f, t) ∉ l := by rw [← hasB_iff]; simp
theorem hasB_hit {l : List (Int × Int)} {f t : Int} {k : Nat} (h : k < l.length) (h1 : l[k].1 = f) (h2 : l[k].2 = t) : hasB l f t = true := by
  rw [hasB_iff, ← h1, ← h2]; exact List.getElem_mem h
theorem hasB_next {l : List (Int × Int)} {f t : Int} {k : Nat} (h : k < l.length) (h0 : hasB (l.take k) f t = false) (hne : l[k] ≠ (f, t)) : hasB (l.take (k + 1)) f t = false := by
  rw [hasB_false] at h0 ⊢
  rw [List.take_succ_eq_append_getElem h, List.mem_append]
  rintro (h1 | h1)
  · exact h0 h1
  · rw [List.mem_singleton] at h1; exact hne h1.symm

set_option maxHeartbeats 1000000 in
theorem r10Valid_any (A : Option Addr) (N : Int) (l : List (Int × Int)) (c : Nat) (w : World) (hr : RP w A l) (hlen : l.length ≤ 100000) :
    Calls Tryd.prog 93 #[.agg #[.int .i64 N, .slice A l.length c]] w (RetGA A (nGn N l) (nGl N l) w) := by
  go_enter Tryd.func93, Tryd.ntmps93
  go_wp2_with fail
  obtain ⟨W0, hW, k0, k1, hb0, hlt0⟩ := boxed2 w 27 27 (.int .i64 N) (.slice A l.length c) (.int .i64 0) (.slice none 0 0)
  rw [hW]
  have hr0 := hr.below hb0
  have hltA : ∀ b o, A = some ⟨b, o, none⟩ → 0 < l.length → b ≠ w.heap.size + 1 := fun b o hA hl => by have := hr.lt hA hl; omega
  clear hW hr
  refine (r10Validate_any _ _ _ _ _ hr0 hlen).mono ?_
  rintro e w1 ⟨rfl, hb⟩
  have j0 := k0.below hb k0.lt
  have j1 := k1.below hb k1.lt
  have hr1 := hr0.below hb
  obtain ⟨a0, a1, a2, a3⟩ := j0.two
  obtain ⟨b0, b1, b2, b3⟩ := j1.two
  have hB1 := Nat.le_of_lt hlt0
  have hend : ∀ x y : Value, Below w.heap.size w ((w1.setCell ⟨w.heap.size + 1, 0, none⟩ x).setCell ⟨w.heap.size + 1, 1, none⟩ y) := fun x y =>
    ((endB hb0 hb).setCell (p := ⟨w.heap.size + 1, 0, none⟩) (by simp) x).setCell (p := ⟨w.heap.size + 1, 1, none⟩) (by simp) y
  clear k0 k1
  by_cases hv : valE N l = 0
  · have hd : (valE N l != 0) = false := by simp [hv]
    have Hv := Lib.hid hv; clear hv
    go_wp2_with fail
    have j2 : Blk _ (w.heap.size + 1) 27 #[.int .i64 N, .slice A l.length c] := (j1.set_ 0 (.int .i64 N)).set_ 1 (.slice A l.length c)
    have hr2 : RP _ A l := hr1.far2 hltA (.int .i64 N) (.slice A l.length c)
    have hE := hend (.int .i64 N) (.slice A l.length c)
    generalize (w1.setCell ⟨w.heap.size + 1, 0, none⟩ (.int .i64 N)).setCell ⟨w.heap.size + 1, 1, none⟩ (.slice A l.length c) = W2 at j2 hr2 hE ⊢
    obtain ⟨e0, e1, _, _⟩ := j2.two
    refine bodyPost_ret (v := .agg #[.int .i64 N, .slice A l.length c]) (by simp [results, Tryd.results93, go_sem, e0, e1]) rfl ?_
    simp only [nGn, nGl, if_pos Hv.out]
    exact ⟨A, c, rfl, hr2, .inl rfl, hE⟩
  · have hd : (valE N l != 0) = true := by simp [hv]
    have Hv := Lib.hid hv; clear hv
    go_wp2_with fail
    have j2 : Blk _ (w.heap.size + 1) 27 #[.int .i64 0, .slice none 0 0] := (j1.set_ 0 (.int .i64 0)).set_ 1 (.slice none 0 0)
    have hE := hend (.int .i64 0) (.slice none 0 0)
    generalize (w1.setCell ⟨w.heap.size + 1, 0, none⟩ (.int .i64 0)).setCell ⟨w.heap.size + 1, 1, none⟩ (.slice none 0 0) = W2 at j2 hE ⊢
    obtain ⟨e0, e1, _, _⟩ := j2.two
    refine bodyPost_ret (v := .agg #[.int .i64 0, .slice none 0 0]) (by simp [results, Tryd.results93, go_sem, e0, e1]) rfl ?_
    simp only [nGn, nGl, if_neg Hv.out]
    exact ⟨none, 0, rfl, RP.nil _ _, .inr rfl, hE⟩

end Go.Proofs.YtiljbfeipfdmdaaDoor
