/- The reader of numbers (keep.Src): New, Raw, N, Part. -/
import Derived.Test.YtiljbfeipfdmdaaDoorKeep
namespace Go.Proofs.YtiljbfeipfdmdaaDoor
open Go.ChangeShapes Go.WideShapes Go.ChangeAt Go.RowKit

/-- block g is just the cells cs of element type t, none of them frozen -/
def Blk (w : World) (g : Nat) (t : TypeId) (cs : Array Value) : Prop := w.heap[g]? = some (.cells cs t (0, 0))
section
variable {w w' : World} {g : Nat} {t : TypeId} {cs : Array Value}
theorem Blk.lt (h : Blk w g t cs) : g < w.heap.size := by
  rcases Nat.lt_or_ge g w.heap.size with hlt | hge
  · exact hlt
  · unfold Blk at h; rw [Array.getElem?_eq_none hge] at h; cases h
theorem Blk.cell (h : Blk w g t cs) (i : Nat) : w.cell? ⟨g, i, none⟩ = cs[i]? := cell_of_row w g i cs t (0, 0) h
theorem Blk.frozen (h : Blk w g t cs) (i : Nat) : w.frozen? ⟨g, i, none⟩ = false := by
  unfold Blk at h
  simp [World.frozen?, h]
theorem Blk.new (w : World) (t : TypeId) (cs : Array Value) : Blk (w.alloc (.cells cs t)) w.heap.size t cs := heap_alloc_new w _
theorem Blk.drewN (h : Blk w g t cs) (n : Nat) : Blk (w.drewN n) g t cs := h
theorem Blk.alloc (h : Blk w g t cs) (o : Obj) : Blk (w.alloc o) g t cs := (Below.heap_alloc w o g h.lt).trans h
theorem Blk.set_ (h : Blk w g t cs) (i : Nat) (u : Value) : Blk (w.setCell ⟨g, i, none⟩ u) g t (cs.setIfInBounds i u) := by
  unfold Blk at h ⊢
  simp [World.setCell, Array.getElem?_modify, h]
theorem Blk.far (h : Blk w g t cs) {p : Addr} (hp : g ≠ p.block) (u : Value) : Blk (w.setCell p u) g t cs := (Below.heap_setCell w p u g hp).trans h
theorem Blk.below {B : Nat} (h : Blk w g t cs) (hb : Below B w w') (hg : g < B) : Blk w' g t cs := (hb.block g hg).trans h
theorem Blk.grown {row : Option Nat} (h : Blk w g t cs) (hb : w.grownBy w' row) (hg : some g ≠ row) : Blk w' g t cs := (hb.block g h.lt hg).trans h
end

/-- two new blocks -/
theorem boxed2 (w : World) (t u : TypeId) (x y x' y' : Value) : ∃ W0, (w.alloc (.cells #[x, y] t)).alloc (.cells #[x', y'] u) = W0 ∧ Blk W0 w.heap.size t #[x, y] ∧ Blk W0 (w.heap.size + 1) u #[x', y'] ∧ Below w.heap.size w W0 ∧ w.heap.size + 1 < W0.heap.size := by
  refine ⟨_, rfl, (Blk.new w t _).alloc _, ?_, ((Below.refl _ _).alloc (Nat.le_refl _) _).alloc (by simp) _, by simp⟩
  have := Blk.new (w.alloc (.cells #[x, y] t)) u #[x', y']
  simpa using this
theorem Blk.two {w : World} {g : Nat} {t : TypeId} {x y : Value} (h : Blk w g t #[x, y]) : w.cell? ⟨g, 0, none⟩ = some x ∧ w.cell? ⟨g, 1, none⟩ = some y ∧ w.frozen? ⟨g, 0, none⟩ = false ∧ w.frozen? ⟨g, 1, none⟩ = false :=
  ⟨by rw [h.cell]; rfl, by rw [h.cell]; rfl, h.frozen 0, h.frozen 1⟩

theorem grownBy_setCell (w : World) (g i : Nat) (u : Value) : w.grownBy (w.setCell ⟨g, i, none⟩ u) (some g) :=
  ⟨rfl, rfl, rfl, by simp [World.setCell], fun k _ hne => Below.heap_setCell w ⟨g, i, none⟩ u k (fun e => hne (congrArg some e))⟩
theorem grownBy_refl (w : World) (row : Option Nat) : w.grownBy w row := ⟨rfl, rfl, rfl, Nat.le_refl _, fun _ _ _ => rfl⟩
theorem grownBy_trans {a b c : World} {row : Option Nat} (h : a.grownBy b row) (k : b.grownBy c row) : a.grownBy c row :=
  ⟨k.os.trans h.os, k.tape.trans h.tape, k.output.trans h.output, Nat.le_trans h.size k.size, fun i hi hne => (k.block i (Nat.lt_of_lt_of_le hi h.size) hne).trans (h.block i hi hne)⟩
theorem grownBy_drewN {a w : World} {row : Option Nat} (h : a.grownBy w row) (n : Nat) : a.grownBy (w.drewN n) row := ⟨h.os, h.tape, h.output, h.size, h.block⟩
theorem grownBy_of_below {a w : World} (h : Below a.heap.size a w) (row : Option Nat) : a.grownBy w row := ⟨h.os, h.tape, h.output, h.size, fun i hi _ => h.block i hi⟩
theorem below_of_grownBy {a w : World} {g B : Nat} (h : a.grownBy w (some g)) (hB : B ≤ g) (hB2 : B ≤ a.heap.size) : Below B a w :=
  ⟨h.os, h.tape, h.output, h.size, fun i hi => h.block i (by omega) (fun e => by injection e; omega)⟩

/-- p is the block of a reader: numbers that lie below p, at most 2000, and a place among them -/
def SrcOk (w : World) (p : Nat) : Prop :=
  ∃ (A : Option Addr) (l : List Int) (c at_ : Nat), Blk w p 55 #[.slice A l.length c, .int .i64 at_] ∧ at_ ≤ l.length ∧ l.length ≤ 2000 ∧
    (∀ k, k < l.length → ∃ b o, A = some ⟨b, o, none⟩ ∧ b < p ∧ w.cell? ⟨b, o + k, none⟩ = some (.int .i64 (l.getD k 0))) ∧ (∀ x ∈ l, -9223372036854775808 ≤ x ∧ x ≤ 9223372036854775807)

theorem SrcOk.lt {w : World} {p : Nat} (h : SrcOk w p) : p < w.heap.size := by
  obtain ⟨_, _, _, _, h, _⟩ := h
  exact h.lt
theorem SrcOk.kept {w w' : World} {p : Nat} (h : SrcOk w p) (hb : Below w.heap.size w w') : SrcOk w' p := by
  have hlt := h.lt
  obtain ⟨A, l, c, at_, h1, h2, h3, h4, h5⟩ := h
  refine ⟨A, l, c, at_, h1.below hb hlt, h2, h3, fun k hk => ?_, h5⟩
  obtain ⟨b, o, hA, hlt', hc⟩ := h4 k hk
  exact ⟨b, o, hA, hlt', (hb.cell (p := ⟨b, o + k, none⟩) (lt_of_cell hc)).trans hc⟩
theorem SrcOk.other {w w' : World} {p : Nat} {row : Option Nat} (h : SrcOk w p) (hb : w.grownBy w' row) (hr : ∀ k, row = some k → p < k) : SrcOk w' p := by
  have hlt := h.lt
  obtain ⟨A, l, c, at_, h1, h2, h3, h4, h5⟩ := h
  refine ⟨A, l, c, at_, h1.grown hb (fun e => by have := hr _ e.symm; omega), h2, h3, fun k hk => ?_, h5⟩
  obtain ⟨b, o, hA, hlt', hc⟩ := h4 k hk
  exact ⟨b, o, hA, hlt', hb.cell hc (fun e => by have := hr _ e.symm; simp at this; omega)⟩

/-- the call returns a number between lo and hi; the reader has gone on -/
def RetN (lo hi : Int) (w : World) (p : Nat) : Ending → World → Prop :=
  fun e w' => ∃ v : Int, e = .returned (.int .i64 v) ∧ lo ≤ v ∧ v ≤ hi ∧ SrcOk w' p ∧ w.grownBy w' (some p)

set_option maxHeartbeats 400000 in
theorem raw_any (p : Nat) (w : World) (h : SrcOk w p) :
    Calls Tryd.prog 57 #[.pointer (some ⟨p, 0, none⟩)] w (RetN (-9223372036854775808) 9223372036854775807 w p) := by
  have h0 := h
  obtain ⟨A, l, c, at_, hb, hat, hl, hcells, hx⟩ := h
  have Hx := Lib.hid hx; have H0 := Lib.hid h0; clear hx h0
  have c0 : w.cell? ⟨p, 0, none⟩ = some (.slice A l.length c) := by rw [hb.cell]; rfl
  have c1 : w.cell? ⟨p, 1, none⟩ = some (.int .i64 at_) := by rw [hb.cell]; rfl
  have f1 : w.frozen? ⟨p, 1, none⟩ = false := hb.frozen 1
  by_cases hlt : at_ < l.length
  · obtain ⟨b, o, rfl, hbp, hc⟩ := hcells at_ hlt
    have hc' : (w.setCell ⟨p, 1, none⟩ (.int .i64 (at_ + 1))).cell? ⟨b, o + at_, none⟩ = some (.int .i64 (l.getD at_ 0)) := by
      rw [World.cell?_setCell_other _ _ _ _ (fun e => by injection e with e; omega)]; exact hc
    have hge : decide ((l.length : Int) ≤ (at_ : Int)) = false := by simp; omega
    go_enter Tryd.func57, Tryd.ntmps57
    go_wp2
    go_quiet (fail)
    go_wp2
    have B1 := Blk.set_ (hb.drewN nq) 1 (.int .i64 ((at_ : Int) + 1))
    have G1 := grownBy_trans (grownBy_drewN (grownBy_refl w (some p)) nq) (grownBy_setCell (w.drewN nq) p 1 (.int .i64 ((at_ : Int) + 1)))
    generalize (w.drewN nq).setCell ⟨p, 1, none⟩ (.int .i64 ((at_ : Int) + 1)) = w1 at B1 G1 ⊢
    have g0 : w1.cell? ⟨p, 0, none⟩ = some (.slice (some ⟨b, o, none⟩) l.length c) := by rw [B1.cell]; rfl
    have g1 : w1.cell? ⟨p, 1, none⟩ = some (.int .i64 ((at_ : Int) + 1)) := by rw [B1.cell]; rfl
    have g2 : w1.cell? ⟨b, o + at_, none⟩ = some (.int .i64 (l.getD at_ 0)) := G1.cell hc (by simp; omega)
    clear c0 c1 f1 hc hge
    go_quiet (fail)
    go_wp2
    go_ret
    have hm := Hx.out (l.getD at_ 0) (by simp [List.getD, hlt])
    refine ⟨l.getD at_ 0, by simp [List.getD, hlt], hm.1, hm.2, ?_, grownBy_drewN G1 _⟩
    refine ⟨some ⟨b, o, none⟩, l, c, at_ + 1, B1, hlt, hl, fun k hk => ?_, Hx.out⟩
    obtain ⟨b', o', hA, hlt', hc⟩ := hcells k hk
    exact ⟨b', o', hA, hlt', (G1.cell hc (by simp; omega))⟩
  · have hge : decide ((l.length : Int) ≤ (at_ : Int)) = true := by simp; omega
    go_enter Tryd.func57, Tryd.ntmps57
    go_wp2
    go_quiet (fail)
    go_wp2
    go_ret
    exact ⟨0, rfl, by decide, by decide, H0.out, grownBy_drewN (grownBy_refl _ _) _⟩

set_option maxHeartbeats 400000 in
theorem n_any (p : Nat) (n : Int) (w : World) (h : SrcOk w p) (h1 : 1 ≤ n) (h2 : n ≤ 4611686018427387904) :
    Calls Tryd.prog 18 #[.pointer (some ⟨p, 0, none⟩), .int .i64 n] w (RetN 0 (n - 1) w p) := by
  go_enter Tryd.func18, Tryd.ntmps18
  go_wp2_with fail
  refine (raw_any p w h).mono ?_
  rintro e w1 ⟨v, rfl, hv1, hv2, hs, hg⟩
  go_wp2_with fail
  refine (mod_any v n w1 h2 (by omega)).mono ?_
  rintro e w2 ⟨rfl, rfl⟩
  have hr := modI_range v n h1
  go_wp2_with fail
  go_ret
  exact ⟨modI v n, rfl, hr.1, by omega, hs, hg⟩

set_option maxHeartbeats 400000 in
theorem n_zero (p : Nat) (n : Int) (w : World) (h : SrcOk w p) (h1 : n ≤ 0) (h2 : -4611686018427387904 ≤ n) :
    Calls Tryd.prog 18 #[.pointer (some ⟨p, 0, none⟩), .int .i64 n] w (RetN 0 0 w p) := by
  go_enter Tryd.func18, Tryd.ntmps18
  go_wp2_with fail
  refine (raw_any p w h).mono ?_
  rintro e w1 ⟨v, rfl, hv1, hv2, hs, hg⟩
  go_wp2_with fail
  refine (mod_any v n w1 (by omega) h2).mono ?_
  rintro e w2 ⟨rfl, rfl⟩
  go_wp2_with fail
  go_ret
  have hr := modI_neg (x := v) (n := n) (by omega)
  exact ⟨modI v n, rfl, by omega, by omega, hs, hg⟩

/-- the call returns a new reader -/
def RetNew (w : World) : Ending → World → Prop :=
  fun e w' => ∃ p, e = .returned (.pointer (some ⟨p, 0, none⟩)) ∧ w.heap.size ≤ p ∧ SrcOk w' p ∧ Below w.heap.size w w'

set_option maxHeartbeats 400000 in
theorem new_any (A : Option Addr) (l : List Int) (c : Nat) (w : World) (hlc : l.length ≤ c) (hc : c ≤ 9223372036854775807) (hr : RI w A l) (hx : ∀ x ∈ l, -9223372036854775808 ≤ x ∧ x ≤ 9223372036854775807) :
    Calls Tryd.prog 15 #[.slice A l.length c] w (RetNew w) := by
  have hr' : ∀ k, k < l.length → ∃ b o, A = some ⟨b, o, none⟩ ∧ b < w.heap.size ∧ w.cell? ⟨b, o + k, none⟩ = some (.int .i64 (l.getD k 0)) := fun k hk => by
    obtain ⟨b, o, h1, h2⟩ := hr k hk
    exact ⟨b, o, h1, lt_of_cell h2, h2⟩
  have Hx := Lib.hid hx; have Hr := Lib.hid hr'; clear hx hr hr'
  by_cases h2000 : 2000 < l.length
  · go_enter Tryd.func15, Tryd.ntmps15
    go_wp2
    go_ret
    refine ⟨w.heap.size, rfl, Nat.le_refl _, ⟨A, l.take 2000, c, 0, ?_, by simp, by simp; omega, fun k hk => ?_, fun x hm => Hx.out x (List.mem_of_mem_take hm)⟩, (Below.refl _ _).alloc (Nat.le_refl _) _⟩
    · have : (l.take 2000).length = 2000 := by simp; omega
      rw [this]; exact Blk.new w _ _
    · have hk' : k < 2000 := by simp at hk; omega
      obtain ⟨b, o, h1, h2, h3⟩ := Hr.out k (by omega)
      refine ⟨b, o, h1, h2, ?_⟩
      rw [World.cell?_alloc_lt w _ _ (by exact h2), h3]
      simp [List.getD, hk']
  · go_enter Tryd.func15, Tryd.ntmps15
    go_wp2
    go_ret
    refine ⟨w.heap.size, rfl, Nat.le_refl _, ⟨A, l, c, 0, Blk.new w _ _, by simp, by omega, fun k hk => ?_, Hx.out⟩, (Below.refl _ _).alloc (Nat.le_refl _) _⟩
    obtain ⟨b, o, h1, h2, h3⟩ := Hr.out k hk
    exact ⟨b, o, h1, h2, by rw [World.cell?_alloc_lt w _ _ (by exact h2), h3]⟩
end Go.Proofs.YtiljbfeipfdmdaaDoor
